/-
  Indexes that grow: what Shift is in plain Lean.
-/
import Derived.Test.YtejpgifofkiofaaShift
namespace Go.Proofs.Ytejpgifofkiofaa
open Go.RowKit

namespace Tm
mutual
/-- the loose indexes, each time -/
def looses : Tm → Int → List Int
  | .mk b k i a, n => (if k = 0 ∧ n + (b.length : Nat) ≤ i then [i - (n + (b.length : Nat))] else []) ++ loosess a (n + (b.length : Nat))
def loosess : List Tm → Int → List Int
  | [], _ => []
  | t :: l, n => looses t n ++ loosess l n
end
mutual
/-- each loose index turned by itself -/
def mapl (v : Int → Int) : Tm → Int → Tm
  | .mk b k i a, n => .mk b k (if k = 0 ∧ n + (b.length : Nat) ≤ i then n + (b.length : Nat) + v (i - (n + (b.length : Nat))) else i) (mapls v a (n + (b.length : Nat)))
def mapls (v : Int → Int) : List Tm → Int → List Tm
  | [], _ => []
  | t :: l, n => mapl v t n :: mapls v l n
end
theorem looses_eq (b : List Ty) (k i : Int) (a : List Tm) (n m : Int) (hm : n + (b.length : Int) = m) : looses (.mk b k i a) n = (if k = 0 ∧ m ≤ i then [i - m] else []) ++ loosess a m := by subst hm; rw [looses]
theorem mapl_eq (v : Int → Int) (b : List Ty) (k i : Int) (a : List Tm) (n m : Int) (hm : n + (b.length : Int) = m) : mapl v (.mk b k i a) n = .mk b k (if k = 0 ∧ m ≤ i then m + v (i - m) else i) (mapls v a m) := by subst hm; rw [mapl]
theorem loosess_append (l l' : List Tm) (n : Int) : loosess (l ++ l') n = loosess l n ++ loosess l' n := by
  induction l with
  | nil => simp [loosess]
  | cons t l ih => simp [loosess, ih]
theorem mapls_len (v : Int → Int) (l : List Tm) (n : Int) : (mapls v l n).length = l.length := by
  induction l with
  | nil => simp [mapls]
  | cons t l ih => simp [mapls, ih]
theorem mapls_append (v : Int → Int) (l l' : List Tm) (n : Int) : mapls v (l ++ l') n = mapls v l n ++ mapls v l' n := by
  induction l with
  | nil => simp [mapls]
  | cons t l ih => simp [mapls, ih]
theorem loosess_take (l : List Tm) (n : Int) (j : Nat) (h : j < l.length) : loosess (l.take (j + 1)) n = loosess (l.take j) n ++ looses l[j] n := by
  rw [List.take_succ_eq_append_getElem h, loosess_append]; simp [loosess]
theorem mapls_take (v : Int → Int) (l : List Tm) (n : Int) (j : Nat) (h : j < l.length) : mapls v (l.take (j + 1)) n = mapls v (l.take j) n ++ [mapl v l[j] n] := by
  rw [List.take_succ_eq_append_getElem h, mapls_append]; simp [mapls]

section
variable {σ : Type} (g : σ → Int → σ) (v : Int → Int)
theorem turns_split {l : List Tm} (h : ∀ t ∈ l, ∀ s n, turn (fun s x => (g s x, v x)) t s n = ((looses t n).foldl g s, mapl v t n)) : ∀ s n, turns (fun s x => (g s x, v x)) l s n = ((loosess l n).foldl g s, mapls v l n) := by
  induction l with
  | nil => intro s n; simp [turns, loosess, mapls]
  | cons t l ih =>
    intro s n
    have h1 := h t (by simp) s n
    have h2 := ih (fun u hu => h u (by simp [hu])) ((looses t n).foldl g s) n
    simp only [turns, h1, h2, loosess, mapls, List.foldl_append]
theorem turn_split (t : Tm) : ∀ s n, turn (fun s x => (g s x, v x)) t s n = ((looses t n).foldl g s, mapl v t n) := by
  induction t using Tm.ind with
  | h b k i a ih =>
    intro s n
    have h := turns_split g v ih
    obtain ⟨m, hm⟩ : ∃ m : Int, n + (b.length : Int) = m := ⟨_, rfl⟩
    rw [looses_eq b k i a n m hm, mapl_eq v b k i a n m hm, turn]
    simp only [hm, h]
    by_cases hc : k = 0 ∧ m ≤ i
    · simp only [if_pos hc, List.cons_append, List.nil_append, List.foldl_cons]
    · simp only [if_neg hc, List.nil_append]
end
theorem mapls_congr {v v' : Int → Int} {l : List Tm} (h : ∀ t ∈ l, ∀ n, (∀ x ∈ looses t n, v x = v' x) → mapl v t n = mapl v' t n) : ∀ n, (∀ x ∈ loosess l n, v x = v' x) → mapls v l n = mapls v' l n := by
  induction l with
  | nil => intro n _; simp [mapls]
  | cons t l ih =>
    intro n hx
    simp only [loosess, List.mem_append] at hx
    rw [mapls, mapls, h t (by simp) n fun x hx' => hx x (.inl hx'), ih (fun u hu => h u (by simp [hu])) n fun x hx' => hx x (.inr hx')]
theorem mapl_congr {v v' : Int → Int} (t : Tm) : ∀ n, (∀ x ∈ looses t n, v x = v' x) → mapl v t n = mapl v' t n := by
  induction t using Tm.ind with
  | h b k i a ih =>
    intro n hx
    obtain ⟨m, hm⟩ : ∃ m : Int, n + (b.length : Int) = m := ⟨_, rfl⟩
    rw [looses_eq b k i a n m hm] at hx
    rw [mapl_eq v b k i a n m hm, mapl_eq v' b k i a n m hm, mapls_congr ih m fun x hx' => hx x (List.mem_append.2 (.inr hx'))]
    by_cases hc : k = 0 ∧ m ≤ i
    · simp only [if_pos hc] at hx ⊢
      rw [hx (i - m) (by simp)]
    · simp only [if_neg hc]
theorem loosess_nonneg {l : List Tm} (h : ∀ t ∈ l, ∀ n, ∀ x ∈ looses t n, 0 ≤ x) : ∀ n, ∀ x ∈ loosess l n, 0 ≤ x := by
  induction l with
  | nil => intro n x hx; simp [loosess] at hx
  | cons t l ih =>
    intro n x hx
    simp only [loosess, List.mem_append] at hx
    rcases hx with hx | hx
    · exact h t (by simp) n x hx
    · exact ih (fun u hu => h u (by simp [hu])) n x hx
theorem looses_nonneg (t : Tm) : ∀ n, ∀ x ∈ looses t n, 0 ≤ x := by
  induction t using Tm.ind with
  | h b k i a ih =>
    intro n x hx
    rw [looses_eq b k i a n _ rfl] at hx
    rcases List.mem_append.1 hx with hx | hx
    · split at hx
      · simp at hx; omega
      · simp at hx
    · exact loosess_nonneg ih _ x hx
end Tm

def shiftE (b f e x : Int) : Int := if x < f then e else if argBad b f x then noteOf e 1 else if longBad b f x then noteOf e 2 else e
def shiftV (b f x : Int) : Int := if x < f then x else if argBad b f x then 0 else if longBad b f x then 0 else x + b
def grow (b f x : Int) : Int := if x < f then x else x + b
theorem shiftF_eq (b f : Int) : shiftF b f = fun e x => (shiftE b f e x, shiftV b f x) := by
  funext e x
  unfold shiftF shiftE shiftV
  split
  · rfl
  · split
    · rfl
    · split <;> rfl

/-- the fault of some loose indexes: 0, none -/
def shiftCode (b f : Int) (l : List Int) : Int := if ∃ x ∈ l, argBad b f x then 1 else if ∃ x ∈ l, longBad b f x then 2 else 0

theorem fold_shiftE (b f : Int) (l : List Int) : ∀ e, (e = 0 ∨ e = 1 ∨ e = 2) → l.foldl (shiftE b f) e = if e = 1 ∨ ∃ x ∈ l, argBad b f x then 1 else if e = 2 ∨ ∃ x ∈ l, longBad b f x then 2 else 0 := by
  induction l with
  | nil => intro e he; rcases he with rfl | rfl | rfl <;> simp
  | cons x l ih =>
    intro e he
    rw [List.foldl_cons]
    by_cases hx : x < f
    · have h1 : ¬ argBad b f x := fun h => by have := h.1; omega
      have h2 : ¬ longBad b f x := fun h => by have := h.1; omega
      rw [show shiftE b f e x = e by simp [shiftE, hx], ih e he]
      simp [h1, h2]
    · by_cases h1 : argBad b f x
      · rw [show shiftE b f e x = 1 by rcases he with rfl | rfl | rfl <;> simp [shiftE, hx, h1, noteOf], ih 1 (by simp)]
        simp [h1]
      · by_cases h2 : longBad b f x
        · have hs : shiftE b f e x = if e = 1 then 1 else 2 := by rcases he with rfl | rfl | rfl <;> simp [shiftE, hx, h1, h2, noteOf]
          rw [hs]
          by_cases he1 : e = 1
          · simp only [if_pos he1]; rw [ih 1 (by simp)]; simp [he1]
          · simp only [if_neg he1]; rw [ih 2 (by simp)]; simp [h1, h2, he1]
        · rw [show shiftE b f e x = e by simp [shiftE, hx, h1, h2], ih e he]
          simp [h1, h2]
theorem fold_code (b f : Int) (l : List Int) : l.foldl (shiftE b f) 0 = shiftCode b f l := by
  rw [fold_shiftE b f l 0 (by simp)]; simp [shiftCode]

/-- what Shift hands back -/
def Tm.shift (t : Tm) (b f : Int) : Tm × Int :=
  if f < 0 then (Tm.zero, 1) else if shiftCode b f (t.looses 0) = 0 then (t.mapl (grow b f) 0, 0) else (Tm.zero, shiftCode b f (t.looses 0))

theorem mapl_shiftV (b f : Int) (t : Tm) (n : Int) (h : shiftCode b f (t.looses n) = 0) : t.mapl (shiftV b f) n = t.mapl (grow b f) n := by
  refine Tm.mapl_congr t n fun x hx => ?_
  unfold shiftCode at h
  by_cases ha : ∃ x ∈ t.looses n, argBad b f x
  · rw [if_pos ha] at h; cases h
  · rw [if_neg ha] at h
    by_cases hl : ∃ x ∈ t.looses n, longBad b f x
    · rw [if_pos hl] at h; cases h
    · unfold shiftV grow
      rw [if_neg (fun h' => ha ⟨x, hx, h'⟩), if_neg (fun h' => hl ⟨x, hx, h'⟩)]
end Go.Proofs.Ytejpgifofkiofaa
