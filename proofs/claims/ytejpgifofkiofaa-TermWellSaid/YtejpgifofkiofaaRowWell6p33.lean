/-
  term.Shift: what its closures do. Indexes that grow: what Shift is in plain Lean. Long forms and shifted terms are well typed: the plain law. How large long forms are, and that their indexes fit. term.Loose.
-/
import Derived.Test.YtejpgifofkiofaaRowWell6p18
import Derived.Laws.EntriesVeiled
import Derived.Test.YtejpgifofkiofaaRowWell6p27
import Derived.Test.YtejpgifofkiofaaRowWell6p12
import Derived.Test.YtejpgifofkiofaaRowWell6p14
import Derived.Test.YtejpgifofkiofaaRowWell6p30
set_option linter.unusedVariables false
set_option linter.unusedSimpArgs false
namespace Go.Proofs.Ytejpgifofkiofaa
open Go.RowKit

def noteOf (e c : Int) : Int := if e = 0 ∨ c < e then c else e

theorem shift1_k (w : World) (c e : Int) (pe : Nat) (he : Blk w pe #[.int .i64 e] 52) : Calls Try.prog 91 #[.int .i64 c, .pointer (some ⟨pe, 0, none⟩)] w fun r w' => (∃ v, r = .returned v) ∧ Blk w' pe #[.int .i64 (noteOf e c)] 52 ∧ w.grownBy w' (some pe) := by
  have c0 : w.cell? ⟨pe, 0, none⟩ = some (.int .i64 e) := he.cell rfl
  have f0 := he.free 0
  have hlt := he.lt
  have hset : ∀ v, w.grownBy (w.setCell ⟨pe, 0, none⟩ v) (some pe) := fun v => ⟨rfl, rfl, rfl, by simp, fun k hk hne => Below.heap_setCell _ _ _ _ (fun h => hne (by rw [h]))⟩
  by_cases h0 : e = 0
  · subst h0
    have hn : noteOf 0 c = c := by simp [noteOf]
    have Hs := Lib.hid (hset (.int .i64 c))
    go_enter Try.func91, Try.ntmps91
    go_wp2_with fail
    go_end0
    exact ⟨⟨_, rfl⟩, by rw [hn]; exact he.set 0 _, Hs.out⟩
  · have hg : (e == 0) = false := by simpa using h0
    by_cases h1 : c < e
    · have hn : noteOf e c = c := by simp [noteOf, h1]
      have Hs := Lib.hid (hset (.int .i64 c))
      go_enter Try.func91, Try.ntmps91
      go_wp2_with fail
      go_end0
      exact ⟨⟨_, rfl⟩, by rw [hn]; exact he.set 0 _, Hs.out⟩
    · have hn : noteOf e c = e := by simp [noteOf, h0, h1]
      go_enter Try.func91, Try.ntmps91
      go_wp2_with fail
      go_end0
      exact ⟨⟨_, rfl⟩, by first | exact he | (rw [hn]; exact he), World.grownBy.refl _ _⟩

def argBad (b f x : Int) : Prop := f ≤ x ∧ b < 0 ∧ (b = -9223372036854775808 ∨ x - f < -b)
def longBad (b f x : Int) : Prop := f ≤ x ∧ ((1000 < b) ∨ (0 ≤ b ∧ 1000 - b < x) ∨ (b < 0 ∧ 1000 < x + b))
instance (b f x : Int) : Decidable (argBad b f x) := by unfold argBad; infer_instance
instance (b f x : Int) : Decidable (longBad b f x) := by unfold longBad; infer_instance
def shiftF (b f : Int) (e x : Int) : Int × Int :=
  if x < f then (e, x) else if argBad b f x then (noteOf e 1, 0) else if longBad b f x then (noteOf e 2, 0) else (e, x + b)

def ShiftSt (p0 p1 p2 pe : Nat) (b f : Int) (e : Int) (w : World) : Prop :=
  Blk w p0 #[.int .i64 f] 3 ∧ Blk w p1 #[.int .i64 b] 3 ∧ Blk w p2 #[.func (.func 91) #[] #[.pointer (some ⟨pe, 0, none⟩)]] 127 ∧ Blk w pe #[.int .i64 e] 52 ∧ p0 ≠ pe ∧ p1 ≠ pe ∧ p2 ≠ pe

set_option maxRecDepth 100000 in
set_option maxHeartbeats 1000000 in
theorem shift2_k (p0 p1 p2 pe : Nat) (b f : Int) (hb : -9223372036854775808 ≤ b ∧ b ≤ 9223372036854775807) (hf : 0 ≤ f ∧ f ≤ 9223372036854775807) (w : World) (e x : Int) (hst : ShiftSt p0 p1 p2 pe b f e w) (hx0 : 0 ≤ x) (hx1 : x ≤ 9223372036854775807) :
    Calls Try.prog 92 #[.int .i64 x, .pointer (some ⟨p0, 0, none⟩), .pointer (some ⟨p1, 0, none⟩), .pointer (some ⟨p2, 0, none⟩)] w fun r w' => r = .returned (.int .i64 (shiftF b f e x).2) ∧ ShiftSt p0 p1 p2 pe b f (shiftF b f e x).1 w' ∧ w.grownBy w' (some pe) := by
  obtain ⟨x0, x1, x2, xe, d0, d1, d2⟩ := hst
  have c0 : w.cell? ⟨p0, 0, none⟩ = some (.int .i64 f) := x0.cell rfl
  have c1 : w.cell? ⟨p1, 0, none⟩ = some (.int .i64 b) := x1.cell rfl
  have c2 : w.cell? ⟨p2, 0, none⟩ = some (.func (.func 91) #[] #[.pointer (some ⟨pe, 0, none⟩)]) := x2.cell rfl
  have Hnote : Hid (∀ c, Calls Try.prog 91 #[.int .i64 c, .pointer (some ⟨pe, 0, none⟩)] w fun r w' => (∃ v, r = .returned v) ∧ ShiftSt p0 p1 p2 pe b f (noteOf e c) w' ∧ w.grownBy w' (some pe)) := fun c =>
    (shift1_k w c e pe xe).mono fun r w' ⟨h1, h2, h3⟩ => ⟨h1, ⟨x0.grown h3 (by simpa using Ne.symm d0), x1.grown h3 (by simpa using Ne.symm d1), x2.grown h3 (by simpa using Ne.symm d2), h2, d0, d1, d2⟩, h3⟩
  have Hst : Hid (ShiftSt p0 p1 p2 pe b f e w) := ⟨x0, x1, x2, xe, d0, d1, d2⟩
  clear x0 x1 x2 xe d0 d1 d2
  by_cases hlt : x < f
  · have HF := Lib.hid (show shiftF b f e x = (e, x) by simp [shiftF, hlt])
    go_enter Try.func92, Try.ntmps92
    go_wp2_with fail
    go_ret
    rw [HF.out]
    exact ⟨rfl, Hst.out, World.grownBy.refl _ _⟩
  have hq1 : IntKind.i64.wrap (x - f) = x - f := IntWalk.i64_in _ (by omega)
  by_cases hb0 : b < 0
  · have hb0' : ¬ b ≥ 0 := by omega
    by_cases hmin : b = -9223372036854775808
    · have HF : Hid (shiftF b f e x = (noteOf e 1, 0)) := by
        show _ = _
        unfold shiftF
        rw [if_neg hlt, if_pos ⟨by omega, hb0, .inl hmin⟩]
      have hq2 : IntKind.i64.wrap (-b) = b := by rw [hmin]; rfl
      have hq3 : (b == b) = true := by simp
      clear hmin
      go_enter Try.func92, Try.ntmps92
      go_wp2_with fail
      refine (Hnote.out 1).mono ?_
      rintro r w1 ⟨⟨v, rfl⟩, hs1, hg1⟩
      go_wp2_with fail
      go_ret
      rw [HF.out]
      exact ⟨rfl, hs1, hg1⟩
    have hq2 : IntKind.i64.wrap (-b) = -b := IntWalk.i64_in _ (by omega)
    have hq3 : (b == -b) = false := by simpa using (by omega : ¬ b = -b)
    by_cases hd : x - f < -b
    · have HF : Hid (shiftF b f e x = (noteOf e 1, 0)) := by
        show _ = _
        unfold shiftF
        rw [if_neg hlt, if_pos ⟨by omega, hb0, .inr hd⟩]
      go_enter Try.func92, Try.ntmps92
      go_wp2_with fail
      refine (Hnote.out 1).mono ?_
      rintro r w1 ⟨⟨v, rfl⟩, hs1, hg1⟩
      go_wp2_with fail
      go_ret
      rw [HF.out]
      exact ⟨rfl, hs1, hg1⟩
    have hna : ¬ argBad b f x := by rintro ⟨_, _, h | h⟩ <;> omega
    have hg1 : ¬ b > 1000 := by omega
    have hq4 : IntKind.i64.wrap (x + b) = x + b := IntWalk.i64_in _ (by omega)
    by_cases hl : x + b > 1000
    · have HF : Hid (shiftF b f e x = (noteOf e 2, 0)) := by
        show _ = _
        unfold shiftF
        rw [if_neg hlt, if_neg hna, if_pos ⟨by omega, .inr (.inr ⟨hb0, hl⟩)⟩]
      go_enter Try.func92, Try.ntmps92
      go_wp2_with fail
      refine (Hnote.out 2).mono ?_
      rintro r w1 ⟨⟨v, rfl⟩, hs1, hg1⟩
      go_wp2_with fail
      go_ret
      rw [HF.out]
      exact ⟨rfl, hs1, hg1⟩
    have HF : Hid (shiftF b f e x = (e, x + b)) := by
      show _ = _
      unfold shiftF
      rw [if_neg hlt, if_neg hna, if_neg (by rintro ⟨_, h | h | h⟩ <;> omega)]
    go_enter Try.func92, Try.ntmps92
    go_wp2_with fail
    go_ret
    rw [HF.out]
    exact ⟨rfl, Hst.out, World.grownBy.refl _ _⟩
  have hb0' : b ≥ 0 := by omega
  have hna : ¬ argBad b f x := by rintro ⟨_, h, _⟩; omega
  by_cases hg1 : b > 1000
  · have HF : Hid (shiftF b f e x = (noteOf e 2, 0)) := by
      show _ = _
      unfold shiftF
      rw [if_neg hlt, if_neg hna, if_pos ⟨by omega, .inl hg1⟩]
    go_enter Try.func92, Try.ntmps92
    go_wp2_with fail
    refine (Hnote.out 2).mono ?_
    rintro r w1 ⟨⟨v, rfl⟩, hs1, hg1⟩
    go_wp2_with fail
    go_ret
    rw [HF.out]
    exact ⟨rfl, hs1, hg1⟩
  have hq5 : IntKind.i64.wrap (1000 - b) = 1000 - b := IntWalk.i64_in _ (by omega)
  by_cases hl : x > 1000 - b
  · have HF : Hid (shiftF b f e x = (noteOf e 2, 0)) := by
      show _ = _
      unfold shiftF
      rw [if_neg hlt, if_neg hna, if_pos ⟨by omega, .inr (.inl ⟨hb0', hl⟩)⟩]
    go_enter Try.func92, Try.ntmps92
    go_wp2_with fail
    refine (Hnote.out 2).mono ?_
    rintro r w1 ⟨⟨v, rfl⟩, hs1, hg1⟩
    go_wp2_with fail
    go_ret
    rw [HF.out]
    exact ⟨rfl, hs1, hg1⟩
  have hq4 : IntKind.i64.wrap (x + b) = x + b := IntWalk.i64_in _ (by omega)
  have HF : Hid (shiftF b f e x = (e, x + b)) := by
    show _ = _
    unfold shiftF
    rw [if_neg hlt, if_neg hna, if_neg (by rintro ⟨_, h | h | h⟩ <;> omega)]
  go_enter Try.func92, Try.ntmps92
  go_wp2_with fail
  go_ret
  rw [HF.out]
  exact ⟨rfl, Hst.out, World.grownBy.refl _ _⟩
end Go.Proofs.Ytejpgifofkiofaa

namespace Go.Proofs.Ytejpgifofkiofaa
open Go.RowKit

namespace Tm
mutual
def looses : Tm → Int → List Int
  | .mk b k i a, n => (if k = 0 ∧ n + (b.length : Nat) ≤ i then [i - (n + (b.length : Nat))] else []) ++ loosess a (n + (b.length : Nat))
def loosess : List Tm → Int → List Int
  | [], _ => []
  | t :: l, n => looses t n ++ loosess l n
end
mutual
def mapl (v : Int → Int) : Tm → Int → Tm
  | .mk b k i a, n => .mk b k (if k = 0 ∧ n + (b.length : Nat) ≤ i then n + (b.length : Nat) + v (i - (n + (b.length : Nat))) else i) (mapls v a (n + (b.length : Nat)))
def mapls (v : Int → Int) : List Tm → Int → List Tm
  | [], _ => []
  | t :: l, n => mapl v t n :: mapls v l n
end
theorem looses_eq (b : List Ty) (k i : Int) (a : List Tm) (n m : Int) (hm : n + (b.length : Int) = m) : looses (.mk b k i a) n = (if k = 0 ∧ m ≤ i then [i - m] else []) ++ loosess a m := by subst hm; rw [looses]
theorem mapl_eq (v : Int → Int) (b : List Ty) (k i : Int) (a : List Tm) (n m : Int) (hm : n + (b.length : Int) = m) : mapl v (.mk b k i a) n = .mk b k (if k = 0 ∧ m ≤ i then m + v (i - m) else i) (mapls v a m) := by subst hm; rw [mapl]
theorem loosess_append (l l' : List Tm) (n : Int) : loosess (l ++ l') n = loosess l n ++ loosess l' n := by
  induction l with
  | nil => simp [loosess]
  | cons t l ih => simp [loosess, ih]
theorem mapls_len (v : Int → Int) (l : List Tm) (n : Int) : (mapls v l n).length = l.length := by
  induction l with
  | nil => simp [mapls]
  | cons t l ih => simp [mapls, ih]
theorem mapls_append (v : Int → Int) (l l' : List Tm) (n : Int) : mapls v (l ++ l') n = mapls v l n ++ mapls v l' n := by
  induction l with
  | nil => simp [mapls]
  | cons t l ih => simp [mapls, ih]
theorem loosess_take (l : List Tm) (n : Int) (j : Nat) (h : j < l.length) : loosess (l.take (j + 1)) n = loosess (l.take j) n ++ looses l[j] n := by
  rw [List.take_succ_eq_append_getElem h, loosess_append]; simp [loosess]
theorem mapls_take (v : Int → Int) (l : List Tm) (n : Int) (j : Nat) (h : j < l.length) : mapls v (l.take (j + 1)) n = mapls v (l.take j) n ++ [mapl v l[j] n] := by
  rw [List.take_succ_eq_append_getElem h, mapls_append]; simp [mapls]

section
variable {σ : Type} (g : σ → Int → σ) (v : Int → Int)
theorem turns_split {l : List Tm} (h : ∀ t ∈ l, ∀ s n, turn (fun s x => (g s x, v x)) t s n = ((looses t n).foldl g s, mapl v t n)) : ∀ s n, turns (fun s x => (g s x, v x)) l s n = ((loosess l n).foldl g s, mapls v l n) := by
  induction l with
  | nil => intro s n; simp [turns, loosess, mapls]
  | cons t l ih =>
    intro s n
    have h1 := h t (by simp) s n
    have h2 := ih (fun u hu => h u (by simp [hu])) ((looses t n).foldl g s) n
    simp only [turns, h1, h2, loosess, mapls, List.foldl_append]
theorem turn_split (t : Tm) : ∀ s n, turn (fun s x => (g s x, v x)) t s n = ((looses t n).foldl g s, mapl v t n) := by
  induction t using Tm.ind with
  | h b k i a ih =>
    intro s n
    have h := turns_split g v ih
    obtain ⟨m, hm⟩ : ∃ m : Int, n + (b.length : Int) = m := ⟨_, rfl⟩
    rw [looses_eq b k i a n m hm, mapl_eq v b k i a n m hm, turn]
    simp only [hm, h]
    by_cases hc : k = 0 ∧ m ≤ i
    · simp only [if_pos hc, List.cons_append, List.nil_append, List.foldl_cons]
    · simp only [if_neg hc, List.nil_append]
end
theorem mapls_congr {v v' : Int → Int} {l : List Tm} (h : ∀ t ∈ l, ∀ n, (∀ x ∈ looses t n, v x = v' x) → mapl v t n = mapl v' t n) : ∀ n, (∀ x ∈ loosess l n, v x = v' x) → mapls v l n = mapls v' l n := by
  induction l with
  | nil => intro n _; simp [mapls]
  | cons t l ih =>
    intro n hx
    simp only [loosess, List.mem_append] at hx
    rw [mapls, mapls, h t (by simp) n fun x hx' => hx x (.inl hx'), ih (fun u hu => h u (by simp [hu])) n fun x hx' => hx x (.inr hx')]
theorem mapl_congr {v v' : Int → Int} (t : Tm) : ∀ n, (∀ x ∈ looses t n, v x = v' x) → mapl v t n = mapl v' t n := by
  induction t using Tm.ind with
  | h b k i a ih =>
    intro n hx
    obtain ⟨m, hm⟩ : ∃ m : Int, n + (b.length : Int) = m := ⟨_, rfl⟩
    rw [looses_eq b k i a n m hm] at hx
    rw [mapl_eq v b k i a n m hm, mapl_eq v' b k i a n m hm, mapls_congr ih m fun x hx' => hx x (List.mem_append.2 (.inr hx'))]
    by_cases hc : k = 0 ∧ m ≤ i
    · simp only [if_pos hc] at hx ⊢
      rw [hx (i - m) (by simp)]
    · simp only [if_neg hc]
theorem loosess_nonneg {l : List Tm} (h : ∀ t ∈ l, ∀ n, ∀ x ∈ looses t n, 0 ≤ x) : ∀ n, ∀ x ∈ loosess l n, 0 ≤ x := by
  induction l with
  | nil => intro n x hx; simp [loosess] at hx
  | cons t l ih =>
    intro n x hx
    simp only [loosess, List.mem_append] at hx
    rcases hx with hx | hx
    · exact h t (by simp) n x hx
    · exact ih (fun u hu => h u (by simp [hu])) n x hx
theorem looses_nonneg (t : Tm) : ∀ n, ∀ x ∈ looses t n, 0 ≤ x := by
  induction t using Tm.ind with
  | h b k i a ih =>
    intro n x hx
    rw [looses_eq b k i a n _ rfl] at hx
    rcases List.mem_append.1 hx with hx | hx
    · split at hx
      · simp at hx; omega
      · simp at hx
    · exact loosess_nonneg ih _ x hx
end Tm

def shiftE (b f e x : Int) : Int := if x < f then e else if argBad b f x then noteOf e 1 else if longBad b f x then noteOf e 2 else e
def shiftV (b f x : Int) : Int := if x < f then x else if argBad b f x then 0 else if longBad b f x then 0 else x + b
def grow (b f x : Int) : Int := if x < f then x else x + b
theorem shiftF_eq (b f : Int) : shiftF b f = fun e x => (shiftE b f e x, shiftV b f x) := by
  funext e x
  unfold shiftF shiftE shiftV
  split
  · rfl
  · split
    · rfl
    · split <;> rfl

def shiftCode (b f : Int) (l : List Int) : Int := if ∃ x ∈ l, argBad b f x then 1 else if ∃ x ∈ l, longBad b f x then 2 else 0

theorem fold_shiftE (b f : Int) (l : List Int) : ∀ e, (e = 0 ∨ e = 1 ∨ e = 2) → l.foldl (shiftE b f) e = if e = 1 ∨ ∃ x ∈ l, argBad b f x then 1 else if e = 2 ∨ ∃ x ∈ l, longBad b f x then 2 else 0 := by
  induction l with
  | nil => intro e he; rcases he with rfl | rfl | rfl <;> simp
  | cons x l ih =>
    intro e he
    rw [List.foldl_cons]
    by_cases hx : x < f
    · have h1 : ¬ argBad b f x := fun h => by have := h.1; omega
      have h2 : ¬ longBad b f x := fun h => by have := h.1; omega
      rw [show shiftE b f e x = e by simp [shiftE, hx], ih e he]
      simp [h1, h2]
    · by_cases h1 : argBad b f x
      · rw [show shiftE b f e x = 1 by rcases he with rfl | rfl | rfl <;> simp [shiftE, hx, h1, noteOf], ih 1 (by simp)]
        simp [h1]
      · by_cases h2 : longBad b f x
        · have hs : shiftE b f e x = if e = 1 then 1 else 2 := by rcases he with rfl | rfl | rfl <;> simp [shiftE, hx, h1, h2, noteOf]
          rw [hs]
          by_cases he1 : e = 1
          · simp only [if_pos he1]; rw [ih 1 (by simp)]; simp [he1]
          · simp only [if_neg he1]; rw [ih 2 (by simp)]; simp [h1, h2, he1]
        · rw [show shiftE b f e x = e by simp [shiftE, hx, h1, h2], ih e he]
          simp [h1, h2]
theorem fold_code (b f : Int) (l : List Int) : l.foldl (shiftE b f) 0 = shiftCode b f l := by
  rw [fold_shiftE b f l 0 (by simp)]; simp [shiftCode]

def Tm.shift (t : Tm) (b f : Int) : Tm × Int :=
  if f < 0 then (Tm.zero, 1) else if shiftCode b f (t.looses 0) = 0 then (t.mapl (grow b f) 0, 0) else (Tm.zero, shiftCode b f (t.looses 0))

theorem mapl_shiftV (b f : Int) (t : Tm) (n : Int) (h : shiftCode b f (t.looses n) = 0) : t.mapl (shiftV b f) n = t.mapl (grow b f) n := by
  refine Tm.mapl_congr t n fun x hx => ?_
  unfold shiftCode at h
  by_cases ha : ∃ x ∈ t.looses n, argBad b f x
  · rw [if_pos ha] at h; cases h
  · rw [if_neg ha] at h
    by_cases hl : ∃ x ∈ t.looses n, longBad b f x
    · rw [if_pos hl] at h; cases h
    · unfold shiftV grow
      rw [if_neg (fun h' => ha ⟨x, hx, h'⟩), if_neg (fun h' => hl ⟨x, hx, h'⟩)]
end Go.Proofs.Ytejpgifofkiofaa

namespace Go.Proofs.Ytejpgifofkiofaa
open Go.RowKit

theorem headTy_cons {C M X Y : List Ty} {k i : Int} (h : k ≠ 0) : headTy C M X k i = headTy C M Y k i := by
  unfold headTy
  simp [h]
theorem headTy_0i {C M X : List Ty} {i : Int} (h : 0 ≤ i) : headTy C M X 0 i = X.reverse[i.toNat]? := by
  rw [headTy, if_neg (by omega), if_pos rfl]
theorem headTy_beyond {C M X l : List Ty} {i : Int} (h : 0 ≤ i) : headTy C M (X ++ l) 0 (i + l.length) = headTy C M X 0 i := by
  rw [headTy_0i (by omega), headTy_0i h, List.reverse_append, List.getElem?_append_right (by simp; omega)]
  congr 1
  simp; omega
theorem headTy_last {C M X l : List Ty} {i : Int} (h : 0 ≤ i) (hl : i < l.length) : headTy C M (X ++ l) 0 i = headTy C M l 0 i := by
  rw [headTy_0i h, headTy_0i h, List.reverse_append, List.getElem?_append_left (by simp; omega)]

theorem eta_isOf {C M : List Ty} (a : Ty) : ∀ (X : List Ty) (k i : Int), headTy C M X k i = some a → IsOf C M (Ty.eta a k i) X a := by
  induction a using Ty.ind with
  | h l b ih =>
    intro X k i hh
    rw [Ty.eta_eq, isOf_mk]
    have hi : 0 ≤ i := by
      rcases Int.lt_or_le i 0 with h | h
      · rw [headTy_neg h] at hh; cases hh
      · exact h
    refine ⟨rfl, .mk l b, ?_, rfl, ?_⟩
    · by_cases hk : k = 0
      · subst hk
        rw [if_pos rfl, headTy_beyond hi, hh]
      · rw [if_neg hk, headTy_cons (Y := X) hk, hh]
    · rw [isOfs_iff]
      refine ⟨by rw [Ty.etas_len]; rfl, fun j h h' => ?_⟩
      have hj : j < l.length := by rw [Ty.etas_len] at h; exact h
      rw [Ty.etas_get l j hj]
      refine ih _ (List.getElem_mem hj) _ _ _ ?_
      rw [headTy_last (by omega) (by omega), headTy_0i (by omega), show ((l.length : Int) - 1 - (j : Int)).toNat = l.length - 1 - j by omega, List.getElem?_reverse (by omega), show l.length - 1 - (l.length - 1 - j) = j by omega, List.getElem?_eq_getElem hj]

theorem isOf_loose {C M X : List Ty} (t : Tm) : ∀ (Y : List Ty) (u : Ty), IsOf C M t (X ++ Y) u → ∀ x ∈ t.looses Y.length, x < X.length := by
  induction t using Tm.ind with
  | h b k i a ih =>
    intro Y u h x hx
    rw [isOf_mk] at h
    obtain ⟨rfl, h1, hh, _, hs⟩ := h
    rw [Tm.looses_eq _ _ _ _ _ ((Y ++ u.args).length : Int) (by simp)] at hx
    rcases List.mem_append.1 hx with h5 | hx
    · by_cases hc : k = 0 ∧ ((Y ++ u.args).length : Int) ≤ i
      · obtain ⟨rfl, hi⟩ := hc
        rw [if_pos ⟨rfl, hi⟩] at h5
        have h6 : x = i - ((Y ++ u.args).length : Int) := List.mem_singleton.1 h5
        rw [h6]
        rw [List.append_assoc, headTy_0i (by omega)] at hh
        have := (List.getElem?_eq_some_iff.1 hh).1
        rw [List.length_reverse, List.length_append] at this
        omega
      · rw [if_neg hc] at h5; cases h5
    · rw [isOfs_iff] at hs
      have key : ∀ (l : List Tm), (∀ t ∈ l, t ∈ a ∧ ∃ u', IsOf C M t ((X ++ Y) ++ u.args) u') → ∀ x ∈ Tm.loosess l ((Y ++ u.args).length : Int), x < X.length := by
        intro l
        induction l with
        | nil => intro _ x hx; simp [Tm.loosess] at hx
        | cons t l ihl =>
          intro hl x hx
          rw [Tm.loosess] at hx
          rcases List.mem_append.1 hx with hx | hx
          · obtain ⟨hm, u', hu'⟩ := hl t (by simp)
            rw [List.append_assoc] at hu'
            exact ih t hm (Y ++ u.args) u' hu' x hx
          · exact ihl (fun t ht => hl t (by simp [ht])) x hx
      refine key a (fun t ht => ⟨ht, ?_⟩) x hx
      obtain ⟨j, hj, rfl⟩ := List.getElem_of_mem ht
      exact ⟨_, hs.2 j hj (by omega)⟩

theorem mapls_get {v : Int → Int} {l : List Tm} {n : Int} {j : Nat} (h : j < l.length) : (Tm.mapls v l n)[j]'(by rw [Tm.mapls_len]; exact h) = Tm.mapl v l[j] n := by
  have h1 := Tm.mapls_take v l n j h
  have h2 : (Tm.mapls v (l.take (j + 1)) n)[j]? = some (Tm.mapl v l[j] n) := by
    rw [h1, List.getElem?_append_right (by rw [Tm.mapls_len]; simp; omega)]
    simp [Tm.mapls_len, Nat.min_eq_left (Nat.le_of_lt h)]
  have h3 := Tm.mapls_append v (l.take (j + 1)) (l.drop (j + 1)) n
  rw [List.take_append_drop] at h3
  have h4 : (Tm.mapls v l n)[j]? = some (Tm.mapl v l[j] n) := by
    rw [h3, List.getElem?_append_left (by rw [Tm.mapls_len]; simp; omega)]; exact h2
  exact (List.getElem?_eq_some_iff.1 h4).2

theorem isOf_shift {C M X Z : List Ty} (t : Tm) : ∀ (Y : List Ty) (u : Ty), IsOf C M t (X ++ Y) u → IsOf C M (t.mapl (grow Z.length 0) Y.length) ((X ++ Z) ++ Y) u := by
  induction t using Tm.ind with
  | h b k i a ih =>
    intro Y u h
    rw [isOf_mk] at h
    obtain ⟨rfl, h1, hh, hb, hs⟩ := h
    rw [Tm.mapl_eq _ _ _ _ _ _ ((Y ++ u.args).length : Int) (by simp), isOf_mk]
    refine ⟨rfl, h1, ?_, hb, ?_⟩
    · by_cases hk : k = 0
      · subst hk
        have hi : 0 ≤ i := by
          rcases Int.lt_or_le i 0 with h | h
          · rw [headTy_neg h] at hh; cases hh
          · exact h
        by_cases hm : ((Y ++ u.args).length : Int) ≤ i
        · rw [if_pos ⟨rfl, hm⟩, grow, if_neg (by omega)]
          have e1 : headTy C M (X ++ (Y ++ u.args)) 0 ((i - ((Y ++ u.args).length : Int)) + ((Y ++ u.args).length : Nat)) = headTy C M X 0 (i - ((Y ++ u.args).length : Int)) := headTy_beyond (by omega)
          have e2 : headTy C M ((X ++ Z) ++ (Y ++ u.args)) 0 ((i - ((Y ++ u.args).length : Int) + (Z.length : Nat)) + ((Y ++ u.args).length : Nat)) = headTy C M (X ++ Z) 0 (i - ((Y ++ u.args).length : Int) + (Z.length : Nat)) := headTy_beyond (by omega)
          have e3 : headTy C M (X ++ Z) 0 ((i - ((Y ++ u.args).length : Int)) + (Z.length : Nat)) = headTy C M X 0 (i - ((Y ++ u.args).length : Int)) := headTy_beyond (by omega)
          rw [List.append_assoc] at hh ⊢
          rw [show i = (i - ((Y ++ u.args).length : Int)) + ((Y ++ u.args).length : Nat) by omega, e1] at hh
          rw [show ((Y ++ u.args).length : Int) + (i - ((Y ++ u.args).length : Int) + (Z.length : Int)) = (i - ((Y ++ u.args).length : Int) + (Z.length : Nat)) + ((Y ++ u.args).length : Nat) by omega, e2, e3, hh]
        · rw [if_neg (by rintro ⟨_, h⟩; exact hm h)]
          rw [List.append_assoc, headTy_last hi (by omega)] at hh
          rw [List.append_assoc, headTy_last hi (by omega), hh]
      · rw [if_neg (by rintro ⟨h, _⟩; exact hk h), headTy_cons (Y := (X ++ Y) ++ u.args) hk, hh]
    · rw [isOfs_iff] at hs ⊢
      refine ⟨by rw [Tm.mapls_len]; exact hs.1, fun j h h' => ?_⟩
      have hj : j < a.length := by rw [Tm.mapls_len] at h; exact h
      rw [mapls_get hj]
      have h2 := hs.2 j hj h'
      rw [List.append_assoc] at h2
      have h3 := ih _ (List.getElem_mem hj) (Y ++ u.args) _ h2
      rw [List.append_assoc]
      exact h3
end Go.Proofs.Ytejpgifofkiofaa

namespace Go.Proofs.Ytejpgifofkiofaa
open Go.RowKit

theorem full_etas {l : List Ty} (h : ∀ t ∈ l, ∀ k i, (Ty.eta t k i).full ≤ t.size * t.size) : Tm.fulls (Ty.etas l) ≤ Ty.sizes l * Ty.sizes l := by
  induction l with
  | nil => simp [Ty.etas, Tm.fulls]
  | cons t l ih =>
    have h1 := h t (by simp) 0 (l.length : Nat)
    have h2 := ih fun u hu => h u (by simp [hu])
    simp only [Ty.etas, Tm.fulls, Ty.sizes]
    have e : (t.size + Ty.sizes l) * (t.size + Ty.sizes l) = t.size * t.size + Ty.sizes l * Ty.sizes l + 2 * (t.size * Ty.sizes l) := by
      rw [Nat.add_mul, Nat.mul_add, Nat.mul_add, Nat.mul_comm (Ty.sizes l) t.size]; omega
    rw [e]; omega
theorem full_eta (t : Ty) : ∀ k i, (Ty.eta t k i).full ≤ t.size * t.size := by
  induction t using Ty.ind with
  | h l b ih =>
    intro k i
    have h := full_etas ih
    rw [Ty.eta_eq, Tm.full_eq, Ty.size_eq]
    have e : (Ty.sizes l + 1) * (Ty.sizes l + 1) = Ty.sizes l * Ty.sizes l + 2 * Ty.sizes l + 1 := by
      rw [Nat.add_mul, Nat.mul_add]; omega
    rw [e]; omega
theorem fit_etas {l : List Ty} (h : ∀ t ∈ l, ∀ k i, (k = 0 → 0 ≤ i ∧ i ≤ 1000000) → (k ≠ 0 → -9223372036854775808 ≤ i ∧ i ≤ 9223372036854775807) → (Ty.eta t k i).Fit) (hl : l.length ≤ 1000000) : ∀ t ∈ Ty.etas l, t.Fit := by
  induction l with
  | nil => simp [Ty.etas]
  | cons t l ih =>
    intro u hu
    simp only [Ty.etas, List.mem_cons] at hu
    simp only [List.length_cons] at hl
    rcases hu with rfl | hu
    · exact h t (by simp) 0 _ (fun _ => by omega) (fun h => absurd rfl h)
    · exact ih (fun u hu => h u (by simp [hu])) (by omega) u hu
theorem fit_eta (t : Ty) (hs : t.size ≤ 1000000) : ∀ k i, (k = 0 → 0 ≤ i ∧ i ≤ 1000000) → (k ≠ 0 → -9223372036854775808 ≤ i ∧ i ≤ 9223372036854775807) → (Ty.eta t k i).Fit := by
  induction t using Ty.ind with
  | h l b ih =>
    intro k i h1 h2
    have hl := Ty.le_sizes l
    rw [Ty.size_eq] at hs
    rw [Ty.eta_eq, Tm.fit_iff]
    refine ⟨?_, ?_, fit_etas (fun t ht k i => ih t ht (by have := Ty.size_mem ht; omega) k i) (by omega)⟩
    · by_cases hk : k = 0
      · rw [if_pos hk]; have := h1 hk; omega
      · rw [if_neg hk]; exact (h2 hk).1
    · by_cases hk : k = 0
      · rw [if_pos hk]; have := h1 hk; omega
      · rw [if_neg hk]; exact (h2 hk).2
theorem fit_Eta (t : Ty) (hs : t.size ≤ 60) (k i : Int) (hi : -9223372036854775808 ≤ i ∧ i ≤ 9223372036854775807) : (Ty.Eta t k i).Fit := by
  unfold Ty.Eta
  by_cases hc : k = 0 ∧ (i < 0 ∨ 1000 < i)
  · rw [if_pos hc]; simp [Tm.zero, Tm.fit_iff]
  · rw [if_neg hc]; exact fit_eta t (by omega) k i (fun hk => by omega) (fun _ => hi)
theorem full_Eta (t : Ty) (hs : t.size ≤ 60) (k i : Int) : (Ty.Eta t k i).full ≤ 3600 := by
  unfold Ty.Eta
  split
  · simp [Tm.zero, Tm.full, Tm.fulls, Ty.sizes]
  · have h := full_eta t k i
    have : t.size * t.size ≤ 60 * 60 := Nat.mul_le_mul hs hs
    omega
theorem eta_sizes_of {l : List Ty} (h : ∀ t ∈ l, ∀ k i, (Ty.eta t k i).size = t.size ∧ (Ty.eta t k i).depth = t.depth) : Tm.sizes (Ty.etas l) = Ty.sizes l ∧ Tm.depths (Ty.etas l) = Ty.depths l := by
  induction l with
  | nil => simp [Ty.etas, Tm.sizes, Ty.sizes, Tm.depths, Ty.depths]
  | cons t l ih =>
    have h1 := h t (by simp) 0 (l.length : Nat)
    have h2 := ih fun u hu => h u (by simp [hu])
    simp only [Ty.etas, Tm.sizes, Ty.sizes, Tm.depths, Ty.depths]
    omega
theorem eta_size (t : Ty) : ∀ k i, (Ty.eta t k i).size = t.size ∧ (Ty.eta t k i).depth = t.depth := by
  induction t using Ty.ind with
  | h l b ih =>
    intro k i
    have h := eta_sizes_of ih
    rw [Ty.eta_eq, Tm.size_eq, Ty.size_eq, Tm.depth_eq, Ty.depth_eq]
    omega
end Go.Proofs.Ytejpgifofkiofaa

namespace Go.Proofs.Ytejpgifofkiofaa
open Go.RowKit Go.Shelf
attribute [local go_sem] Oper.semAt_some

def looseStep (n : Int) (p : Nat × Nat × Tm) : Int := if p.2.2.kind = 0 ∧ (p.1 : Int) ≤ p.2.2.index then max n (min (IntKind.i64.wrap (p.2.2.index - p.1)) 1000 + 1) else n
def looseP (l : List (Nat × Nat × Tm)) : Int := l.foldl looseStep 0
theorem looseP_snoc (l : List (Nat × Nat × Tm)) (p : Nat × Nat × Tm) : looseP (l ++ [p]) = looseStep (looseP l) p := by simp [looseP]
theorem looseStep_range {n : Int} {p : Nat × Nat × Tm} (h : 0 ≤ n ∧ n ≤ 1001) : 0 ≤ looseStep n p ∧ looseStep n p ≤ 1001 := by
  unfold looseStep; split <;> omega
theorem looseP_range (l : List (Nat × Nat × Tm)) : 0 ≤ looseP l ∧ looseP l ≤ 1001 := by
  have : ∀ (l : List (Nat × Nat × Tm)) n, (0 ≤ n ∧ n ≤ 1001) → 0 ≤ l.foldl looseStep n ∧ l.foldl looseStep n ≤ 1001 := by
    intro l
    induction l with
    | nil => intro n h; exact h
    | cons p l ih => intro n h; exact ih _ (looseStep_range h)
  exact this l 0 (by omega)
def looseL (n x : Int) : Int := if (if x > 1000 then 1000 else x) + 1 > n then (if x > 1000 then 1000 else x) + 1 else n

theorem loose_pres_of {l : List Tm} (h : ∀ t ∈ l, ∀ s d n, t.Fit → (t.pre s d).foldl looseStep n = (t.looses s).foldl looseL n) : ∀ s d n, (∀ t ∈ l, t.Fit) → (Tm.pres l s d).foldl looseStep n = (Tm.loosess l s).foldl looseL n := by
  induction l with
  | nil => intro s d n _; simp [Tm.pres, Tm.loosess]
  | cons t l ih =>
    intro s d n hf
    rw [Tm.pres, Tm.loosess, List.foldl_append, List.foldl_append, h t (by simp) s d n (hf t (by simp)), ih (fun u hu => h u (by simp [hu])) s d _ (fun u hu => hf u (by simp [hu]))]
theorem loose_pre (t : Tm) : ∀ (s d : Nat) (n : Int), t.Fit → (t.pre s d).foldl looseStep n = (t.looses s).foldl looseL n := by
  induction t using Tm.ind with
  | h b k i a ih =>
    intro s d n hf
    obtain ⟨hi0, hi1, hfa⟩ := Tm.fit_iff.1 hf
    rw [Tm.pre_eq, Tm.looses_eq _ _ _ _ _ ((s + b.length : Nat) : Int) (by simp), List.foldl_cons, List.foldl_append]
    rw [loose_pres_of ih _ _ _ hfa]
    congr 1
    show (if k = 0 ∧ ((s + b.length : Nat) : Int) ≤ i then _ else _) = _
    by_cases h : k = 0 ∧ ((s + b.length : Nat) : Int) ≤ i
    · have hw : IntKind.i64.wrap (i - ((s + b.length : Nat) : Int)) = i - ((s + b.length : Nat) : Int) := IntWalk.i64_in _ (by omega)
      rw [if_pos h, if_pos h]
      show max n (min (IntKind.i64.wrap (i - ((s + b.length : Nat) : Int))) 1000 + 1) = _
      rw [hw]
      simp only [List.foldl_cons, List.foldl_nil, looseL]
      split <;> split <;> omega
    · rw [if_neg h, if_neg h]; rfl
theorem looseP_pre (t : Tm) (hf : t.Fit) : looseP (t.pre 0 1) = (t.looses 0).foldl looseL 0 := loose_pre t 0 1 0 hf
set_option maxRecDepth 100000 in
set_option maxHeartbeats 2000000 in
theorem loose6_k {F : Nat → Prop} {w : World} {b k i a : Value} {t : Tm} (ht : IsTm F w b k i a t) (hsz : t.full ≤ 500000) (hfit : t.Fit) : Calls Try.prog 69 #[.agg #[b, k, i, a]] w (RetI ((t.looses 0).foldl looseL 0) w) := by
  refine (callsIn_wide (n := 9)).1 ?_
  have Ht := Lib.hid (ht.weaken (F' := fun _ => True) fun _ _ _ => trivial)
  obtain ⟨pa, pc, qa, qc, rfl, rfl, rfl, rfl⟩ := ht.shape
  clear ht
  obtain ⟨x1, hx1⟩ : ∃ x, t.binds.length = x := ⟨_, rfl⟩
  obtain ⟨x2, hx2⟩ : ∃ x, t.args.length = x := ⟨_, rfl⟩
  obtain ⟨x3, hx3⟩ : ∃ x, t.kind = x := ⟨_, rfl⟩
  obtain ⟨x4, hx4⟩ : ∃ x, t.index = x := ⟨_, rfl⟩
  rw [hx1, hx2, hx3, hx4] at Ht ⊢
  clear hx1 hx2 hx3 hx4
  refine callsIn_of_wp_marks Try.func69 rfl trivial ?_ rfl
  simp only [Try.ntmps69, List.size_toArray, List.length_cons, List.length_nil, Nat.reduceAdd, Nat.reduceSub, Array.replicate_succ, Array.replicate_zero, List.push_toArray, List.append_toArray, List.nil_append, List.cons_append]
  gi_wp2_with fail
  refine ⟨trivial, (each6_k _ _ _ _ _ _ ⟨_, _, _, rfl⟩ ⟨_, rfl⟩ ⟨_, rfl⟩ ⟨_, _, _, rfl⟩).mono ?_⟩
  rintro e w' ⟨rfl, rfl⟩
  gi_wp2_with fail
  have hsz' := Lib.hid hsz
  have Hfit := Lib.hid hfit; clear hfit
  have hfl := Tm.size_le_full t
  obtain ⟨w5, hw5⟩ : ∃ w5, ((w.alloc (.cells #[.slice pa x1 pc, .int .i64 x3, .int .i64 x4, .slice qa x2 qc] 37)).alloc (.cells #[.int .i64 0] 3)).alloc (.cells #[.slice pa x1 pc, .int .i64 x3, .int .i64 x4, .slice qa x2 qc] 37) = w5 := ⟨_, rfl⟩
  have hB0 : Below w.heap.size w w5 := by rw [← hw5]; exact (((Below.refl _ w).alloc (Nat.le_refl _) _).alloc (by simp) _).alloc (by simp; omega) _
  have hz : w5.heap.size = w.heap.size + 3 := by rw [← hw5]; simp
  have y2 : Blk w5 (w.heap.size + 1) #[.int .i64 0] 3 := by rw [← hw5]; exact (Blk.new _ _ _ (by simp)).alloc _
  have y3 : Blk w5 (w.heap.size + 1 + 1) #[.slice pa x1 pc, .int .i64 x3, .int .i64 x4, .slice qa x2 qc] 37 := by rw [← hw5]; exact Blk.new _ _ _ (by simp)
  rw [hw5]
  clear hw5
  refine range_softA (Ok := SpotOk) (fun o h => .inl h) rfl (by omega) (gf := 125) (lb := #[.pointer (some ⟨w.heap.size + 1 + 1, 0, none⟩)]) rfl trivial (enters_of Try.func125 (by kernel_rfl) rfl)
    (each6_soft (But w.heap.size (w.heap.size + 2)) (fun k _ _ hk => .inl hk) Ht.out hsz (9 - 1) w5 (fun k _ hk _ => .inr (by omega)) ((Keep.refl _ _).below hB0) (w.heap.size + 1 + 1) y3)
    (fun h h' => h.trans h') (fun W l o o' _ hl ho _ => KeepC.putObj _ W l o o' hl ho) (Below.refl _ _) (fun _ => rfl)
    (fun pre W => Blk W (w.heap.size + 1) #[.int .i64 (looseP (pre.map Hit6.key))] 3 ∧ Below w.heap.size w W)
    (fun _ _ _ => False)
    (Mild.and (mild_blk (by decide) (fun (pre : List (Hit6 (fun _ => True) w)) => #[.int .i64 (looseP (pre.map Hit6.key))])) (mild_below (Nat.le_refl _) (by omega)))
    (fun _ _ _ _ _ hs _ _ => hs)
    ⟨y2, hB0⟩
    (fun x a' W => ∃ Bs Bx, (w.heap.size + 1 < Bs ∧ w.heap.size + 1 < Bx) ∧ Blk W Bs #[.int .i64 x.s, .int .i64 x.d] 148 ∧ Blk W Bx #[.slice x.pb x.t.binds.length x.cb, .int .i64 x.t.kind, .int .i64 x.t.index, .slice x.pa x.t.args.length x.ca] 37 ∧ a' = { tmps := #[.agg #[.slice pa x1 pc, .int .i64 x3, .int .i64 x4, .slice qa x2 qc], .pointer (some ⟨w.heap.size, 0, none⟩), .int .i64 0, .pointer (some ⟨w.heap.size + 1, 0, none⟩), .pointer (some ⟨Bs, 0, none⟩), .pointer (some ⟨Bx, 0, none⟩), .agg #[.slice pa x1 pc, .int .i64 x3, .int .i64 x4, .slice qa x2 qc], .func (.func 125) #[] #[.pointer (some ⟨w.heap.size + 1 + 1, 0, none⟩)], .agg #[.int .i64 x.s, .int .i64 x.d], .agg #[.slice x.pb x.t.binds.length x.cb, .int .i64 x.t.kind, .int .i64 x.t.index, .slice x.pa x.t.args.length x.ca], undef, undef, undef, undef, undef, undef, undef, undef, undef, undef, undef, undef, undef, undef, undef, undef, undef, undef, undef, undef, undef, undef, undef], defers := [] })
    (fun x a' W l o o' hl ho hoc => by
      rintro ⟨Bs, Bx, h1, h2, h3, h4⟩
      have key : ∀ {B : Nat} {cs : Array Value} {T : TypeId}, Blk W B cs T → Blk (W.putObj l o') B cs T := fun {B cs T} h => by
        have hne : l ≠ B := fun e => by
          subst e
          have hb : W.heap[l]? = _ := h
          rw [hb] at ho; cases ho; simp [Obj.isCells] at hoc
        exact (World.putObj_heap_other (Ne.symm hne)).trans h
      exact ⟨Bs, Bx, h1, key h2, key h3, h4⟩) ?assign ?body ?done ?stop
  case assign =>
    rintro l pre x W K ⟨z2, hB⟩ hK
    have HK := Lib.hid hK; clear hK
    simp only [Hit6.enc] at *
    gi_wp2
    have hs := hB.size
    have hlt := z2.lt
    exact HK.out _ _ (((KeepsOthers.alloc _ _).trans (KeepsOthers.alloc _ _)).from _) (((KeepC.refl _ W).alloc _).alloc _) ⟨(z2.alloc _).alloc _, (hB.alloc hs _).alloc (by simp; omega) _⟩ ⟨W.heap.size, W.heap.size + 1, ⟨by omega, by omega⟩, (Blk.new _ _ _ rfl).alloc _, Blk.new _ _ _ (by simp), rfl⟩
  case body =>
    rintro l pre x a' W ⟨z2, hB⟩ hlt ⟨Bs, Bx, hBB, bS, bX, rfl⟩
    have hr := looseP_range (pre.map Hit6.key)
    have Hst := Lib.hid (looseP_snoc (pre.map Hit6.key) x.key)
    obtain ⟨n, hn⟩ : ∃ n, looseP (pre.map Hit6.key) = n := ⟨_, rfl⟩
    rw [hn] at z2 hr Hst
    clear hn
    have c2 : W.cell? ⟨w.heap.size + 1, 0, none⟩ = some (.int .i64 n) := z2.cell rfl
    have f2 := z2.free 0
    have cs0 : W.cell? ⟨Bs, 0, none⟩ = some (.int .i64 x.s) := bS.cell rfl
    have cx1 : W.cell? ⟨Bx, 1, none⟩ = some (.int .i64 x.t.kind) := bX.cell rfl
    have cx2 : W.cell? ⟨Bx, 2, none⟩ = some (.int .i64 x.t.index) := bX.cell rfl
    obtain ⟨kk, hkk⟩ : ∃ k, x.t.kind = k := ⟨_, rfl⟩
    obtain ⟨ii, hii⟩ : ∃ k, x.t.index = k := ⟨_, rfl⟩
    have Hk := Lib.hid hkk; have Hi := Lib.hid hii
    rw [hkk] at cx1 ⊢
    rw [hii] at cx2 ⊢
    clear hkk hii
    have hlen : (pre ++ [x]).map Hit6.key = pre.map Hit6.key ++ [x.key] := by simp
    by_cases hk : kk = 0 ∧ (x.s : Int) ≤ ii
    · obtain ⟨rfl, hi⟩ := hk
      obtain ⟨q, hq⟩ : ∃ q, IntKind.i64.wrap (ii - (x.s : Int)) = q := ⟨_, rfl⟩
      have Hq := Lib.hid hq
      have hqr : -9223372036854775808 ≤ q ∧ q ≤ 9223372036854775807 := by
        have h : (Lit.int .i64 (wrap64 (ii - (x.s : Int)))).wf = true := wrap64_wf _
        have h2 : IntKind.i64.min ≤ wrap64 (ii - (x.s : Int)) ∧ wrap64 (ii - (x.s : Int)) ≤ 9223372036854775807 := by simpa [Lit.wf] using h
        have h3 : IntKind.i64.min = -9223372036854775808 := by rfl
        have h4 : wrap64 (ii - (x.s : Int)) = q := by rw [← IntWalk.i64_left]; exact hq
        omega
      have hq2 : IntKind.i64.wrap (min q 1000 + 1) = min q 1000 + 1 := IntWalk.i64_in _ (by omega)
      have Hn : Hid (looseP (pre.map Hit6.key ++ [x.key]) = max n (min q 1000 + 1)) := by
        show _ = _
        rw [Hst.out, looseStep, if_pos ⟨Hk.out, by rw [Hit6.key]; simp only []; rw [Hi.out]; exact hi⟩]
        show max n (min (IntKind.i64.wrap (x.t.index - x.s)) 1000 + 1) = _
        rw [Hi.out, Hq.out]
      gi_wp2
      refine ⟨(KeepsOthers.setCell _ _ _).from _, (KeepC.refl _ W).setCell _ _ (by simp [But]), ?_, hB.setCell (p := ⟨w.heap.size + 1, 0, none⟩) (by simp) _⟩
      rw [hlen, Hn.out]
      exact z2.set 0 _
    · have Hn : Hid (looseP (pre.map Hit6.key ++ [x.key]) = n) := by
        show _ = _
        rw [Hst.out, looseStep, if_neg]
        rintro ⟨h1, h2⟩
        exact hk ⟨Hk.out.symm.trans h1, by have h3 : (x.s : Int) ≤ x.t.index := h2; rw [Hi.out] at h3; exact h3⟩
      have fin : ∀ (W' : World) (n0 : Nat), W' = W → KeepsFrom n0 W W' ∧ KeepC (But w.heap.size (w.heap.size + 2)) W W' ∧ (Blk W' (w.heap.size + 1) #[.int .i64 (looseP ((pre ++ [x]).map Hit6.key))] 3 ∧ Below w.heap.size w W') := by
        rintro W' n0 rfl
        refine ⟨(KeepsOthers.refl _).from _, KeepC.refl _ _, ?_, hB⟩
        rw [hlen, Hn.out]; exact z2
      have Fin := Lib.hid fin; clear fin
      by_cases hk0 : kk = 0
      · subst hk0
        have hi' : ¬ (x.s : Int) ≤ ii := fun h => hk ⟨rfl, h⟩
        have hi2 : ii < (x.s : Int) := by omega
        gi_wp2
        exact Fin.out _ _ rfl
      · have g0 : (kk == 0) = false := by simpa using hk0
        gi_wp2
        exact Fin.out _ _ rfl
  case done =>
    rintro D ys W hD hys ⟨z2, hB⟩ hK
    have Hys := Lib.hid hys; clear hys
    have hl := looseP_pre t Hfit.out
    rw [← Hys.out] at hl
    obtain ⟨n, hn⟩ : ∃ n, looseP (ys.map Hit6.key) = n := ⟨_, rfl⟩
    rw [hn] at z2 hl
    have Hl := Lib.hid hl
    clear hl hn
    have c2 : W.cell? ⟨w.heap.size + 1, 0, none⟩ = some (.int .i64 n) := z2.cell rfl
    gi_wp2
    refine ⟨by simp, .inl ⟨_, _, rfl, run_takeDeferred hK, ?_⟩⟩
    exact ⟨_, results_tmp rfl _ _ _, by rw [← Hl.out]; rfl, hB.trans (belowK_b (w := w) (Nat.le_refl _) W D _ _ (by omega) hK rfl rfl)⟩
  case stop =>
    rintro D c pre W _ _ h _
    exact h.elim
end Go.Proofs.Ytejpgifofkiofaa

