/-
  Which of two types is less: by size, by how many arguments, argument by argument, by base; and what that order promises.
-/
import Derived.Test.YtejpgifofkiofaaRefKind
namespace Go.Proofs.Ytejpgifofkiofaa
open Go.RowKit

/-- which of two ints is less -/
def sgn (x y : Int) : Int := if x < y then -1 else if y < x then 1 else 0
/-- the first one that is not nothing -/
def orl (a b : Int) : Int := if a = 0 then b else a
def orls : List Int → Int
  | [] => 0
  | a :: l => orl a (orls l)
@[simp] theorem orl_zero (b : Int) : orl 0 b = b := by simp [orl]
@[simp] theorem orl_zero_right (a : Int) : orl a 0 = a := by unfold orl; split <;> simp_all
theorem orl_eq_zero {a b : Int} : orl a b = 0 ↔ a = 0 ∧ b = 0 := by unfold orl; split <;> simp_all
theorem orl_ne {a b : Int} (h : a ≠ 0) : orl a b = a := by simp [orl, h]
theorem orl_neg (a b : Int) : orl (-a) (-b) = - orl a b := by unfold orl; split <;> split <;> omega
theorem orl_assoc (a b c : Int) : orl (orl a b) c = orl a (orl b c) := by
  unfold orl
  by_cases h : a = 0 <;> simp [h]
theorem sgn_neg (x y : Int) : sgn y x = - sgn x y := by unfold sgn; split <;> split <;> (try split) <;> omega
theorem sgn_zero {x y : Int} : sgn x y = 0 ↔ x = y := by unfold sgn; constructor <;> intro h <;> (repeat split at h) <;> (repeat split) <;> omega
theorem sgn_range (x y : Int) : -1 ≤ sgn x y ∧ sgn x y ≤ 1 := by unfold sgn; repeat split <;> omega
theorem orl_range {a b : Int} (ha : -1 ≤ a ∧ a ≤ 1) (hb : -1 ≤ b ∧ b ≤ 1) : -1 ≤ orl a b ∧ orl a b ≤ 1 := by unfold orl; split <;> omega

/-- three answers that fit: of one and two, of two and three, of one and three -/
def Tri (n m k : Int) : Prop := (n ≤ 0 → m ≤ 0 → k ≤ 0) ∧ (n < 0 → m ≤ 0 → k < 0) ∧ (n ≤ 0 → m < 0 → k < 0)
theorem tri_sgn (x y z : Int) : Tri (sgn x y) (sgn y z) (sgn x z) := by
  unfold Tri sgn
  refine ⟨?_, ?_, ?_⟩ <;> intro h1 h2 <;> (repeat split at h1) <;> (repeat split at h2) <;> (repeat split) <;> omega
theorem tri_orl {n m k n' m' k' : Int} (h : Tri n m k) (h' : n = 0 → m = 0 → k = 0 → Tri n' m' k') (h0 : n = 0 → m = 0 → k = 0) : Tri (orl n n') (orl m m') (orl k k') := by
  obtain ⟨h1, h2, h3⟩ := h
  unfold orl
  by_cases hn : n = 0
  · by_cases hm : m = 0
    · rw [if_pos hn, if_pos hm, if_pos (h0 hn hm)]
      exact h' hn hm (h0 hn hm)
    · rw [if_pos hn, if_neg hm]
      refine ⟨fun a b => ?_, fun a b => ?_, fun a b => ?_⟩ <;> split <;> omega
  · rw [if_neg hn]
    by_cases hm : m = 0
    · rw [if_pos hm]
      refine ⟨fun a b => ?_, fun a b => ?_, fun a b => ?_⟩ <;> split <;> omega
    · rw [if_neg hm]
      refine ⟨fun a b => ?_, fun a b => ?_, fun a b => ?_⟩ <;> split <;> omega

namespace Ty
mutual
/-- which of two types is less -/
def cmp : Ty → Ty → Int
  | .mk l b, .mk l' b' => orl (orl (orl (sgn (Ty.sizes l + 1 : Nat) (Ty.sizes l' + 1 : Nat)) (sgn (l.length : Nat) (l'.length : Nat))) (cmps l l')) (sgn b b')
def cmps : List Ty → List Ty → Int
  | [], _ => 0
  | _ :: _, [] => 0
  | t :: l, u :: l' => orl (cmp t u) (cmps l l')
end
theorem cmp_mk (l l' : List Ty) (b b' : Int) : cmp (.mk l b) (.mk l' b') = orl (orl (orl (sgn (size (.mk l b)) (size (.mk l' b'))) (sgn l.length l'.length)) (cmps l l')) (sgn b b') := by
  rw [cmp]; simp [size]
theorem cmps_cons (t u : Ty) (l l' : List Ty) : cmps (t :: l) (u :: l') = orl (cmp t u) (cmps l l') := by rw [cmps]
@[simp] theorem cmps_nil (l : List Ty) : cmps [] l = 0 := by rw [cmps]

theorem cmps_self_of {l : List Ty} (h : ∀ t ∈ l, cmp t t = 0) : cmps l l = 0 := by
  induction l with
  | nil => simp
  | cons t l ih => rw [cmps_cons, h t (by simp), ih fun u hu => h u (by simp [hu])]; simp
theorem cmp_self (t : Ty) : cmp t t = 0 := by
  induction t using Ty.ind with
  | h l b ih => rw [cmp_mk, cmps_self_of ih]; simp [sgn]
theorem cmps_zero_of {l : List Ty} (h : ∀ t ∈ l, ∀ u, cmp t u = 0 → t = u) : ∀ l', l.length = l'.length → cmps l l' = 0 → l = l' := by
  induction l with
  | nil => intro l' h1; cases l' <;> simp_all
  | cons t l ih =>
    intro l' h1 h2
    cases l' with
    | nil => simp at h1
    | cons u l' =>
      rw [cmps_cons, orl_eq_zero] at h2
      rw [h t (by simp) u h2.1, ih (fun u hu => h u (by simp [hu])) l' (by simpa using h1) h2.2]
theorem eq_of_cmp (t : Ty) : ∀ u, cmp t u = 0 → t = u := by
  induction t using Ty.ind with
  | h l b ih =>
    intro u h
    cases u with
    | mk l' b' =>
      rw [cmp_mk] at h
      simp only [orl_eq_zero, sgn_zero] at h
      rw [cmps_zero_of ih l' (by have := h.1.1.2; omega) h.1.2, h.2]
theorem cmp_zero (t u : Ty) : cmp t u = 0 ↔ t = u := ⟨eq_of_cmp t u, fun h => h ▸ cmp_self t⟩
theorem cmps_zero {l l' : List Ty} (h : l.length = l'.length) : cmps l l' = 0 ↔ l = l' :=
  ⟨cmps_zero_of (fun t _ => eq_of_cmp t) l' h, fun h => h ▸ cmps_self_of fun t _ => cmp_self t⟩
theorem cmps_neg_of {l : List Ty} (h : ∀ t ∈ l, ∀ u, cmp u t = - cmp t u) : ∀ l', cmps l' l = - cmps l l' := by
  induction l with
  | nil => intro l'; cases l' <;> simp [cmps]
  | cons t l ih =>
    intro l'
    cases l' with
    | nil => simp [cmps]
    | cons u l' => rw [cmps_cons, cmps_cons, h t (by simp), ih (fun u hu => h u (by simp [hu])), orl_neg]
theorem cmp_neg (t : Ty) : ∀ u, cmp u t = - cmp t u := by
  induction t using Ty.ind with
  | h l b ih =>
    intro u
    cases u with
    | mk l' b' => rw [cmp_mk, cmp_mk, cmps_neg_of ih, sgn_neg b b', sgn_neg (size (.mk l b)) _, sgn_neg l.length, orl_neg, orl_neg, orl_neg]
theorem cmps_neg (l l' : List Ty) : cmps l' l = - cmps l l' := cmps_neg_of (fun t _ => cmp_neg t) l'
theorem cmps_range_of {l : List Ty} (h : ∀ t ∈ l, ∀ u, -1 ≤ cmp t u ∧ cmp t u ≤ 1) : ∀ l', -1 ≤ cmps l l' ∧ cmps l l' ≤ 1 := by
  induction l with
  | nil => intro l'; simp
  | cons t l ih =>
    intro l'
    cases l' with
    | nil => simp [cmps]
    | cons u l' => rw [cmps_cons]; exact orl_range (h t (by simp) u) (ih (fun u hu => h u (by simp [hu])) l')
theorem cmp_range (t : Ty) : ∀ u, -1 ≤ cmp t u ∧ cmp t u ≤ 1 := by
  induction t using Ty.ind with
  | h l b ih =>
    intro u
    cases u with
    | mk l' b' => rw [cmp_mk]; exact orl_range (orl_range (orl_range (sgn_range _ _) (sgn_range _ _)) (cmps_range_of ih l')) (sgn_range _ _)
theorem cmps_range (l l' : List Ty) : -1 ≤ cmps l l' ∧ cmps l l' ≤ 1 := cmps_range_of (fun t _ => cmp_range t) l'
theorem tri_cmps_of {l : List Ty} (h : ∀ t ∈ l, ∀ u v, Tri (cmp t u) (cmp u v) (cmp t v)) : ∀ l' l'', l.length = l'.length → l'.length = l''.length → Tri (cmps l l') (cmps l' l'') (cmps l l'') := by
  induction l with
  | nil =>
    intro l' l'' h1 h2
    have e1 : l' = [] := by cases l' with
      | nil => rfl
      | cons => simp at h1
    subst e1
    unfold Tri; simp
  | cons t l ih =>
    intro l' l'' h1 h2
    match l', l'' with
    | u :: l', v :: l'' =>
      rw [cmps_cons, cmps_cons, cmps_cons]
      refine tri_orl (h t (by simp) u v) (fun _ _ _ => ih (fun u hu => h u (by simp [hu])) l' l'' (by simpa using h1) (by simpa using h2)) fun h3 h4 => ?_
      rw [cmp_zero] at *; rw [h3, h4]
theorem tri_cmp (t : Ty) : ∀ u v, Tri (cmp t u) (cmp u v) (cmp t v) := by
  induction t using Ty.ind with
  | h l b ih =>
    intro u v
    cases u with
    | mk l' b' =>
      cases v with
      | mk l'' b'' =>
        rw [cmp_mk, cmp_mk, cmp_mk]
        have hz := fun (x y z : Int) => (show sgn x y = 0 → sgn y z = 0 → sgn x z = 0 by simp only [sgn_zero]; intro h h'; rw [h, h'])
        have h2 : ∀ {x y z x' y' z' : Int}, orl (sgn x y) (sgn x' y') = 0 → orl (sgn y z) (sgn y' z') = 0 → orl (sgn x z) (sgn x' z') = 0 := by
          intro x y z x' y' z' h1 h2
          simp only [orl_eq_zero, sgn_zero] at *
          omega
        refine tri_orl (tri_orl (tri_orl (tri_sgn _ _ _) (fun _ _ _ => tri_sgn _ _ _) (hz _ _ _)) (fun h3 h4 _ => ?_) h2) (fun _ _ _ => tri_sgn _ _ _) fun h3 h4 => ?_
        · simp only [orl_eq_zero, sgn_zero] at h3 h4
          exact tri_cmps_of ih l' l'' (by omega) (by omega)
        · have h5 := orl_eq_zero.1 h3
          have h6 := orl_eq_zero.1 h4
          refine orl_eq_zero.2 ⟨h2 h5.1 h6.1, ?_⟩
          have h7 := h5.1; have h8 := h6.1
          simp only [orl_eq_zero, sgn_zero] at h7 h8
          rw [(cmps_zero (by omega)).1 h5.2]; exact h6.2
end Ty
end Go.Proofs.Ytejpgifofkiofaa
