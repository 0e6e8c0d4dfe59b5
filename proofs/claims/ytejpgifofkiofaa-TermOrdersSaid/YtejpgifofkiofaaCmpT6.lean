/-
  Which of two terms is less: the plain law.
-/
import Derived.Test.YtejpgifofkiofaaCmp
import Derived.Test.YtejpgifofkiofaaTm
namespace Go.Proofs.Ytejpgifofkiofaa
open Go.RowKit

namespace Tm
/-- which of two lists of types is less: by how many, then one by one -/
def cmpB (l l' : List Ty) : Int := orl (sgn (l.length : Nat) (l'.length : Nat)) (Ty.cmps l l')
mutual
/-- which of two terms is less -/
def cmp : Tm → Tm → Int
  | .mk b k i a, .mk b' k' i' a' => orl (sgn (Tm.sizes a + 1 : Nat) (Tm.sizes a' + 1 : Nat)) (orl (cmpB b b') (orl (sgn k k') (orl (sgn i i') (orl (sgn (a.length : Nat) (a'.length : Nat)) (cmps a a')))))
def cmps : List Tm → List Tm → Int
  | [], _ => 0
  | _ :: _, [] => 0
  | t :: l, u :: l' => orl (cmp t u) (cmps l l')
end
theorem cmp_mk (b : List Ty) (k i : Int) (a : List Tm) (b' : List Ty) (k' i' : Int) (a' : List Tm) : cmp (.mk b k i a) (.mk b' k' i' a') = orl (sgn (size (.mk b k i a)) (size (.mk b' k' i' a'))) (orl (cmpB b b') (orl (sgn k k') (orl (sgn i i') (orl (sgn a.length a'.length) (cmps a a'))))) := by
  rw [cmp]; simp [size]
theorem cmps_cons (t u : Tm) (l l' : List Tm) : cmps (t :: l) (u :: l') = orl (cmp t u) (cmps l l') := by rw [cmps]
@[simp] theorem cmps_nil (l : List Tm) : cmps [] l = 0 := by rw [cmps]
theorem cmpB_self (l : List Ty) : cmpB l l = 0 := by
  rw [cmpB, orl_eq_zero]; exact ⟨sgn_zero.2 rfl, (Ty.cmps_zero rfl).2 rfl⟩
theorem cmpB_zero {l l' : List Ty} : cmpB l l' = 0 ↔ l = l' := by
  constructor
  · intro h
    rw [cmpB, orl_eq_zero, sgn_zero] at h
    exact (Ty.cmps_zero (by omega)).1 h.2
  · rintro rfl; exact cmpB_self l
theorem cmpB_neg (l l' : List Ty) : cmpB l' l = - cmpB l l' := by rw [cmpB, cmpB, ← orl_neg, Ty.cmps_neg, sgn_neg (l.length : Int)]
theorem cmps_self_of {l : List Tm} (h : ∀ t ∈ l, cmp t t = 0) : cmps l l = 0 := by
  induction l with
  | nil => simp
  | cons t l ih => rw [cmps_cons, h t (by simp), ih fun u hu => h u (by simp [hu])]; simp
theorem cmp_self (t : Tm) : cmp t t = 0 := by
  induction t using Tm.ind with
  | h b k i a ih => rw [cmp_mk, cmps_self_of ih, cmpB_self]; simp [sgn]
theorem cmps_zero_of {l : List Tm} (h : ∀ t ∈ l, ∀ u, cmp t u = 0 → t = u) : ∀ l', l.length = l'.length → cmps l l' = 0 → l = l' := by
  induction l with
  | nil => intro l' h1; cases l' <;> simp_all
  | cons t l ih =>
    intro l' h1 h2
    cases l' with
    | nil => simp at h1
    | cons u l' =>
      rw [cmps_cons, orl_eq_zero] at h2
      rw [h t (by simp) u h2.1, ih (fun u hu => h u (by simp [hu])) l' (by simpa using h1) h2.2]
theorem eq_of_cmp (t : Tm) : ∀ u, cmp t u = 0 → t = u := by
  induction t using Tm.ind with
  | h b k i a ih =>
    intro u h
    cases u with
    | mk b' k' i' a' =>
      rw [cmp_mk] at h
      simp only [orl_eq_zero, sgn_zero, cmpB_zero] at h
      obtain ⟨_, rfl, rfl, rfl, h1, h2⟩ := h
      rw [cmps_zero_of ih a' (by omega) h2]
theorem cmp_zero (t u : Tm) : cmp t u = 0 ↔ t = u := ⟨eq_of_cmp t u, fun h => h ▸ cmp_self t⟩
theorem cmps_neg_of {l : List Tm} (h : ∀ t ∈ l, ∀ u, cmp u t = - cmp t u) : ∀ l', cmps l' l = - cmps l l' := by
  induction l with
  | nil => intro l'; cases l' <;> simp [cmps]
  | cons t l ih =>
    intro l'
    cases l' with
    | nil => simp [cmps]
    | cons u l' => rw [cmps_cons, cmps_cons, h t (by simp), ih (fun u hu => h u (by simp [hu])), orl_neg]
theorem cmp_neg (t : Tm) : ∀ u, cmp u t = - cmp t u := by
  induction t using Tm.ind with
  | h b k i a ih =>
    intro u
    cases u with
    | mk b' k' i' a' => rw [cmp_mk, cmp_mk, cmps_neg_of ih, cmpB_neg, sgn_neg k, sgn_neg i, sgn_neg (size (.mk b k i a)) _, sgn_neg a.length, orl_neg, orl_neg, orl_neg, orl_neg, orl_neg]
theorem cmpB_range (l l' : List Ty) : -1 ≤ cmpB l l' ∧ cmpB l l' ≤ 1 := orl_range (sgn_range _ _) (Ty.cmps_range l l')
theorem cmps_range_of {l : List Tm} (h : ∀ t ∈ l, ∀ u, -1 ≤ cmp t u ∧ cmp t u ≤ 1) : ∀ l', -1 ≤ cmps l l' ∧ cmps l l' ≤ 1 := by
  induction l with
  | nil => intro l'; simp
  | cons t l ih =>
    intro l'
    cases l' with
    | nil => simp [cmps]
    | cons u l' => rw [cmps_cons]; exact orl_range (h t (by simp) u) (ih (fun u hu => h u (by simp [hu])) l')
theorem cmp_range (t : Tm) : ∀ u, -1 ≤ cmp t u ∧ cmp t u ≤ 1 := by
  induction t using Tm.ind with
  | h b k i a ih =>
    intro u
    cases u with
    | mk b' k' i' a' => rw [cmp_mk]; exact orl_range (sgn_range _ _) (orl_range (cmpB_range _ _) (orl_range (sgn_range _ _) (orl_range (sgn_range _ _) (orl_range (sgn_range _ _) (cmps_range_of ih a')))))
theorem cmps_drop {l l' : List Tm} {k : Nat} (h : k < l.length) (h' : k < l'.length) : cmps (l.drop k) (l'.drop k) = orl (cmp l[k] l'[k]) (cmps (l.drop (k + 1)) (l'.drop (k + 1))) := by
  rw [List.drop_eq_getElem_cons h, List.drop_eq_getElem_cons h', cmps_cons]
end Tm
end Go.Proofs.Ytejpgifofkiofaa
