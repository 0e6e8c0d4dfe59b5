/-
  What the law TermWell asks of long forms and shifted terms: the plain law.
-/
import Derived.Test.YtejpgifofkiofaaRowWell6p33
import Derived.Test.YtejpgifofkiofaaRowWell6p30
import Derived.Test.YtejpgifofkiofaaRowWell6p32
set_option linter.unusedVariables false
set_option linter.unusedSimpArgs false
namespace Go.Proofs.Ytejpgifofkiofaa
open Go.RowKit

theorem well_index {C M X : List Ty} {k i : Int} {a : Ty} (h : headTy C M X k i = some a) : 0 ≤ i ∧ (k = 0 → i < X.length) := by
  have h0 : 0 ≤ i := by
    rcases Int.lt_or_le i 0 with h1 | h1
    · rw [headTy_neg h1] at h; cases h
    · exact h1
  refine ⟨h0, fun hk => ?_⟩
  subst hk
  rw [headTy_0i h0] at h
  have := (List.getElem?_eq_some_iff.1 h).1
  simp at this
  omega
theorem well_eta {C M X : List Ty} {k i : Int} {a : Ty} (hs : SmallWd C M X) (ha : a.size ≤ 60 ∧ a.depth ≤ 60) (h : headTy C M X k i = some a) : (Ty.Eta a k i).size ≤ 60 ∧ ∀ c, checkCode C M (Ty.Eta a k i) X a c → c = 0 := by
  have hi := well_index h
  have hx := hs.2.2.1
  have hE : Ty.Eta a k i = Ty.eta a k i := by
    unfold Ty.Eta
    rw [if_neg]
    rintro ⟨hk, h1 | h1⟩
    · omega
    · have := hi.2 hk; omega
  rw [hE]
  have hz := eta_size a k i
  refine ⟨by omega, fun c hc => ?_⟩
  have ht := eta_isOf a X k i h
  unfold checkCode at hc
  rcases hc with ⟨h1, _⟩ | ⟨_, h1, _⟩ | ⟨_, _, h1⟩
  · exact absurd ⟨by omega, by omega⟩ h1
  · exact absurd ht h1
  · exact h1

theorem mapls_size_of {v : Int → Int} {l : List Tm} (h : ∀ t ∈ l, ∀ n, (t.mapl v n).size = t.size ∧ (t.mapl v n).depth = t.depth ∧ (t.mapl v n).full = t.full) : ∀ n, Tm.sizes (Tm.mapls v l n) = Tm.sizes l ∧ Tm.depths (Tm.mapls v l n) = Tm.depths l ∧ Tm.fulls (Tm.mapls v l n) = Tm.fulls l := by
  intro n
  induction l with
  | nil => simp [Tm.mapls]
  | cons t l ih =>
    have h1 := h t (by simp) n
    have h2 := ih fun u hu => h u (by simp [hu])
    simp only [Tm.mapls, Tm.sizes, Tm.depths, Tm.fulls]
    omega
theorem mapl_size {v : Int → Int} (t : Tm) : ∀ n, (t.mapl v n).size = t.size ∧ (t.mapl v n).depth = t.depth ∧ (t.mapl v n).full = t.full := by
  induction t using Tm.ind with
  | h b k i a ih =>
    intro n
    have h := mapls_size_of ih (n + b.length)
    rw [Tm.mapl_eq _ _ _ _ _ _ _ rfl, Tm.size_eq, Tm.size_eq, Tm.depth_eq, Tm.depth_eq, Tm.full_eq, Tm.full_eq]
    omega

theorem looseL_le {l : List Int} {m : Int} (h : ∀ x ∈ l, x < m) : ∀ n, n ≤ m → l.foldl looseL n ≤ m := by
  induction l with
  | nil => intro n hn; exact hn
  | cons x l ih =>
    intro n hn
    refine ih (fun y hy => h y (by simp [hy])) _ ?_
    have := h x (by simp)
    unfold looseL
    split <;> split <;> omega

theorem well_shift {C M X Z : List Ty} {t : Tm} {u : Ty} (hx : X.length ≤ 20) (hz : Z.length ≤ 10) (hs : t.size ≤ 5000 ∧ t.depth ≤ 60) (h : IsOf C M t X u) :
    t.shift Z.length 0 = (t.mapl (grow Z.length 0) 0, 0) ∧ (∀ c, checkCode C M (t.mapl (grow Z.length 0) 0) (X ++ Z) u c → c = 0) ∧ (t.looses 0).foldl looseL 0 ≤ X.length := by
  have hl : ∀ x ∈ t.looses 0, x < X.length := by
    have := isOf_loose (X := X) t [] u (by simpa using h)
    simpa using this
  refine ⟨?_, fun c hc => ?_, looseL_le hl 0 (by omega)⟩
  · have hcode : shiftCode Z.length 0 (t.looses 0) = 0 := by
      unfold shiftCode
      rw [if_neg, if_neg]
      · rintro ⟨x, hx1, _, h2⟩
        have := hl x hx1
        have := Tm.looses_nonneg t 0 x hx1
        omega
      · rintro ⟨x, hx1, _, h2, _⟩
        omega
    unfold Tm.shift
    rw [if_neg (by omega), if_pos hcode]
  · have hi : IsOf C M (t.mapl (grow Z.length 0) 0) (X ++ Z) u := by
      have := isOf_shift (X := X) (Z := Z) t [] u (by simpa using h)
      simpa using this
    have hm := mapl_size (v := grow Z.length 0) t 0
    unfold checkCode at hc
    rcases hc with ⟨h1, _⟩ | ⟨_, h1, _⟩ | ⟨_, _, h1⟩
    · exact absurd ⟨by omega, by omega⟩ h1
    · exact absurd hi h1
    · exact h1
end Go.Proofs.Ytejpgifofkiofaa

