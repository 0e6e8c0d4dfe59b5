/-
  The row LiftSubsts.
-/
import Derived.Test.YtdmiekaeodcehaaRows
import Derived.Test.YtdmiekaeodcehaaRowLiftSubstsp5
import Derived.Test.YtdmiekaeodcehaaRowLiftSubstsp7
set_option maxRecDepth 100000
set_option maxHeartbeats 1000000
set_option linter.unusedVariables false
set_option linter.unusedSimpArgs false
namespace Go.Proofs.Ytdmiekaeodcehaa.liftSubsts
open Go.RowKit Go.ChangeShapes Go.WideShapes Go.ChangeAt

theorem readable : ∀ t ∈ [56, 22], Try.prog.readableRec t = true ∧ t < Try.prog.types.size := by
  intro t ht
  simp only [List.mem_cons, List.not_mem_nil, or_false] at ht
  rcases ht with rfl | rfl
  · exact ⟨by kernel_rfl, of_decide_eq_true (by kernel_rfl)⟩
  · exact ⟨by kernel_rfl, of_decide_eq_true (by kernel_rfl)⟩

set_option maxRecDepth 100000 in
theorem lifted (os : Os) (started : os.Started) (H : Type) (enc : TypeId × Value → H) :
    ReturnsInHanded {} Try.checked os 9 .any (Rows.liftSubstsSpec.pre6 enc Try.prog Try.f9 Rows.liftSubstsRow.domain false)
      (Rows.liftSubstsSpec.post enc Try.prog Try.f9 false true false false) := by
  refine returnsInHanded_of_change (C := Try.checked) own started (by kernel_rfl) Try.func9
    (ChangeSpec.witness6 (enc := enc) (C := Try.checked) false ⟨#[], #[.slice none 0 0, .slice none 0 0], []⟩ 8 (by kernel_rfl) (by kernel_rfl) (by kernel_rfl) (by kernel_rfl)) ?_
  intro W base args ds gs before hval0 hW hcnd _
  have hval : ∀ (j : Nat) t v, Try.f9.params[j]? = some t → args[j]? = some v → Value.okWide Try.prog W .any base t v := hval0
  have hW' := hW
  obtain ⟨p, q, hA0, hV, rfl, hfz, hnd⟩ := hW
  have hA : DataW.TrodAll enc Try.prog W 0 (fun _ => true) true Try.f9.params.toList args.toList ds p := hA0
  rw [Try.params9] at hA hval
  obtain ⟨v0, v1, d0, d1, p0, p1, rfl, rfl, rfl, h0, h1⟩ := trodAll_two hA
  obtain ⟨rfl, rfl⟩ := trodVars_none hV
  obtain ⟨la, ln, lc, l, rfl, _, Hl, Wl⟩ := openSl Try.underlying56 cellsPair (by decide) (rdPr enc W 0 _ _) (hval 0 56 v0 rfl rfl) h0
  have Fl : ∀ p ∈ l, p.2.Fit ∧ -9223372036854775808 ≤ p.1 ∧ p.1 ≤ 9223372036854775807 := mem_of_idx Wl
  obtain ⟨ba, bn, bc, b, rfl, _, Hb, _⟩ := openSl Try.underlying22 cellsR (by decide) (rdR enc W 0 _ _) (hval 1 22 v1 rfl rfl) h1
  clear hA0 hval0
  refine (row_of_pure (w := W) (vs := [.slice la ln lc, .slice ba bn bc]) (liftSubsts_d l b Hl.len1 Hb.len1 fun p hp => (Fl p hp).1) ⟨relPairs Hl, relTys Hb, trivial⟩).mono fun e W' ⟨he, hb⟩ => ?_
  subst he
  exact ⟨_, rfl, post_true hW' rfl (by rw [Try.params9]; exact readable) (by kernel_rfl) rfl hb⟩

theorem proved : Rows.LiftSubstsSaid :=
  OpenClaim.holds_of_wide 9 Try.f9 rfl rfl rfl rfl rfl rfl rfl ⟨rfl, rfl, rfl, rfl, rfl⟩ rfl rfl rfl rfl rfl (by kernel_rfl) Try.func9 (by kernel_rfl)
    (of_decide_eq_true (by kernel_rfl)) (by unfold Func.isWrapper; first | (rw [if_pos (by decide +kernel)]; kernel_rfl) | (rw [if_neg (by decide +kernel)]; exact ⟨rfl, rfl⟩))
    (fun os started H enc _ => lifted os started H enc)
end Go.Proofs.Ytdmiekaeodcehaa.liftSubsts
