/-
  The row LiftAparts.
-/
import Derived.Test.YtcblpjheoclkeaaRows
import Derived.Test.YtcblpjheoclkeaaRowLiftApartsp5
import Derived.Test.YtcblpjheoclkeaaRowLiftApartsp6
import Derived.Test.YtcblpjheoclkeaaRowLiftApartsp10
set_option maxRecDepth 100000
set_option maxHeartbeats 1000000
set_option linter.unusedVariables false
set_option linter.unusedSimpArgs false
namespace Go.Proofs.Ytcblpjheoclkeaa.liftAparts
open Go.RowKit Go.ChangeShapes Go.WideShapes Go.ChangeAt

theorem readable : ∀ t ∈ [62, 62, 22], Try.prog.readableRec t = true ∧ t < Try.prog.types.size := by
  intro t ht
  simp only [List.mem_cons, List.not_mem_nil, or_false] at ht
  rcases ht with rfl | rfl | rfl
  · exact ⟨by kernel_rfl, of_decide_eq_true (by kernel_rfl)⟩
  · exact ⟨by kernel_rfl, of_decide_eq_true (by kernel_rfl)⟩
  · exact ⟨by kernel_rfl, of_decide_eq_true (by kernel_rfl)⟩

set_option maxRecDepth 100000 in
theorem lifted (os : Os) (started : os.Started) (H : Type) (enc : TypeId × Value → H) :
    ReturnsInHanded {} Try.checked os 5 .any (Rows.liftApartsSpec.pre6 enc Try.prog Try.f5 Rows.liftApartsRow.domain false)
      (Rows.liftApartsSpec.post enc Try.prog Try.f5 false true false false) := by
  refine returnsInHanded_of_change (C := Try.checked) own started (by kernel_rfl) Try.func5
    (ChangeSpec.witness6 (enc := enc) (C := Try.checked) false ⟨#[], #[.agg #[.slice none 0 0, .int .i64 0, .int .i64 0, .slice none 0 0, .slice none 0 0, .int .i64 0, .int .i64 0, .slice none 0 0, .slice none 0 0], .agg #[.slice none 0 0, .int .i64 0, .int .i64 0, .slice none 0 0, .slice none 0 0, .int .i64 0, .int .i64 0, .slice none 0 0, .slice none 0 0], .slice none 0 0], []⟩ 8 (by kernel_rfl) (by kernel_rfl) (by kernel_rfl) (by kernel_rfl)) ?_
  intro W base args ds gs before hval0 hW hcnd _
  have hval : ∀ (j : Nat) t v, Try.f5.params[j]? = some t → args[j]? = some v → Value.okWide Try.prog W .any base t v := hval0
  have hW' := hW
  obtain ⟨p, q, hA0, hV, rfl, hfz, hnd⟩ := hW
  have hA : DataW.TrodAll enc Try.prog W 0 (fun _ => true) true Try.f5.params.toList args.toList ds p := hA0
  rw [Try.params5] at hA hval
  obtain ⟨v0, v1, v2, d0, d1, d2, p0, p1, p2, rfl, rfl, rfl, h0, h1, h2⟩ := trodAll_three hA
  obtain ⟨rfl, rfl⟩ := trodVars_none hV
  obtain ⟨p1, p2, p3, p4, p5, p6, p7, p8, p9, p, rfl, Hp, Fp⟩ := openP17 (hval 0 62 v0 rfl rfl) h0
  obtain ⟨q1, q2, q3, q4, q5, q6, q7, q8, q9, q, rfl, Hq, Fq⟩ := openP17 (hval 1 62 v1 rfl rfl) h1
  obtain ⟨ba, bn, bc, b, rfl, _, Hb, _⟩ := openSl Try.underlying22 cellsR (by decide) (rdR enc W 0 _ _) (hval 2 22 v2 rfl rfl) h2
  clear hA0 hval0
  refine (row_of_pure (w := W) (vs := [.agg #[p1, p2, p3, p4, p5, p6, p7, p8, p9], .agg #[q1, q2, q3, q4, q5, q6, q7, q8, q9], .slice ba bn bc]) (liftAparts_d p q b Fp Fq Hb.len1) ⟨relP17 Hp, relP17 Hq, relTys Hb, trivial⟩).mono fun e W' ⟨he, hb⟩ => ?_
  subst he
  exact ⟨_, rfl, post_true hW' rfl (by rw [Try.params5]; exact readable) (by kernel_rfl) rfl hb⟩

theorem proved : Rows.LiftApartsSaid :=
  OpenClaim.holds_of_wide 5 Try.f5 rfl rfl rfl rfl rfl rfl rfl ⟨rfl, rfl, rfl, rfl, rfl⟩ rfl rfl rfl rfl rfl (by kernel_rfl) Try.func5 (by kernel_rfl)
    (of_decide_eq_true (by kernel_rfl)) (by unfold Func.isWrapper; first | (rw [if_pos (by decide +kernel)]; kernel_rfl) | (rw [if_neg (by decide +kernel)]; exact ⟨rfl, rfl⟩))
    (fun os started H enc _ => lifted os started H enc)
end Go.Proofs.Ytcblpjheoclkeaa.liftAparts
