/-
  The row RuleChecks.
-/
import Derived.Test.YtdmiekaeodcehaaGreatRows
import Derived.Test.YtdmiekaeodcehaaGreatRowRuleChecksp5
import Derived.Test.YtdmiekaeodcehaaGreatRowRuleChecksp1
import Derived.Test.YtdmiekaeodcehaaGreatRowRuleChecksp6
import Derived.Test.YtdmiekaeodcehaaGreatRowRuleChecksp9
set_option maxRecDepth 100000
set_option maxHeartbeats 1000000
set_option linter.unusedVariables false
set_option linter.unusedSimpArgs false
namespace Go.Proofs.YtdmiekaeodcehaaGreat.ruleChecks
open Go.RowKit Go.ChangeShapes Go.WideShapes Go.ChangeAt

theorem readable : ∀ t ∈ [54, 29], Tryz.prog.readableRec t = true ∧ t < Tryz.prog.types.size := by
  intro t ht
  simp only [List.mem_cons, List.not_mem_nil, or_false] at ht
  rcases ht with rfl | rfl
  · exact ⟨by kernel_rfl, of_decide_eq_true (by kernel_rfl)⟩
  · exact ⟨by kernel_rfl, of_decide_eq_true (by kernel_rfl)⟩

set_option maxRecDepth 100000 in
theorem lifted (os : Os) (started : os.Started) (H : Type) (enc : TypeId × Value → H) :
    ReturnsInHanded {} Tryz.checked os 4 .any (Rows.ruleChecksSpec.pre6 enc Tryz.prog Tryz.f4 Rows.ruleChecksRow.domain false)
      (Rows.ruleChecksSpec.post enc Tryz.prog Tryz.f4 false true false false) := by
  refine returnsInHanded_of_change (C := Tryz.checked) own started (by kernel_rfl) Tryz.func4
    (ChangeSpec.witness6 (enc := enc) (C := Tryz.checked) false ⟨#[], #[.agg #[.int .i64 0, .slice none 0 0, .slice none 0 0], .agg #[.slice none 0 0, .int .i64 0, .int .i64 0, .slice none 0 0, .slice none 0 0, .int .i64 0, .int .i64 0, .slice none 0 0, .slice none 0 0]], []⟩ 8 (by kernel_rfl) (by kernel_rfl) (by kernel_rfl) (by kernel_rfl)) ?_
  intro W base args ds gs before hval0 hW hcnd _
  have hval : ∀ (j : Nat) t v, Tryz.f4.params[j]? = some t → args[j]? = some v → Value.okWide Tryz.prog W .any base t v := hval0
  have hW' := hW
  obtain ⟨p, q, hA0, hV, rfl, hfz, hnd⟩ := hW
  have hA : DataW.TrodAll enc Tryz.prog W 0 (fun _ => true) true Tryz.f4.params.toList args.toList ds p := hA0
  rw [Tryz.params4] at hA hval
  obtain ⟨v0, v1, d0, d1, p0, p1, rfl, rfl, rfl, h0, h1⟩ := trodAll_two hA
  obtain ⟨rfl, rfl⟩ := trodVars_none hV
  obtain ⟨wb, wc, wm, wC, wM, rfl, Hwc, Hwm⟩ := openWorld (hval 0 54 v0 rfl rfl) h0
  obtain ⟨p1, p2, p3, p4, p5, p6, p7, p8, p9, p, rfl, Hp, Fp⟩ := openP17 (hval 1 29 v1 rfl rfl) h1
  clear hA0 hval0
  refine (row_of_pure (w := W) (vs := [.agg #[.int .i64 wb, wc, wm], .agg #[p1, p2, p3, p4, p5, p6, p7, p8, p9]]) (ruleChecks_d wb wC wM p Fp) ⟨relWorld Hwc Hwm, relP17 Hp, trivial⟩).mono fun e W' ⟨he, hb⟩ => ?_
  subst he
  exact ⟨_, rfl, post_true hW' rfl (by rw [Tryz.params4]; exact readable) (by kernel_rfl) rfl hb⟩

theorem proved : Rows.RuleChecksSaid :=
  OpenClaim.holds_of_wide 4 Tryz.f4 rfl rfl rfl rfl rfl rfl rfl ⟨rfl, rfl, rfl, rfl, rfl⟩ rfl rfl rfl rfl rfl (by kernel_rfl) Tryz.func4 (by kernel_rfl)
    (of_decide_eq_true (by kernel_rfl)) (by unfold Func.isWrapper; first | (rw [if_pos (by decide +kernel)]; kernel_rfl) | (rw [if_neg (by decide +kernel)]; exact ⟨rfl, rfl⟩))
    (fun os started H enc _ => lifted os started H enc)
end Go.Proofs.YtdmiekaeodcehaaGreat.ruleChecks
