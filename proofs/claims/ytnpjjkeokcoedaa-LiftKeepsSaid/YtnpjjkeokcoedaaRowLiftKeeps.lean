/-
  The row LiftKeeps.
-/
import Derived.Test.YtnpjjkeokcoedaaRows
import Derived.Test.YtnpjjkeokcoedaaRowLiftKeepsp5
import Derived.Test.YtnpjjkeokcoedaaRowLiftKeepsp1
import Derived.Test.YtnpjjkeokcoedaaRowLiftKeepsp6
import Derived.Test.YtnpjjkeokcoedaaRowLiftKeepsp8
set_option maxRecDepth 100000
set_option maxHeartbeats 1000000
set_option linter.unusedVariables false
set_option linter.unusedSimpArgs false
namespace Go.Proofs.Ytnpjjkeokcoedaa.liftKeeps
open Go.RowKit Go.ChangeShapes Go.WideShapes Go.ChangeAt

theorem readable : ∀ t ∈ [24, 31, 22], Try.prog.readableRec t = true ∧ t < Try.prog.types.size := by
  intro t ht
  simp only [List.mem_cons, List.not_mem_nil, or_false] at ht
  rcases ht with rfl | rfl | rfl
  · exact ⟨by kernel_rfl, of_decide_eq_true (by kernel_rfl)⟩
  · exact ⟨by kernel_rfl, of_decide_eq_true (by kernel_rfl)⟩
  · exact ⟨by kernel_rfl, of_decide_eq_true (by kernel_rfl)⟩

set_option maxRecDepth 100000 in
theorem lifted (os : Os) (started : os.Started) (H : Type) (enc : TypeId × Value → H) :
    ReturnsInHanded {} Try.checked os 3 .any (Rows.liftKeepsSpec.pre6 enc Try.prog Try.f3 Rows.liftKeepsRow.domain false)
      (Rows.liftKeepsSpec.post enc Try.prog Try.f3 false true false false) := by
  refine returnsInHanded_of_change (C := Try.checked) own started (by kernel_rfl) Try.func3
    (ChangeSpec.witness6 (enc := enc) (C := Try.checked) false ⟨#[], #[.agg #[.int .i64 0, .slice none 0 0, .slice none 0 0], .agg #[.slice none 0 0, .int .i64 0, .int .i64 0, .slice none 0 0, .slice none 0 0, .int .i64 0, .int .i64 0, .slice none 0 0, .slice none 0 0], .slice none 0 0], []⟩ 8 (by kernel_rfl) (by kernel_rfl) (by kernel_rfl) (by kernel_rfl)) ?_
  intro W base args ds gs before hval0 hW hcnd _
  have hval : ∀ (j : Nat) t v, Try.f3.params[j]? = some t → args[j]? = some v → Value.okWide Try.prog W .any base t v := hval0
  have hW' := hW
  obtain ⟨p, q, hA0, hV, rfl, hfz, hnd⟩ := hW
  have hA : DataW.TrodAll enc Try.prog W 0 (fun _ => true) true Try.f3.params.toList args.toList ds p := hA0
  rw [Try.params3] at hA hval
  obtain ⟨v0, v1, v2, d0, d1, d2, p0, p1, p2, rfl, rfl, rfl, h0, h1, h2⟩ := trodAll_three hA
  obtain ⟨rfl, rfl⟩ := trodVars_none hV
  obtain ⟨wb, wc, wm, wC, wM, rfl, Hwc, Hwm⟩ := openWorld (hval 0 24 v0 rfl rfl) h0
  obtain ⟨p1, p2, p3, p4, p5, p6, p7, p8, p9, p, rfl, Hp, Fp⟩ := openP17 (hval 1 31 v1 rfl rfl) h1
  obtain ⟨ba, bn, bc, b, rfl, _, Hb, _⟩ := openSl Try.underlying22 cellsR (by decide) (rdR enc W 0 _ _) (hval 2 22 v2 rfl rfl) h2
  clear hA0 hval0
  refine (row_of_pure (w := W) (vs := [.agg #[.int .i64 wb, wc, wm], .agg #[p1, p2, p3, p4, p5, p6, p7, p8, p9], .slice ba bn bc]) (liftKeeps_d wb wC wM p b Fp Hb.len1) ⟨relWorld Hwc Hwm, relP17 Hp, relTys Hb, trivial⟩).mono fun e W' ⟨he, hb⟩ => ?_
  subst he
  exact ⟨_, rfl, post_true hW' rfl (by rw [Try.params3]; exact readable) (by kernel_rfl) rfl hb⟩

theorem proved : Rows.LiftKeepsSaid :=
  OpenClaim.holds_of_wide 3 Try.f3 rfl rfl rfl rfl rfl rfl rfl ⟨rfl, rfl, rfl, rfl, rfl⟩ rfl rfl rfl rfl rfl (by kernel_rfl) Try.func3 (by kernel_rfl)
    (of_decide_eq_true (by kernel_rfl)) (by unfold Func.isWrapper; first | (rw [if_pos (by decide +kernel)]; kernel_rfl) | (rw [if_neg (by decide +kernel)]; exact ⟨rfl, rfl⟩))
    (fun os started H enc _ => lifted os started H enc)
end Go.Proofs.Ytnpjjkeokcoedaa.liftKeeps
