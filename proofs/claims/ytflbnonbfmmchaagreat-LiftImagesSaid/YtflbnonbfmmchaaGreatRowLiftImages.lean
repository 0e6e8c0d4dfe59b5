/-
  The row LiftImages.
-/
import Derived.Test.YtflbnonbfmmchaaGreatRows
import Derived.Test.YtflbnonbfmmchaaGreatRowLiftImagesp5
import Derived.Test.YtflbnonbfmmchaaGreatRowLiftImagesp7
import Derived.Test.YtflbnonbfmmchaaGreatRowLiftImagesp10
set_option maxRecDepth 100000
set_option maxHeartbeats 1000000
set_option linter.unusedVariables false
set_option linter.unusedSimpArgs false
namespace Go.Proofs.YtflbnonbfmmchaaGreat.liftImages
open Go.RowKit Go.ChangeShapes Go.WideShapes Go.ChangeAt

theorem readable : ∀ t ∈ [24, 82, 22, 67], Tryz.prog.readableRec t = true ∧ t < Tryz.prog.types.size := by
  intro t ht
  simp only [List.mem_cons, List.not_mem_nil, or_false] at ht
  rcases ht with rfl | rfl | rfl | rfl
  · exact ⟨by kernel_rfl, of_decide_eq_true (by kernel_rfl)⟩
  · exact ⟨by kernel_rfl, of_decide_eq_true (by kernel_rfl)⟩
  · exact ⟨by kernel_rfl, of_decide_eq_true (by kernel_rfl)⟩
  · exact ⟨by kernel_rfl, of_decide_eq_true (by kernel_rfl)⟩

set_option maxRecDepth 100000 in
theorem lifted (os : Os) (started : os.Started) (H : Type) (enc : TypeId × Value → H) :
    ReturnsInHanded {} Tryz.checked os 7 .any (Rows.liftImagesSpec.pre6 enc Tryz.prog Tryz.f7 Rows.liftImagesRow.domain false)
      (Rows.liftImagesSpec.post enc Tryz.prog Tryz.f7 false true false false) := by
  refine returnsInHanded_of_change (C := Tryz.checked) own started (by kernel_rfl) Tryz.func7
    (ChangeSpec.witness6 (enc := enc) (C := Tryz.checked) false ⟨#[], #[.agg #[.int .i64 0, .slice none 0 0, .slice none 0 0], .agg #[.slice none 0 0, .int .i64 0, .int .i64 0, .slice none 0 0, .slice none 0 0, .int .i64 0, .int .i64 0, .slice none 0 0, .slice none 0 0], .slice none 0 0, .slice none 0 0], []⟩ 8 (by kernel_rfl) (by kernel_rfl) (by kernel_rfl) (by kernel_rfl)) ?_
  intro W base args ds gs before hval0 hW hcnd _
  have hval : ∀ (j : Nat) t v, Tryz.f7.params[j]? = some t → args[j]? = some v → Value.okWide Tryz.prog W .any base t v := hval0
  have hW' := hW
  obtain ⟨p, q, hA0, hV, rfl, hfz, hnd⟩ := hW
  have hA : DataW.TrodAll enc Tryz.prog W 0 (fun _ => true) true Tryz.f7.params.toList args.toList ds p := hA0
  rw [Tryz.params7] at hA hval
  obtain ⟨v0, v1, v2, v3, d0, d1, d2, d3, p0, p1, p2, p3, rfl, rfl, rfl, h0, h1, h2, h3⟩ := trodAll_four hA
  obtain ⟨rfl, rfl⟩ := trodVars_none hV
  obtain ⟨wb, wc, wm, wC, wM, rfl, Hwc, Hwm⟩ := openWorld (hval 0 24 v0 rfl rfl) h0
  obtain ⟨p1, p2, p3, p4, p5, p6, p7, p8, p9, p, rfl, Hp, Fp⟩ := openP17 (hval 1 82 v1 rfl rfl) h1
  obtain ⟨xa, xn, xc, x, rfl, _, Hx, _⟩ := openSl Tryz.underlying22 cellsR (by decide) (rdR enc W 0 _ _) (hval 2 22 v2 rfl rfl) h2
  obtain ⟨la, ln, lc, l, rfl, _, Hl, Wl⟩ := openSl Tryz.underlying67 cellsPair (by decide) (rdPr enc W 0 _ _) (hval 3 67 v3 rfl rfl) h3
  have Fl : ∀ p ∈ l, p.2.Fit ∧ -9223372036854775808 ≤ p.1 ∧ p.1 ≤ 9223372036854775807 := mem_of_idx Wl
  clear hA0 hval0
  refine (row_of_pure (w := W) (vs := [.agg #[.int .i64 wb, wc, wm], .agg #[p1, p2, p3, p4, p5, p6, p7, p8, p9], .slice xa xn xc, .slice la ln lc]) (liftImages_d wb wC wM p x l Fp Hx.len1 Hl.len1 fun q hq => ⟨(Fl q hq).1, (Fl q hq).2.2⟩) ⟨relWorld Hwc Hwm, relP17 Hp, relTys Hx, relPairs Hl, trivial⟩).mono fun e W' ⟨he, hb⟩ => ?_
  subst he
  exact ⟨_, rfl, post_true hW' rfl (by rw [Tryz.params7]; exact readable) (by kernel_rfl) rfl hb⟩

theorem proved : Rows.LiftImagesSaid :=
  OpenClaim.holds_of_wide 7 Tryz.f7 rfl rfl rfl rfl rfl rfl rfl ⟨rfl, rfl, rfl, rfl, rfl⟩ rfl rfl rfl rfl rfl (by kernel_rfl) Tryz.func7 (by kernel_rfl)
    (of_decide_eq_true (by kernel_rfl)) (by unfold Func.isWrapper; first | (rw [if_pos (by decide +kernel)]; kernel_rfl) | (rw [if_neg (by decide +kernel)]; exact ⟨rfl, rfl⟩))
    (fun os started H enc _ => lifted os started H enc)
end Go.Proofs.YtflbnonbfmmchaaGreat.liftImages
