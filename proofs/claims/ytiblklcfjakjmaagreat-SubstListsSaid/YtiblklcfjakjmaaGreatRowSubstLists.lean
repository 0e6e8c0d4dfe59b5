/-
  The row SubstLists.
-/
import Derived.Test.YtiblklcfjakjmaaGreatRows
import Derived.Test.YtiblklcfjakjmaaGreatRowSubstListsp5
import Derived.Test.YtiblklcfjakjmaaGreatRowSubstListsp6
import Derived.Test.YtiblklcfjakjmaaGreatRowSubstListsp9
set_option maxRecDepth 100000
set_option maxHeartbeats 1000000
set_option linter.unusedVariables false
set_option linter.unusedSimpArgs false
namespace Go.Proofs.YtiblklcfjakjmaaGreat.substLists
open Go.RowKit Go.ChangeShapes Go.WideShapes Go.ChangeAt

theorem readable : ∀ t ∈ [25, 25, 3, 42, 47], Tryz.prog.readableRec t = true ∧ t < Tryz.prog.types.size := by
  intro t ht
  simp only [List.mem_cons, List.not_mem_nil, or_false] at ht
  rcases ht with rfl | rfl | rfl | rfl | rfl
  · exact ⟨by kernel_rfl, of_decide_eq_true (by kernel_rfl)⟩
  · exact ⟨by kernel_rfl, of_decide_eq_true (by kernel_rfl)⟩
  · exact ⟨by kernel_rfl, of_decide_eq_true (by kernel_rfl)⟩
  · exact ⟨by kernel_rfl, of_decide_eq_true (by kernel_rfl)⟩
  · exact ⟨by kernel_rfl, of_decide_eq_true (by kernel_rfl)⟩

set_option maxRecDepth 100000 in
theorem lifted (os : Os) (started : os.Started) (H : Type) (enc : TypeId × Value → H) :
    ReturnsInHanded {} Tryz.checked os 4 .any (Rows.substListsSpec.pre6 enc Tryz.prog Tryz.f4 Rows.substListsRow.domain false)
      (Rows.substListsSpec.post enc Tryz.prog Tryz.f4 false true false false) := by
  refine returnsInHanded_of_change (C := Tryz.checked) own started (by kernel_rfl) Tryz.func4
    (ChangeSpec.witness6 (enc := enc) (C := Tryz.checked) false ⟨#[], #[.slice none 0 0, .slice none 0 0, .int .i64 0, .slice none 0 0, .agg #[.slice none 0 0, .int .i64 0, .int .i64 0, .slice none 0 0]], []⟩ 8 (by kernel_rfl) (by kernel_rfl) (by kernel_rfl) (by kernel_rfl)) ?_
  intro W base args ds gs before hval0 hW hcnd _
  have hval : ∀ (j : Nat) t v, Tryz.f4.params[j]? = some t → args[j]? = some v → Value.okWide Tryz.prog W .any base t v := hval0
  have hW' := hW
  obtain ⟨p, q, hA0, hV, rfl, hfz, hnd⟩ := hW
  have hA : DataW.TrodAll enc Tryz.prog W 0 (fun _ => true) true Tryz.f4.params.toList args.toList ds p := hA0
  rw [Tryz.params4] at hA hval
  obtain ⟨v0, v1, v2, v3, v4, d0, d1, d2, d3, d4, p0, p1, p2, p3, p4, rfl, rfl, rfl, h0, h1, h2, h3, h4⟩ := trodAll_five hA
  obtain ⟨rfl, rfl⟩ := trodVars_none hV
  obtain ⟨la, ln, lc, l, rfl, _, Hl, Wl⟩ := openSl Tryz.underlying25 cellsPair (by decide) (rdPr enc W 0 _ _) (hval 0 25 v0 rfl rfl) h0
  have Fl : ∀ p ∈ l, p.2.Fit ∧ -9223372036854775808 ≤ p.1 ∧ p.1 ≤ 9223372036854775807 := mem_of_idx Wl
  obtain ⟨ma, mn, mc, m, rfl, _, Hm, Wm⟩ := openSl Tryz.underlying25 cellsPair (by decide) (rdPr enc W 0 _ _) (hval 1 25 v1 rfl rfl) h1
  have Fm : ∀ p ∈ m, p.2.Fit ∧ -9223372036854775808 ≤ p.1 ∧ p.1 ≤ 9223372036854775807 := mem_of_idx Wm
  obtain ⟨i, rfl, rfl, rfl, wi⟩ := open_int Tryz.underlying3 (hval 2 3 v2 rfl rfl) h2
  obtain ⟨sa, sn, sc, s, rfl, _, Hs, Ws⟩ := openSl Tryz.underlying42 cellsInt (by decide) (rdI enc W 0 _ _) (hval 3 42 v3 rfl rfl) h3
  obtain ⟨tb, tk, ti, ta, t, rfl, Ht, Ft⟩ := openTm (hval 4 47 v4 rfl rfl) h4
  clear hA0 hval0
  refine (row_of_pure (w := W) (vs := [.slice la ln lc, .slice ma mn mc, .int .i64 i, .slice sa sn sc, .agg #[tb, tk, ti, ta]]) (substLists_d l m i s t Hl.len1 Hm.len1 Hs.len1 (fun p hp => (Fl p hp).1) (fun p hp => (Fm p hp).1) Ft) ⟨relPairs Hl, relPairs Hm, .v _, relInts Hs, relTmA Ht, trivial⟩).mono fun e W' ⟨he, hb⟩ => ?_
  subst he
  exact ⟨_, rfl, post_true hW' rfl (by rw [Tryz.params4]; exact readable) (by kernel_rfl) rfl hb⟩

theorem proved : Rows.SubstListsSaid :=
  OpenClaim.holds_of_wide 4 Tryz.f4 rfl rfl rfl rfl rfl rfl rfl ⟨rfl, rfl, rfl, rfl, rfl⟩ rfl rfl rfl rfl rfl (by kernel_rfl) Tryz.func4 (by kernel_rfl)
    (of_decide_eq_true (by kernel_rfl)) (by unfold Func.isWrapper; first | (rw [if_pos (by decide +kernel)]; kernel_rfl) | (rw [if_neg (by decide +kernel)]; exact ⟨rfl, rfl⟩))
    (fun os started H enc _ => lifted os started H enc)
end Go.Proofs.YtiblklcfjakjmaaGreat.substLists
