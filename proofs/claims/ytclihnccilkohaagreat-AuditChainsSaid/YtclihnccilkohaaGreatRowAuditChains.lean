/-
  The row AuditChains.
-/
import Derived.Test.YtclihnccilkohaaGreatRows
import Derived.Test.YtclihnccilkohaaGreatRowAuditChainsp5
import Derived.Test.YtclihnccilkohaaGreatRowAuditChainsp1
import Derived.Test.YtclihnccilkohaaGreatRowAuditChainsp6
import Derived.Test.YtclihnccilkohaaGreatRowAuditChainsp8
import Derived.Test.YtclihnccilkohaaGreatRowAuditChainsp10
set_option maxRecDepth 100000
set_option maxHeartbeats 1000000
set_option linter.unusedVariables false
set_option linter.unusedSimpArgs false
namespace Go.Proofs.YtclihnccilkohaaGreat.auditChains
open Go.RowKit Go.ChangeShapes Go.WideShapes Go.ChangeAt

theorem readable : ∀ t ∈ [24, 25, 31, 56], Tryz.prog.readableRec t = true ∧ t < Tryz.prog.types.size := by
  intro t ht
  simp only [List.mem_cons, List.not_mem_nil, or_false] at ht
  rcases ht with rfl | rfl | rfl | rfl
  · exact ⟨by kernel_rfl, of_decide_eq_true (by kernel_rfl)⟩
  · exact ⟨by kernel_rfl, of_decide_eq_true (by kernel_rfl)⟩
  · exact ⟨by kernel_rfl, of_decide_eq_true (by kernel_rfl)⟩
  · exact ⟨by kernel_rfl, of_decide_eq_true (by kernel_rfl)⟩

set_option maxRecDepth 100000 in
theorem lifted (os : Os) (started : os.Started) (H : Type) (enc : TypeId × Value → H) :
    ReturnsInHanded {} Tryz.checked os 5 .any (Rows.auditChainsSpec.pre6 enc Tryz.prog Tryz.f5 Rows.auditChainsRow.domain false)
      (Rows.auditChainsSpec.post enc Tryz.prog Tryz.f5 false true false false) := by
  refine returnsInHanded_of_change (C := Tryz.checked) own started (by kernel_rfl) Tryz.func5
    (ChangeSpec.witness6 (enc := enc) (C := Tryz.checked) false ⟨#[], #[.agg #[.int .i64 0, .slice none 0 0, .slice none 0 0], .slice none 0 0, .agg #[.slice none 0 0, .int .i64 0, .int .i64 0, .slice none 0 0], .slice none 0 0], []⟩ 8 (by kernel_rfl) (by kernel_rfl) (by kernel_rfl) (by kernel_rfl)) ?_
  intro W base args ds gs before hval0 hW hcnd _
  have hval : ∀ (j : Nat) t v, Tryz.f5.params[j]? = some t → args[j]? = some v → Value.okWide Tryz.prog W .any base t v := hval0
  have hW' := hW
  obtain ⟨p, q, hA0, hV, rfl, hfz, hnd⟩ := hW
  have hA : DataW.TrodAll enc Tryz.prog W 0 (fun _ => true) true Tryz.f5.params.toList args.toList ds p := hA0
  rw [Tryz.params5] at hA hval
  obtain ⟨v0, v1, v2, v3, d0, d1, d2, d3, p0, p1, p2, p3, rfl, rfl, rfl, h0, h1, h2, h3⟩ := trodAll_four hA
  obtain ⟨rfl, rfl⟩ := trodVars_none hV
  obtain ⟨wb, wc, wm, wC, wM, rfl, Hwc, Hwm⟩ := openWorld (hval 0 24 v0 rfl rfl) h0
  obtain ⟨la, ln, lc, l, rfl, _, Hl, Wl⟩ := openSl Tryz.underlying25 cellsP17 (by decide) (rdP17 enc W 0 _ _) (hval 1 25 v1 rfl rfl) h1
  have Fl : ∀ p ∈ l, p.l.Fit ∧ p.r.Fit := mem_of_idx Wl
  obtain ⟨tb, tk, ti, ta, t, rfl, Ht, Ft⟩ := openTm (hval 2 31 v2 rfl rfl) h2
  obtain ⟨sa, sn, sc, s, rfl, _, Hs, Ws⟩ := openSl Tryz.underlying56 cellsSt (by decide) (rdSt enc W 0 _ _) (hval 3 56 v3 rfl rfl) h3
  have Fs : ∀ x ∈ s, x.path.length ≤ 9223372036854775807 ∧ x.s.length ≤ 9223372036854775807 ∧ ∀ q ∈ x.s, q.2.Fit := mem_of_idx Ws
  clear hA0 hval0
  refine (row_of_pure (w := W) (vs := [.agg #[.int .i64 wb, wc, wm], .slice la ln lc, .agg #[tb, tk, ti, ta], .slice sa sn sc]) (auditChains_d wb wC wM l t s Hl.len1 Fl Ft Hs.len1 Fs) ⟨relWorld Hwc Hwm, relP17s Hl, relTmA Ht, relSts Hs, trivial⟩).mono fun e W' ⟨he, hb⟩ => ?_
  subst he
  exact ⟨_, rfl, post_true hW' rfl (by rw [Tryz.params5]; exact readable) (by kernel_rfl) rfl hb⟩

theorem proved : Rows.AuditChainsSaid :=
  OpenClaim.holds_of_wide 5 Tryz.f5 rfl rfl rfl rfl rfl rfl rfl ⟨rfl, rfl, rfl, rfl, rfl⟩ rfl rfl rfl rfl rfl (by kernel_rfl) Tryz.func5 (by kernel_rfl)
    (of_decide_eq_true (by kernel_rfl)) (by unfold Func.isWrapper; first | (rw [if_pos (by decide +kernel)]; kernel_rfl) | (rw [if_neg (by decide +kernel)]; exact ⟨rfl, rfl⟩))
    (fun os started H enc _ => lifted os started H enc)
end Go.Proofs.YtclihnccilkohaaGreat.auditChains
