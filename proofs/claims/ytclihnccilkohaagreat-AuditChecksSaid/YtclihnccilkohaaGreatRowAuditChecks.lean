/-
  The row AuditChecks.
-/
import Derived.Test.YtclihnccilkohaaGreatRows
import Derived.Test.YtclihnccilkohaaGreatRowAuditChecksp6
import Derived.Test.YtclihnccilkohaaGreatRowAuditChecksp1
import Derived.Test.YtclihnccilkohaaGreatRowAuditChecksp7
import Derived.Test.YtclihnccilkohaaGreatRowAuditChecksp9
import Derived.Test.YtclihnccilkohaaGreatRowAuditChecksp10
import Derived.Test.YtclihnccilkohaaGreatRowAuditChecksp12
set_option maxRecDepth 100000
set_option maxHeartbeats 1000000
set_option linter.unusedVariables false
set_option linter.unusedSimpArgs false
namespace Go.Proofs.YtclihnccilkohaaGreat.auditChecks
open Go.RowKit Go.ChangeShapes Go.WideShapes Go.ChangeAt

theorem readable : ∀ t ∈ [24, 25, 26, 33], Tryz.prog.readableRec t = true ∧ t < Tryz.prog.types.size := by
  intro t ht
  simp only [List.mem_cons, List.not_mem_nil, or_false] at ht
  rcases ht with rfl | rfl | rfl | rfl
  · exact ⟨by kernel_rfl, of_decide_eq_true (by kernel_rfl)⟩
  · exact ⟨by kernel_rfl, of_decide_eq_true (by kernel_rfl)⟩
  · exact ⟨by kernel_rfl, of_decide_eq_true (by kernel_rfl)⟩
  · exact ⟨by kernel_rfl, of_decide_eq_true (by kernel_rfl)⟩

set_option maxRecDepth 100000 in
theorem lifted (os : Os) (started : os.Started) (H : Type) (enc : TypeId × Value → H) :
    ReturnsInHanded {} Tryz.checked os 3 .any (Rows.auditChecksSpec.pre6 enc Tryz.prog Tryz.f3 Rows.auditChecksRow.domain false)
      (Rows.auditChecksSpec.post enc Tryz.prog Tryz.f3 false true false false) := by
  refine returnsInHanded_of_change (C := Tryz.checked) own started (by kernel_rfl) Tryz.func3
    (ChangeSpec.witness6 (enc := enc) (C := Tryz.checked) false ⟨#[], #[.agg #[.int .i64 0, .slice none 0 0, .slice none 0 0], .slice none 0 0, .slice none 0 0, .agg #[.slice none 0 0, .int .i64 0, .int .i64 0, .slice none 0 0, .slice none 0 0, .int .i64 0, .int .i64 0, .slice none 0 0, .slice none 0 0]], []⟩ 8 (by kernel_rfl) (by kernel_rfl) (by kernel_rfl) (by kernel_rfl)) ?_
  intro W base args ds gs before hval0 hW hcnd _
  have hval : ∀ (j : Nat) t v, Tryz.f3.params[j]? = some t → args[j]? = some v → Value.okWide Tryz.prog W .any base t v := hval0
  have hW' := hW
  obtain ⟨p, q, hA0, hV, rfl, hfz, hnd⟩ := hW
  have hA : DataW.TrodAll enc Tryz.prog W 0 (fun _ => true) true Tryz.f3.params.toList args.toList ds p := hA0
  rw [Tryz.params3] at hA hval
  obtain ⟨v0, v1, v2, v3, d0, d1, d2, d3, p0, p1, p2, p3, rfl, rfl, rfl, h0, h1, h2, h3⟩ := trodAll_four hA
  obtain ⟨rfl, rfl⟩ := trodVars_none hV
  obtain ⟨wb, wc, wm, wC, wM, rfl, Hwc, Hwm⟩ := NG (hval 0 24 v0 rfl rfl) h0
  obtain ⟨la, ln, lc, l, rfl, _, Hl, Wl⟩ := Lt Tryz.underlying25 Th (by decide) (JO enc W 0 _ _) (hval 1 25 v1 rfl rfl) h1
  have Fl : ∀ p ∈ l, p.l.Fit ∧ p.r.Fit := VW Wl
  obtain ⟨ca, cn, cc, c, rfl, _, Hc, Wc⟩ := Lt Tryz.underlying26 Na (by decide) (GQ enc W 0 _ _) (hval 2 26 v2 rfl rfl) h2
  have Fc : ∀ x ∈ c, JH x := VW Wc
  obtain ⟨p1, p2, p3, p4, p5, p6, p7, p8, p9, p, rfl, Hp, Fp⟩ := KD (hval 3 33 v3 rfl rfl) h3
  clear hA0 hval0
  refine (QP (w := W) (vs := [.agg #[.int .i64 wb, wc, wm], .slice la ln lc, .slice ca cn cc, .agg #[p1, p2, p3, p4, p5, p6, p7, p8, p9]]) (Rq wb wC wM l c p Hl.len1 Fl Hc.len1 Fc Fp) ⟨ME Hwc Hwm, KI Hl, Ig Hc, Ih Hp, trivial⟩).mono fun e W' ⟨he, hb⟩ => ?_
  subst he
  exact ⟨_, rfl, NJ hW' rfl (by rw [Tryz.params3]; exact readable) (by kernel_rfl) rfl hb⟩

theorem proved : Rows.AuditChecksSaid :=
  OpenClaim.holds_of_wide 3 Tryz.f3 rfl rfl rfl rfl rfl rfl rfl ⟨rfl, rfl, rfl, rfl, rfl⟩ rfl rfl rfl rfl rfl (by kernel_rfl) Tryz.func3 (by kernel_rfl)
    (of_decide_eq_true (by kernel_rfl)) (by unfold Func.isWrapper; first | (rw [if_pos (by decide +kernel)]; kernel_rfl) | (rw [if_neg (by decide +kernel)]; exact ⟨rfl, rfl⟩))
    (fun os started H enc _ => lifted os started H enc)
end Go.Proofs.YtclihnccilkohaaGreat.auditChecks
