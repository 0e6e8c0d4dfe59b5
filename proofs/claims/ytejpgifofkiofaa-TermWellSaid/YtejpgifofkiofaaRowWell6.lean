/-
  The row TermWell.
-/
import Derived.Test.YtejpgifofkiofaaRows
import Derived.Test.YtejpgifofkiofaaRowWell6p2
import Derived.Test.YtejpgifofkiofaaRowWell6p37
import Derived.Test.YtejpgifofkiofaaRowWell6p38
set_option linter.unusedVariables false
set_option linter.unusedSimpArgs false
namespace Go.Proofs.Ytejpgifofkiofaa.termWell
open Go.RowKit Go.ChangeShapes Go.WideShapes Go.ChangeAt

theorem readable : ∀ t ∈ [87, 24, 24, 23, 29], Try.prog.readableRec t = true ∧ t < Try.prog.types.size := by
  intro t ht
  simp only [List.mem_cons, List.not_mem_nil, or_false] at ht
  rcases ht with rfl | rfl | rfl | rfl | rfl
  · exact ⟨by kernel_rfl, of_decide_eq_true (by kernel_rfl)⟩
  · exact ⟨by kernel_rfl, of_decide_eq_true (by kernel_rfl)⟩
  · exact ⟨by kernel_rfl, of_decide_eq_true (by kernel_rfl)⟩
  · exact ⟨by kernel_rfl, of_decide_eq_true (by kernel_rfl)⟩
  · exact ⟨by kernel_rfl, of_decide_eq_true (by kernel_rfl)⟩

set_option maxRecDepth 100000 in
theorem lifted (os : Os) (started : os.Started) (H : Type) (enc : TypeId × Value → H) :
    ReturnsInHanded {} Try.checked os 11 .any (Rows.termWellSpec.pre6 enc Try.prog Try.f11 Rows.termWellRow.domain false)
      (Rows.termWellSpec.post enc Try.prog Try.f11 false true false false) := by
  refine returnsInHanded_of_change (C := Try.checked) own started (by kernel_rfl) Try.func11
    (ChangeSpec.witness6 (enc := enc) (C := Try.checked) false ⟨#[], #[.agg #[.int .i64 0, .slice none 0 0, .slice none 0 0], .slice none 0 0, .slice none 0 0, .agg #[.int .i64 0, .int .i64 0], .agg #[.slice none 0 0, .int .i64 0, .int .i64 0, .slice none 0 0]], []⟩ 8 (by kernel_rfl) (by kernel_rfl) (by kernel_rfl) (by kernel_rfl)) ?_
  intro W base args ds gs before hval0 hW hcnd _
  have hval : ∀ (j : Nat) t v, Try.f11.params[j]? = some t → args[j]? = some v → Value.okWide Try.prog W .any base t v := hval0
  have hW' := hW
  obtain ⟨p, q, hA0, hV, rfl, hfz, hnd⟩ := hW
  have hA : DataW.TrodAll enc Try.prog W 0 (fun _ => true) true Try.f11.params.toList args.toList ds p := hA0
  rw [Try.params11] at hA hval
  obtain ⟨v0, v1, v2, v3, v4, d0, d1, d2, d3, d4, p0, p1, p2, p3, p4, rfl, rfl, rfl, h0, h1, h2, h3, h4⟩ := trodAll_five hA
  obtain ⟨rfl, rfl⟩ := trodVars_none hV
  obtain ⟨wb, wc, wm, wC, wM, rfl, Hwc, Hwm⟩ := openWorld (hval 0 87 v0 rfl rfl) h0
  obtain ⟨xa, xn, xc, x, rfl, _, Hx, _⟩ := openSl Try.underlying24 cellsR (by decide) (rdR enc W 0 _ _) (hval 1 24 v1 rfl rfl) h1
  obtain ⟨ma, mn, mc, m, rfl, _, Hm, _⟩ := openSl Try.underlying24 cellsR (by decide) (rdR enc W 0 _ _) (hval 2 24 v2 rfl rfl) h2
  obtain ⟨hk, hi, rfl, whk, whi⟩ := openHead (hval 3 23 v3 rfl rfl) h3
  obtain ⟨tb, tk, ti, ta, t, rfl, Ht, Ft⟩ := openTm (hval 4 29 v4 rfl rfl) h4
  clear hA0 hval0
  refine (termWell_walk Hwc Hwm Hx Hm whi Ht Ft).mono fun e W' ⟨he, hb⟩ => ?_
  subst he
  exact ⟨_, rfl, post_true hW' rfl (by rw [Try.params11]; exact readable) (by kernel_rfl) rfl hb⟩

theorem proved : Rows.TermWellSaid :=
  OpenClaim.holds_of_wide 11 Try.f11 rfl rfl rfl rfl rfl rfl rfl ⟨rfl, rfl, rfl, rfl, rfl⟩ rfl rfl rfl rfl rfl (by kernel_rfl) Try.func11 (by kernel_rfl)
    (of_decide_eq_true (by kernel_rfl)) (by unfold Func.isWrapper; first | (rw [if_pos (by decide +kernel)]; kernel_rfl) | (rw [if_neg (by decide +kernel)]; exact ⟨rfl, rfl⟩))
    (fun os started H enc _ => lifted os started H enc)
end Go.Proofs.Ytejpgifofkiofaa.termWell
