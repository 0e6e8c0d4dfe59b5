/-
  The row QueuePlays.
-/
import Derived.Test.YtplfbdkljnblmaaRows
import Derived.Test.YtplfbdkljnblmaaRowQPlaysp3
import Derived.Test.YtplfbdkljnblmaaRowQPlaysp6
set_option linter.unusedVariables false
set_option linter.unusedSimpArgs false
namespace Go.Proofs.Ytplfbdkljnblmaa.queuePlays
open Go.RowKit Go.ChangeShapes Go.WideShapes Go.ChangeAt

theorem readable : ∀ t ∈ [3, 39], Try.prog.readableRec t = true ∧ t < Try.prog.types.size := by
  intro t ht
  simp only [List.mem_cons, List.not_mem_nil, or_false] at ht
  rcases ht with rfl | rfl
  · exact ⟨by kernel_rfl, of_decide_eq_true (by kernel_rfl)⟩
  · exact ⟨by kernel_rfl, of_decide_eq_true (by kernel_rfl)⟩

set_option maxRecDepth 100000 in
theorem lifted (os : Os) (started : os.Started) (H : Type) (enc : TypeId × Value → H) :
    ReturnsInHanded {} Try.checked os 5 .any (Rows.queuePlaysSpec.pre6 enc Try.prog Try.f5 Rows.queuePlaysRow.domain false)
      (Rows.queuePlaysSpec.post enc Try.prog Try.f5 false true false false) := by
  refine returnsInHanded_of_change (C := Try.checked) own started (by kernel_rfl) Try.func5
    (ChangeSpec.witness6 (enc := enc) (C := Try.checked) false ⟨#[], #[.int .i64 0, .slice none 0 0], []⟩ 8 (by kernel_rfl) (by kernel_rfl) (by kernel_rfl) (by kernel_rfl)) ?_
  intro W base args ds gs before hval0 hW hcnd _
  have hval : ∀ (j : Nat) t v, Try.f5.params[j]? = some t → args[j]? = some v → Value.okWide Try.prog W .any base t v := hval0
  have hW' := hW
  obtain ⟨p, q, hA0, hV, rfl, hfz, hnd⟩ := hW
  have hA : DataW.TrodAll enc Try.prog W 0 (fun _ => true) true Try.f5.params.toList args.toList ds p := hA0
  rw [Try.params5] at hA hval
  obtain ⟨v0, v1, d0, d1, p0, p1, rfl, rfl, rfl, h0, h1⟩ := trodAll_two hA
  obtain ⟨rfl, rfl⟩ := trodVars_none hV
  obtain ⟨p, rfl, rfl, rfl, wp⟩ := open_int Try.underlying3 (hval 0 3 v0 rfl rfl) h0
  obtain ⟨la, ln, lc, l, rfl, _, Hl, Wl⟩ := openSl Try.underlying39 cellsAct (by decide) (rdA enc W 0 _ _) (hval 1 39 v1 rfl rfl) h1
  clear hA0 hval0
  have hok : ∀ x ∈ l, x.ok := fun x hx => by obtain ⟨j, hj, rfl⟩ := List.getElem_of_mem hx; obtain ⟨_, _, _, _, _, h⟩ := Wl j hj; exact h
  have hwalk : Calls Try.prog 5 #[.int .i64 p, .slice la ln lc] W fun e w' => e = .returned (.bool true) ∧ Below W.heap.size W w' := by
    by_cases hp : 1 ≤ p ∧ p ≤ 1000
    · exact plays_walk p Hl hok hp.1 hp.2
    · exact plays_bad p (by omega)
  refine hwalk.mono fun e W' ⟨he, hb⟩ => ?_
  subst he
  exact ⟨_, rfl, post_true hW' rfl (by rw [Try.params5]; exact readable) (by kernel_rfl) rfl hb⟩

theorem proved : Rows.QueuePlaysSaid :=
  OpenClaim.holds_of_wide 5 Try.f5 rfl rfl rfl rfl rfl rfl rfl ⟨rfl, rfl, rfl, rfl, rfl⟩ rfl rfl rfl rfl rfl (by kernel_rfl) Try.func5 (by kernel_rfl)
    (of_decide_eq_true (by kernel_rfl)) (by unfold Func.isWrapper; first | (rw [if_pos (by decide +kernel)]; kernel_rfl) | (rw [if_neg (by decide +kernel)]; exact ⟨rfl, rfl⟩))
    (fun os started H enc _ => lifted os started H enc)
end Go.Proofs.Ytplfbdkljnblmaa.queuePlays
