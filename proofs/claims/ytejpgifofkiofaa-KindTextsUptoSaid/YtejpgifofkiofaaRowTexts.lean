/-
  The row KindTexts, where what comes in is of bulk at most 1048576.
-/
import Derived.Test.YtejpgifofkiofaaRows
import Derived.Test.YtejpgifofkiofaaOpen
import Derived.Test.YtejpgifofkiofaaTexts
namespace Go.Proofs.Ytejpgifofkiofaa.kindTexts
open Go.RowKit Go.ChangeShapes Go.WideShapes Go.ChangeAt

theorem cellsStr : Try.prog.cellsOf 9 = 1 := by kernel_rfl
theorem readable : ∀ t ∈ [26, 66], Try.prog.readableRec t = true ∧ t < Try.prog.types.size := by
  intro t ht
  simp only [List.mem_cons, List.not_mem_nil, or_false] at ht
  rcases ht with rfl | rfl
  · exact ⟨by kernel_rfl, of_decide_eq_true (by kernel_rfl)⟩
  · exact ⟨by kernel_rfl, of_decide_eq_true (by kernel_rfl)⟩

theorem rdStr {H : Type} (enc : TypeId × Value → H) (W : World) (base : Nat) (sp : Nat → Bool) (hd : Bool) (n : Nat) : Rd enc W base sp hd 9 rpStr (fun d s => d = .lit (.string s.data.toList)) n := by
  intro cs x h
  obtain ⟨s, rfl, rfl, _⟩ := DataW.trod_string Try.underlying9 h
  exact ⟨s, rfl, rfl⟩

theorem part_le {H : Type} {d : DataW H} {l : List (DataW H)} (h : d ∈ l) : Rows.uptoBulk d ≤ Rows.uptoBulkAll l := by
  induction l with
  | nil => cases h
  | cons x r ih =>
    simp only [Rows.uptoBulkAll]
    rcases List.mem_cons.1 h with rfl | e
    · omega
    · have := ih e; omega

theorem names_le {H : Type} {d0 d1 : DataW H} {names : List ByteArray} (h : ∀ i (h : i < names.length), ∃ x es spare, d1 = .slice es spare ∧ x ∈ es ∧ x = .lit (.string names[i].data.toList)) (hk : Rows.uptoSmall H [d0, d1] = true) :
    ∀ s ∈ names, s.size ≤ 1048576 := by
  intro s hs
  obtain ⟨i, hi, rfl⟩ := List.getElem_of_mem hs
  obtain ⟨x, es, spare, rfl, hx, rfl⟩ := h i hi
  have h1 := part_le hx
  have h2 : Rows.uptoBulkAll [d0, .slice es spare] ≤ 1048576 := of_decide_eq_true hk
  simp only [Rows.uptoBulkAll, Rows.uptoBulk] at h1 h2
  have e : names[i].data.toList.length = names[i].size := by rw [Array.length_toList]; rfl
  omega

set_option maxRecDepth 100000 in
theorem contract (H : Type) (enc : TypeId × Value → H) (W : World) (base : Nat) (args : Array Value) (ds gs : List (DataW H)) (before : List MemPlace)
    (hval : ∀ (j : Nat) t v, Try.f6.params[j]? = some t → args[j]? = some v → Value.okWide Try.prog W .any base t v)
    (hW : DataW.Whole enc Try.prog Try.f6.params.toList Rows.kindTextsSpec.vars false W args.toList ds gs before) (hk : Rows.uptoSmall H (ds ++ gs) = true) :
    Calls Try.prog 6 args W fun e W' => ∃ v, e = .returned v ∧ Rows.kindTextsSpec.post enc Try.prog Try.f6 false true false false W args v W' := by
  have hW' := hW
  obtain ⟨p, q, hA0, hV, rfl, hfz, hnd⟩ := hW
  have hA : DataW.TrodAll enc Try.prog W 0 (fun _ => true) true Try.f6.params.toList args.toList ds p := hA0
  rw [Try.params6] at hA hval
  obtain ⟨v0, v1, d0, d1, p0, p1, rfl, rfl, rfl, h0, h1⟩ := trodAll_two hA
  obtain ⟨rfl, rfl⟩ := trodVars_none hV
  obtain ⟨s, b, t, rfl, ht⟩ := openTyR (hval 0 26 v0 rfl rfl) h0
  obtain ⟨na, nn, nc, names, rfl, hcap, hn, hd⟩ := openSl Try.underlying66 cellsStr (by decide) (rdStr enc W 0 _ _) (hval 1 66 v1 rfl rfl) h1
  clear hA0
  refine (kindTexts_walk ht hn hcap (names_le hd hk)).mono fun e W' ⟨he, hb⟩ => ?_
  subst he
  exact ⟨_, rfl, post_true hW' rfl (by rw [Try.params6]; exact readable) (by kernel_rfl) rfl hb⟩

set_option maxRecDepth 100000 in
theorem lifted (os : Os) (started : os.Started) (H : Type) (enc : TypeId × Value → H) (F : Stop.Interp) :
    ReturnsInHanded {} Try.checked os 6 .any ((Rows.OpenSpec.upto Rows.kindTextsSpec).pre6 enc Try.prog Try.f6 Rows.kindTextsUptoRow.domain false) (((Rows.OpenSpec.upto Rows.kindTextsSpec).at F).post enc Try.prog Try.f6 false true false false) := by
  refine returnsInHanded_of_cond (C := Try.checked) (s := Rows.OpenSpec.upto Rows.kindTextsSpec) (k := Rows.uptoSmall) rfl own started (by kernel_rfl) Try.func6
    (OpenSpec.witness (enc := enc) (C := Try.checked) (s := Rows.OpenSpec.upto Rows.kindTextsSpec) (k := Rows.uptoSmall) rfl false ⟨#[], #[.agg #[.slice none 0 0, .int .i64 0], .slice none 0 0], []⟩ 8 (by kernel_rfl) (by kernel_rfl) (by kernel_rfl)
      (x := ([.agg [.nil, .lit (.int .i64 0)], .nil], [], [])) (by kernel_rfl) rfl (by kernel_rfl)) ?_
  intro W base args ds gs before hval hW _ hk _
  exact contract H enc W base args ds gs before hval hW hk

theorem proved : Rows.KindTextsUptoSaid :=
  OpenClaim.holds_of_cond 6 Try.f6 rfl rfl rfl rfl rfl rfl rfl ⟨rfl, rfl, rfl, rfl, rfl⟩ rfl rfl rfl rfl rfl (by kernel_rfl) Try.func6 (by kernel_rfl)
    (of_decide_eq_true (by kernel_rfl)) (by unfold Func.isWrapper; first | (rw [if_pos (by decide +kernel)]; kernel_rfl) | (rw [if_neg (by decide +kernel)]; exact ⟨rfl, rfl⟩))
    (fun os started H enc _ F => lifted os started H enc F)
end Go.Proofs.Ytejpgifofkiofaa.kindTexts
