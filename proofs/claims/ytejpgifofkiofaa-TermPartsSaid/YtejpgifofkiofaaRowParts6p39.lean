/-
  The readings of a row's arguments that are heads, terms or worlds.
-/
import Derived.Test.YtejpgifofkiofaaRowParts6p2
import Derived.Test.YtejpgifofkiofaaRowParts6p14
set_option linter.unusedVariables false
set_option linter.unusedSimpArgs false
namespace Go.Proofs.Ytejpgifofkiofaa
open Go.RowKit Go.ChangeShapes Go.WideShapes Go.ChangeAt

theorem wf_i64 {n : Int} (h : (Lit.int .i64 n).wf = true) : -9223372036854775808 ≤ n ∧ n ≤ 9223372036854775807 := by
  have h2 : IntKind.i64.min ≤ n ∧ n ≤ 9223372036854775807 := by simpa [Lit.wf] using h
  have h3 : IntKind.i64.min = -9223372036854775808 := by rfl
  omega

theorem four_of {α : Type} {cs : List α} (h : cs.length = 4) : ∃ a b c d, cs = [a, b, c, d] := by
  match cs, h with
  | [a, b, c, d], _ => exact ⟨a, b, c, d, rfl⟩
theorem cellsHead : Try.prog.cellsOf 23 = 2 := by kernel_rfl
theorem cellsTerm : Try.prog.cellsOf 29 = 4 := by kernel_rfl
theorem cellsSTerm : Try.prog.cellsOf 27 = 1 := by kernel_rfl

theorem headOf {H : Type} {enc : TypeId × Value → H} {W : World} {base : Nat} {sp : Nat → Bool} {hd : Bool} {n : Nat} {cs : List Value} {x : DataW H × List MemPlace} (h : DataW.trod enc Try.prog W base sp hd n 23 cs = some x) :
    ∃ k i, cs = [.int .i64 k, .int .i64 i] ∧ (-9223372036854775808 ≤ k ∧ k ≤ 9223372036854775807) ∧ (-9223372036854775808 ≤ i ∧ i ≤ 9223372036854775807) := by
  obtain ⟨xs, m, rfl, rfl, hl, hlen, hf⟩ := DataW.trod_struct Try.underlying23 h
  rw [cellsHead] at hl
  obtain ⟨v0, v1, rfl⟩ := two_of hl
  have h0 : DataW.trod enc Try.prog W base sp hd m 3 ([v0, v1].take (Try.prog.cellsOf 3)) = xs[0]? := hf 0 _ rfl
  have h1 : DataW.trod enc Try.prog W base sp hd m 3 ([v1].take (Try.prog.cellsOf 3)) = xs[1]? := hf 1 _ rfl
  rw [cellsInt] at h0 h1
  have hlen : xs.length = 2 := hlen
  rw [List.getElem?_eq_getElem (by omega)] at h0 h1
  obtain ⟨k, hk, _, hwk⟩ := DataW.trod_int Try.underlying3 h0
  obtain ⟨i, hi, _, hwi⟩ := DataW.trod_int Try.underlying3 h1
  have e0 : [v0] = [.int .i64 k] := hk
  have e1 : [v1] = [.int .i64 i] := hi
  simp only [List.cons.injEq, and_true] at e0 e1
  subst e0 e1
  exact ⟨k, i, rfl, wf_i64 hwk, wf_i64 hwi⟩

theorem rdM {H : Type} (enc : TypeId × Value → H) (W : World) (base : Nat) (sp : Nat → Bool) (hd : Bool) : ∀ n, Rd enc W base sp hd 29 rpTm (fun _ t => t.Fit) n := by
  intro n
  induction n using Nat.strongRecOn with
  | ind n ih =>
    intro cs x h
    obtain ⟨xs, m, rfl, rfl, hl, hlen, hf⟩ := DataW.trod_struct Try.underlying29 h
    rw [cellsTerm] at hl
    obtain ⟨v0, v1, v2, v3, rfl⟩ := four_of hl
    have h0 : DataW.trod enc Try.prog W base sp hd m 24 ([v0, v1, v2, v3].take (Try.prog.cellsOf 24)) = xs[0]? := hf 0 _ rfl
    have h1 : DataW.trod enc Try.prog W base sp hd m 23 ([v1, v2, v3].take (Try.prog.cellsOf 23)) = xs[1]? := hf 1 _ rfl
    have h2 : DataW.trod enc Try.prog W base sp hd m 27 ([v3].take (Try.prog.cellsOf 27)) = xs[2]? := hf 2 _ rfl
    rw [cellsSR] at h0
    rw [cellsHead] at h1
    rw [cellsSTerm] at h2
    have hlen : xs.length = 3 := hlen
    rw [List.getElem?_eq_getElem (by omega)] at h0 h1 h2
    obtain ⟨va, vn, vc, l, hv, _, hs, _⟩ := sl_of_trod Try.underlying24 cellsR (by decide) (fun j hj => rdR enc W base sp hd j) h0
    obtain ⟨k, i, hki, _, hi⟩ := headOf h1
    obtain ⟨ta, tn, tc, tl, htv, _, hts, hfit⟩ := sl_of_trod Try.underlying27 cellsTerm (by decide) (fun j hj => ih j (by omega)) h2
    have e0 : [v0] = [.slice va vn vc] := hv
    have e1 : [v1, v2] = [.int .i64 k, .int .i64 i] := hki
    have e3 : [v3] = [.slice ta tn tc] := htv
    simp only [List.cons.injEq, and_true] at e0 e1 e3
    obtain ⟨e1, e2⟩ := e1
    subst e0 e1 e2 e3
    refine ⟨.mk l k i tl, ⟨_, _, _, _, rfl, isTm_mk hs hts k i⟩, ?_⟩
    refine Tm.fit_iff.2 ⟨hi.1, hi.2, fun t ht => ?_⟩
    obtain ⟨j, hj, rfl⟩ := List.getElem_of_mem ht
    obtain ⟨_, _, _, _, _, h⟩ := hfit j hj
    exact h

set_option maxRecDepth 100000 in
theorem openTm {H : Type} {enc : TypeId × Value → H} {W : World} {base : Nat} {sp : Nat → Bool} {hd : Bool} {r : Reach} {b0 : Nat} {v : Value} {d : DataW H} {p : List MemPlace}
    (hval : Value.okWide Try.prog W r b0 29 v) (h : DataW.Trod enc Try.prog W base sp hd 29 v d p) : ∃ b k i a t, v = .agg #[b, k, i, a] ∧ IsTm (fun _ => True) W b k i a t ∧ t.Fit := by
  obtain ⟨n, h⟩ := h
  obtain ⟨t, ⟨b, k, i, a, hx, ht⟩, hf⟩ := rdM enc W base sp hd n _ _ h
  obtain ⟨cs, rfl, _⟩ := okWide_struct Try.underlying29 hval
  refine ⟨b, k, i, a, t, ?_, ht, hf⟩
  have : cs.toList = [b, k, i, a] := hx
  rw [← Array.toList_inj.1 (show cs.toList = (#[b, k, i, a] : Array Value).toList from this)]
set_option maxRecDepth 100000 in
theorem openHead {H : Type} {enc : TypeId × Value → H} {W : World} {base : Nat} {sp : Nat → Bool} {hd : Bool} {r : Reach} {b0 : Nat} {v : Value} {d : DataW H} {p : List MemPlace}
    (hval : Value.okWide Try.prog W r b0 23 v) (h : DataW.Trod enc Try.prog W base sp hd 23 v d p) :
    ∃ k i, v = .agg #[.int .i64 k, .int .i64 i] ∧ (-9223372036854775808 ≤ k ∧ k ≤ 9223372036854775807) ∧ (-9223372036854775808 ≤ i ∧ i ≤ 9223372036854775807) := by
  obtain ⟨n, h⟩ := h
  obtain ⟨k, i, hx, hk, hi⟩ := headOf h
  obtain ⟨cs, rfl, _⟩ := okWide_struct Try.underlying23 hval
  refine ⟨k, i, ?_, hk, hi⟩
  have : cs.toList = [.int .i64 k, .int .i64 i] := hx
  rw [← Array.toList_inj.1 (show cs.toList = (#[.int .i64 k, .int .i64 i] : Array Value).toList from this)]
end Go.Proofs.Ytejpgifofkiofaa

