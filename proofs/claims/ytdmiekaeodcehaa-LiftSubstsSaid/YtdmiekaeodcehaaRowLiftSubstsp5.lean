/-
  The readings of a row's arguments that are pairs, and what was opened, told as deep values. The readings of five arguments. Terms, walked in the deep way: Equal, Eta, Var; the document's Same, Eta, Var. term.Loose. Package pattern, walked in the deep way: what is small. The readings of a row's arguments that are lists of ints. Deep values: a function that hands back a new map. Package pattern, walked in the deep way: Flex, Vars, places, types. Package lift, walked in the deep way: variables, each, term. Deep values: calls that grow rows of their callers. Deep values: rows that nothing else reads: how they begin, how they are handed on. Sorting that keeps the order of equal keys, in plain words. Package slices' stable sort of pairs, walked in the deep way: insertion, swaps, rotation.
-/
import Derived.Test.YtdmiekaeodcehaaRowLiftSubstsp1
import Derived.Test.YtdmiekaeodcehaaRowLiftSubstsp4
import Derived.Carry
set_option maxRecDepth 100000
set_option maxHeartbeats 1000000
set_option linter.unusedVariables false
set_option linter.unusedSimpArgs false
namespace Go.Proofs.Ytdmiekaeodcehaa
open Go.RowKit Go.ChangeShapes Go.WideShapes Go.ChangeAt

def rpPr : Rp (Int × Tm) where
  n := 5
  R := fun F w x p => ∃ b k i a, x = [.int .i64 p.1, b, k, i, a] ∧ IsTm F w b k i a p.2
  len := fun ⟨_, _, _, _, e, _⟩ => by rw [e]; rfl
  one := fun ⟨b, k, i, a, e, h⟩ v hv => by
    have h1 := rpTm.one (F := _) (w := _) (x := [b, k, i, a]) (a := _) ⟨b, k, i, a, rfl, h⟩
    rw [e] at hv
    rcases List.mem_cons.1 hv with rfl | hv
    · rfl
    · exact h1 v hv
  keep := fun ⟨b, k, i, a, e, h⟩ hk => ⟨b, k, i, a, e, h.keep hk⟩
  weaken := fun ⟨b, k, i, a, e, h⟩ hf => ⟨b, k, i, a, e, h.weaken hf⟩
theorem cellsPair : Try.prog.cellsOf 95 = 5 := by kernel_rfl
theorem five_of {α : Type} {cs : List α} (h : cs.length = 5) : ∃ a b c d e, cs = [a, b, c, d, e] := by
  match cs, h with
  | [a, b, c, d, e], _ => exact ⟨a, b, c, d, e, rfl⟩
theorem rdPr {H : Type} (enc : TypeId × Value → H) (W : World) (base : Nat) (sp : Nat → Bool) (hd : Bool) : ∀ n, Rd enc W base sp hd 95 rpPr (fun _ p => p.2.Fit ∧ -9223372036854775808 ≤ p.1 ∧ p.1 ≤ 9223372036854775807) n := by
  intro n cs x h
  obtain ⟨xs, m, rfl, rfl, hl, hlen, hf⟩ := DataW.trod_struct Try.underlying95 h
  rw [cellsPair] at hl
  obtain ⟨v0, v1, v2, v3, v4, rfl⟩ := five_of hl
  have h0 : DataW.trod enc Try.prog W base sp hd m 3 ([v0, v1, v2, v3, v4].take (Try.prog.cellsOf 3)) = xs[0]? := hf 0 _ rfl
  have h1 : DataW.trod enc Try.prog W base sp hd m 27 ([v1, v2, v3, v4].take (Try.prog.cellsOf 27)) = xs[1]? := hf 1 _ rfl
  rw [cellsInt] at h0
  rw [cellsTerm] at h1
  have hlen : xs.length = 2 := hlen
  rw [List.getElem?_eq_getElem (by omega)] at h0 h1
  obtain ⟨i, hi, _, hw⟩ := DataW.trod_int Try.underlying3 h0
  have e0 : [v0] = [.int .i64 i] := hi
  simp only [List.cons.injEq, and_true] at e0
  subst e0
  obtain ⟨t, ⟨b, k, j, a, hx, ht⟩, hfit⟩ := rdM enc W base sp hd m _ _ h1
  have e1 : [v1, v2, v3, v4] = [b, k, j, a] := hx
  simp only [List.cons.injEq, and_true] at e1
  obtain ⟨rfl, rfl, rfl, rfl⟩ := e1
  exact ⟨(i, t), ⟨_, _, _, _, rfl, ht⟩, hfit, wf_i64 hw⟩
theorem mem_of_idx {α H : Type} {l : List α} {d : DataW H} {Q : α → Prop} (h : ∀ i (h : i < l.length), ∃ x es spare, d = .slice es spare ∧ x ∈ es ∧ Q l[i]) : ∀ p ∈ l, Q p := fun p hp => by
  obtain ⟨i, hi, rfl⟩ := List.getElem_of_mem hp
  obtain ⟨_, _, _, _, _, h⟩ := h i hi
  exact h
theorem IsSl.len1 {α : Type} {r : Rp α} {F : Nat → Prop} {w : World} {v : Value} {l : List α} (h : IsSl r F w v l) : l.length ≤ 9223372036854775807 := by
  obtain ⟨a, c, bl, off, X, _, h1, _⟩ := h
  have : maxLen = 9223372036854775807 := rfl
  omega
section
variable {m : Mp} {w : World} {F : Nat → Prop}
theorem relTys {v : Value} {l : List Ty} (h : IsSl rpTy F w v l) : Rel m (cellI F w) w v (.sl 2 (eTys l) none) := by
  rw [eTys_map]
  exact rel_of_sl (r := rpTy) (e := eTy) cellI_of eTy_len (fun x t hx => by
    obtain ⟨s, b, rfl, ht⟩ := hx
    exact rel_of_ty cellI_of t ht) h
theorem relPairs {v : Value} {l : List (Int × Tm)} (h : IsSl rpPr F w v l) : Rel m (cellI F w) w v (.sl 5 (ePairs l) none) :=
  rel_of_sl (r := rpPr) (e := ePair) cellI_of (fun p => by rw [ePair_eq]; rfl) (fun x p hx => by
    obtain ⟨b, k, i, a, rfl, ht⟩ := hx
    exact ⟨.v _, rel_of_tm cellI_of p.2 ht⟩) h
end
theorem row_of_pure {f : FuncId} {ds : List D} (h : PureC Try.prog f ds (.v (.bool true))) {w : World} {vs : List Value} (hv : RelL m00 (cellI (fun _ => True) w) w vs ds) :
    Calls Try.prog f vs.toArray w fun e w' => e = .returned (.bool true) ∧ Below w.heap.size w w' := by
  refine (calls_of_pure h cellI_ok hv).mono ?_
  rintro e w' ⟨v, Im', rfl, h1, h2, _⟩
  have := rel_v.1 h2; subst this
  exact ⟨rfl, h1⟩
end Go.Proofs.Ytdmiekaeodcehaa

namespace Go.Proofs.Ytdmiekaeodcehaa
open Go.RowKit Go.ChangeShapes Go.WideShapes Go.ChangeAt
section
variable {H : Type} {enc : TypeId × Value → H} {P : Program} {w : World} {base : Nat} {spare : Nat → Bool} {held : Bool}
end
end Go.Proofs.Ytdmiekaeodcehaa

namespace Go.Proofs.Ytdmiekaeodcehaa
open Go.RowKit
def TTM_3 : TI := ⟨1, false, [Value.int IntKind.i64 0], [], none, 8, 2, none, false⟩
theorem TTM_3_ok : TypOk Try.prog 3 TTM_3 := ⟨by kernel_rfl, by kernel_rfl, by kernel_rfl, by kernel_rfl, by kernel_rfl⟩
def TTM_34 : TI := ⟨4, true, [Value.slice none 0 0, Value.int IntKind.i64 0, Value.int IntKind.i64 0, Value.slice none 0 0], [(0, 1, false), (1, 2, true), (3, 1, false)], none, 64, 6, none, false⟩
theorem TTM_34_ok : TypOk Try.prog 34 TTM_34 := ⟨by kernel_rfl, by kernel_rfl, by kernel_rfl, by kernel_rfl, by kernel_rfl⟩
def TTM_27 : TI := ⟨4, true, [Value.slice none 0 0, Value.int IntKind.i64 0, Value.int IntKind.i64 0, Value.slice none 0 0], [(0, 1, false), (1, 2, true), (3, 1, false)], none, 64, 6, none, false⟩
theorem TTM_27_ok : TypOk Try.prog 27 TTM_27 := ⟨by kernel_rfl, by kernel_rfl, by kernel_rfl, by kernel_rfl, by kernel_rfl⟩
def TTM_24 : TI := ⟨2, true, [Value.int IntKind.i64 0, Value.int IntKind.i64 0], [(0, 1, false), (1, 1, false)], none, 16, 6, none, true⟩
theorem TTM_24_ok : TypOk Try.prog 24 TTM_24 := ⟨by kernel_rfl, by kernel_rfl, by kernel_rfl, by kernel_rfl, by kernel_rfl⟩
def TTM_31 : TI := ⟨2, true, [Value.int IntKind.i64 0, Value.int IntKind.i64 0], [(0, 1, false), (1, 1, false)], none, 16, 6, none, true⟩
theorem TTM_31_ok : TypOk Try.prog 31 TTM_31 := ⟨by kernel_rfl, by kernel_rfl, by kernel_rfl, by kernel_rfl, by kernel_rfl⟩
def TTM_32 : TI := ⟨1, false, [Value.slice none 0 0], [], some 34, 24, 5, none, false⟩
theorem TTM_32_ok : TypOk Try.prog 32 TTM_32 := ⟨by kernel_rfl, by kernel_rfl, by kernel_rfl, by kernel_rfl, by kernel_rfl⟩
def TTM_30 : TI := ⟨1, false, [Value.slice none 0 0], [], some 100, 24, 5, none, false⟩
theorem TTM_30_ok : TypOk Try.prog 30 TTM_30 := ⟨by kernel_rfl, by kernel_rfl, by kernel_rfl, by kernel_rfl, by kernel_rfl⟩
def TTM_25 : TI := ⟨1, false, [Value.slice none 0 0], [], some 27, 24, 5, none, false⟩
theorem TTM_25_ok : TypOk Try.prog 25 TTM_25 := ⟨by kernel_rfl, by kernel_rfl, by kernel_rfl, by kernel_rfl, by kernel_rfl⟩
def TTM_22 : TI := ⟨1, false, [Value.slice none 0 0], [], some 146, 24, 5, none, false⟩
theorem TTM_22_ok : TypOk Try.prog 22 TTM_22 := ⟨by kernel_rfl, by kernel_rfl, by kernel_rfl, by kernel_rfl, by kernel_rfl⟩
def TTM_100 : TI := ⟨2, true, [Value.slice none 0 0, Value.int IntKind.i64 0], [(0, 1, false), (1, 1, false)], none, 32, 6, none, false⟩
theorem TTM_100_ok : TypOk Try.prog 100 TTM_100 := ⟨by kernel_rfl, by kernel_rfl, by kernel_rfl, by kernel_rfl, by kernel_rfl⟩
def TTM_146 : TI := ⟨2, true, [Value.slice none 0 0, Value.int IntKind.i64 0], [(0, 1, false), (1, 1, false)], none, 32, 6, none, false⟩
theorem TTM_146_ok : TypOk Try.prog 146 TTM_146 := ⟨by kernel_rfl, by kernel_rfl, by kernel_rfl, by kernel_rfl, by kernel_rfl⟩
def TTM_194 : TI := ⟨1, false, [Value.nilFunc], [], none, 8, 8, none, false⟩
theorem TTM_194_ok : TypOk Try.prog 194 TTM_194 := ⟨by kernel_rfl, by kernel_rfl, by kernel_rfl, by kernel_rfl, by kernel_rfl⟩
def TTM_63 : TI := ⟨1, false, [Value.nilFunc], [], none, 8, 8, none, false⟩
theorem TTM_63_ok : TypOk Try.prog 63 TTM_63 := ⟨by kernel_rfl, by kernel_rfl, by kernel_rfl, by kernel_rfl, by kernel_rfl⟩
def TTM : List (Nat × TI) := [(3, TTM_3), (34, TTM_34), (27, TTM_27), (24, TTM_24), (31, TTM_31), (32, TTM_32), (30, TTM_30), (25, TTM_25), (22, TTM_22), (100, TTM_100), (146, TTM_146), (194, TTM_194), (63, TTM_63)]
theorem TTM_ok : TabOk Try.prog TTM := ((((((((((((((TabOk.nil _).cons TTM_63_ok).cons TTM_194_ok).cons TTM_146_ok).cons TTM_100_ok).cons TTM_22_ok).cons TTM_25_ok).cons TTM_30_ok).cons TTM_32_ok).cons TTM_31_ok).cons TTM_24_ok).cons TTM_27_ok).cons TTM_34_ok).cons TTM_3_ok)

theorem bindsT (b : List Ty) (k i : Int) (a : List Tm) : (Tm.mk b k i a).binds = b := rfl
theorem kindT (b : List Ty) (k i : Int) (a : List Tm) : (Tm.mk b k i a).kind = k := rfl
theorem indexT (b : List Ty) (k i : Int) (a : List Tm) : (Tm.mk b k i a).index = i := rfl
theorem argsTm (b : List Ty) (k i : Int) (a : List Tm) : (Tm.mk b k i a).args = a := rfl
theorem tm_ext {t u : Tm} : t = u ↔ (t.kind = u.kind ∧ t.index = u.index) ∧ t.binds = u.binds ∧ t.args = u.args := by
  obtain ⟨b, k, i, a⟩ := t
  obtain ⟨b', k', i', a'⟩ := u
  simp only [bindsT, kindT, indexT, argsTm, Tm.mk.injEq]
  exact ⟨fun ⟨h1, h2, h3, h4⟩ => ⟨⟨h2, h3⟩, h1, h4⟩, fun ⟨⟨h1, h2⟩, h3, h4⟩ => ⟨h3, h1, h2, h4⟩⟩
theorem same2_d : ∀ t u : Tm, PureC Try.prog 15 [.ag (eTm t), .ag (eTm u)] (.v (.bool (decide (t = u)))) := by
 intro t
 induction t using Tm.ind with
 | h b k i a ih =>
 intro u
 refine CallC.lens fun hlen => ?_
 have hl : a.length ≤ 9223372036854775807 := by
  have := hlen _ (List.mem_cons_self ..)
  rw [eTm_eq] at this
  have := this (.sl 4 (eTms a) none) (by simp [argsTm])
  simp only [sl1, eTms_len] at this; exact this
 have hb := rtypesEq_d b u.binds
 rw [eTm_eq, eTm_eq]
 simp only [bindsT, kindT, indexT, argsTm]
 by_cases h1 : k = u.kind ∧ i = u.index
 ·by_cases hlr : a.length = u.args.length
  ·by_cases h2 : b = u.binds
   ·rw [show decide (Tm.mk b k i a = u) = decide (a = u.args) by rw [Bool.eq_iff_iff, decide_eq_true_iff, decide_eq_true_iff, tm_ext]; simp [bindsT, kindT, indexT, argsTm, h1, h2]]
    rw [decide_eq_true h2] at hb
    refine calldw 0 47 [ResultVar.tmp 4] TTM_ok Try.func15 rfl Try.ntmps15 rfl fun cx hnt hn0 => ?_
    ·skip
     refine dw_seq ?_; refine dwk [] TTM_ok hnt fun K hK => ?_; refine hK _ _ ?_; clear hK K; refine dw_seq ?_; refine dw_seq ?_; refine dwk [(10, .v (.bool false)), (14, .v (.int .i64 (↑a.length))), (17, .v (.int .i64 (↑u.args.length))), (18, .v (.bool false))] TTM_ok hnt fun K hK => ?_; refine And.intro (VLe.of_eq (by congr 2; simp [h1])) ?_; refine And.intro (dintE (by rw [eTms_len])) ?_; refine And.intro (dintE (by rw [eTms_len])) ?_
     refine And.intro (bneF (by omega)) ?_; refine dcl (hb) ?_; refine hK _ _ ?_; clear hK K; refine dw_cond (t := false) rfl ?_; rw [if_neg (by simp)]; refine dw_skip ?_; refine dw_seq ?_; refine dw_seq ?_; refine dwk [] TTM_ok hnt fun K hK => ?_; refine hK _ _ ?_; clear hK K; refine dw_block ?_
     refine dw_loop (ι := { j : Nat // a.take j = u.args.take j }) (fun j => [(.t 2, .p 0 0), (.t 3, .p 1 0), (.t 5, .v (.int .i64 ↑j.1)), (.c 0 3, .sl 4 (eTms a) none), (.c 1 3, .sl 4 (eTms u.args) none)]) 2 (fun j => a.length - j.1) (⟨0, rfl⟩) (VS.toA) fun j => ?_
     obtain ⟨j, hj⟩ := j
     dsimp only
     by_cases hlt : j < a.length
     ·have hlt2 : j < u.args.length := by omega
      have hq := ih a[j] (List.getElem_mem hlt) u.args[j]
      rw [eTm_eq, eTm_eq] at hq
      by_cases he : a[j] = u.args[j]
      ·rw [decide_eq_true he] at hq
       refine dw_seq ?_; refine dw_seq ?_; refine dwk [(31, .v (.int .i64 (↑a.length))), (32, .v (.bool true))] TTM_ok hnt fun K hK => ?_; refine And.intro (dintE (by rw [eTms_len])) ?_; refine And.intro auT ?_; refine hK _ _ ?_; clear hK K; refine dw_cond (t := true) rfl ?_; rw [if_pos rfl]; refine dw_skip ?_; refine dw_seq ?_; refine dw_block ?_; refine dw_seq ?_; refine dwkD [(38, .q [.sl 2 (eTys a[j].binds) none, .v (.int .i64 a[j].kind), .v (.int .i64 a[j].index), .sl 4 (eTms a[j].args) none]), (43, .q [.sl 2 (eTys u.args[j].binds) none, .v (.int .i64 u.args[j].kind), .v (.int .i64 u.args[j].index), .sl 4 (eTms u.args[j].args) none])] TTM_ok hnt fun K hK => ?_
       refine And.intro (elo (eTms_len a)) ?_; refine And.intro (elv (eTms_getD a j) (eTm_eq _)) ?_; refine And.intro (elo (eTms_len u.args)) ?_; refine And.intro (elv (eTms_getD u.args j) (eTm_eq _)) ?_; refine dcl (hq) ?_; refine hK _ _ (by kernel_rfl) ?_; clear hK K; refine dw_cond (t := false) rfl ?_; rw [if_neg (by simp)]; refine dw_skip ?_; refine dwk [(34, .v (.int .i64 (↑(j + 1))))] TTM_ok hnt fun K hK => ?_
       refine And.intro auI ?_; refine hK _ _ ?_; clear hK K
       refine ⟨⟨j + 1, take_succ_eq hj hlt hlt2 he⟩, by first | omega | (dsimp only; omega), VS.toA⟩
      ·rw [decide_eq_false he] at hq
       rw [decide_eq_false (ne_at hlt hlt2 he)]
       refine dw_seq ?_; refine dw_seq ?_; refine dwk [(31, .v (.int .i64 (↑a.length))), (32, .v (.bool true))] TTM_ok hnt fun K hK => ?_; refine And.intro (dintE (by rw [eTms_len])) ?_; refine And.intro auT ?_; refine hK _ _ ?_; clear hK K; refine dw_cond (t := true) rfl ?_; rw [if_pos rfl]; refine dw_skip ?_; refine dw_seq ?_; refine dw_block ?_; refine dw_seq ?_; refine dwkD [(38, .q [.sl 2 (eTys a[j].binds) none, .v (.int .i64 a[j].kind), .v (.int .i64 a[j].index), .sl 4 (eTms a[j].args) none]), (43, .q [.sl 2 (eTys u.args[j].binds) none, .v (.int .i64 u.args[j].kind), .v (.int .i64 u.args[j].index), .sl 4 (eTms u.args[j].args) none])] TTM_ok hnt fun K hK => ?_
       refine And.intro (elo (eTms_len a)) ?_; refine And.intro (elv (eTms_getD a j) (eTm_eq _)) ?_; refine And.intro (elo (eTms_len u.args)) ?_; refine And.intro (elv (eTms_getD u.args j) (eTm_eq _)) ?_; refine dcl (hq) ?_; refine hK _ _ (by kernel_rfl) ?_; clear hK K; refine dw_cond (t := true) rfl ?_; rw [if_pos rfl]; refine dw_seq ?_; refine dwk [] TTM_ok hnt fun K hK => ?_; refine hK _ _ ?_; clear hK K
       refine dw_ret ?_
       exact reta rfl
     ·rw [decide_eq_true (eq_of_take hj (by omega) (by omega))]
      refine dw_seq ?_; refine dw_seq ?_; refine dwk [(31, .v (.int .i64 (↑a.length))), (32, .v (.bool false))] TTM_ok hnt fun K hK => ?_; refine And.intro (dintE (by rw [eTms_len])) ?_; refine And.intro auF ?_; refine hK _ _ ?_; clear hK K; refine dw_cond (t := false) rfl ?_; rw [if_neg (by simp)]; refine dw_exit ?_; refine dw_seq ?_; refine dwk [] TTM_ok hnt fun K hK => ?_; refine hK _ _ ?_; clear hK K
      refine dw_ret ?_
      exact reta rfl
   ·rw [show decide (Tm.mk b k i a = u) = false from decide_eq_false fun e => h2 (by rw [← e]; rfl)]
    rw [decide_eq_false h2] at hb
    refine calldw 0 47 [ResultVar.tmp 4] TTM_ok Try.func15 rfl Try.ntmps15 rfl fun cx hnt hn0 => ?_
    ·skip
     refine dw_seq ?_; refine dwk [] TTM_ok hnt fun K hK => ?_; refine hK _ _ ?_; clear hK K; refine dw_seq ?_; refine dw_seq ?_; refine dwk [(10, .v (.bool false)), (14, .v (.int .i64 (↑a.length))), (17, .v (.int .i64 (↑u.args.length))), (18, .v (.bool false))] TTM_ok hnt fun K hK => ?_; refine And.intro (VLe.of_eq (by congr 2; simp [h1])) ?_; refine And.intro (dintE (by rw [eTms_len])) ?_; refine And.intro (dintE (by rw [eTms_len])) ?_
     refine And.intro (bneF (by omega)) ?_; refine dcl (hb) ?_; refine hK _ _ ?_; clear hK K; refine dw_cond (t := true) rfl ?_; rw [if_pos rfl]; refine dw_seq ?_; refine dwk [] TTM_ok hnt fun K hK => ?_; refine hK _ _ ?_; clear hK K; refine dw_ret ?_
     exact reta rfl
  ·rw [show decide (Tm.mk b k i a = u) = false from decide_eq_false fun e => hlr (by rw [← e]; rfl)]
   refine calldw 0 47 [ResultVar.tmp 4] TTM_ok Try.func15 rfl Try.ntmps15 rfl fun cx hnt hn0 => ?_
   ·skip
    refine dw_seq ?_; refine dwk [] TTM_ok hnt fun K hK => ?_; refine hK _ _ ?_; clear hK K; refine dw_seq ?_; refine dw_seq ?_; refine dwk [(10, .v (.bool false)), (14, .v (.int .i64 (↑a.length))), (17, .v (.int .i64 (↑u.args.length))), (18, .v (.bool true))] TTM_ok hnt fun K hK => ?_; refine And.intro (VLe.of_eq (by congr 2; simp [h1])) ?_; refine And.intro (dintE (by rw [eTms_len])) ?_; refine And.intro (dintE (by rw [eTms_len])) ?_
    refine And.intro (bneT (by omega)) ?_; refine hK _ _ ?_; clear hK K; refine dw_cond (t := true) rfl ?_; rw [if_pos rfl]; refine dw_seq ?_; refine dwk [] TTM_ok hnt fun K hK => ?_; refine hK _ _ ?_; clear hK K; refine dw_ret ?_
    exact reta rfl
 ·rw [show decide (Tm.mk b k i a = u) = false from decide_eq_false fun e => h1 (by rw [← e]; exact ⟨rfl, rfl⟩)]
  refine calldw 0 47 [ResultVar.tmp 4] TTM_ok Try.func15 rfl Try.ntmps15 rfl fun cx hnt hn0 => ?_
  ·skip
   refine dw_seq ?_; refine dwk [] TTM_ok hnt fun K hK => ?_; refine hK _ _ ?_; clear hK K; refine dw_seq ?_; refine dw_seq ?_; refine dwk [(10, .v (.bool true))] TTM_ok hnt fun K hK => ?_; refine And.intro (VLe.of_eq (by congr 2; by_cases h3 : k = u.kind <;> by_cases h4 : i = u.index <;> simp_all)) ?_; refine hK _ _ ?_; clear hK K; refine dw_cond (t := true) rfl ?_; rw [if_pos rfl]; refine dw_seq ?_
   refine dwk [] TTM_ok hnt fun K hK => ?_; refine hK _ _ ?_; clear hK K; refine dw_ret ?_
   exact reta rfl
/-! long forms -/
theorem eTms_snoc (l : List Tm) (j : Nat) (h : j < l.length) : eTms (l.take j) ++ [[.sl 2 (eTys l[j].binds) none, .v (.int .i64 l[j].kind), .v (.int .i64 l[j].index), .sl 4 (eTms l[j].args) none]] = eTms (l.take (j + 1)) := by
  rw [← eTm_eq, List.take_add_one, List.getElem?_eq_getElem h, Option.toList_some, eTms_map, eTms_map, List.map_append]; rfl
theorem etas_at (l : List Ty) (j : Nat) (h : j < l.length) : eTms ((Ty.etas l).take j) ++ [[.sl 2 (eTys (Ty.eta l[j] 0 ((l.length : Int) - 1 - (j : Int))).binds) none, .v (.int .i64 (Ty.eta l[j] 0 ((l.length : Int) - 1 - (j : Int))).kind), .v (.int .i64 (Ty.eta l[j] 0 ((l.length : Int) - 1 - (j : Int))).index), .sl 4 (eTms (Ty.eta l[j] 0 ((l.length : Int) - 1 - (j : Int))).args) none]] = eTms ((Ty.etas l).take (j + 1)) := by
  have h2 : j < (Ty.etas l).length := by rw [Ty.etas_len]; exact h
  rw [← eTms_snoc _ _ h2, Ty.etas_get l j h]
set_option maxHeartbeats 1000000 in
theorem teta_d : ∀ (t : Ty) (k i : Int), t.size ≤ 1000 → PureC Try.prog 162 [.ag [.v (.int .i64 k), .v (.int .i64 i)], .ag (eTy t)] (.ag (eTm (Ty.Eta t k i))) := by
 intro t
 induction t using Ty.ind with
 | h a b ih =>
 intro k i hz
 rw [ty_size] at hz
 have hal := Ty.le_sizes a
 have harr := arrow_d (.mk a b) [] (by rw [ty_size]; simp [Ty.sizes]; omega)
 rw [List.nil_append] at harr
 have harr : PureC Try.prog 89 [.ag (eTy (.mk a b)), .v (.slice none 0 0)] (.ag (eTy (.mk a b))) := CallC.vle harr (.cons (VLe.refl _) (.cons (VLe.nil _) .nil)) (VLe.refl _)
 unfold Ty.Eta
 rw [eTy_eq] at harr
 by_cases hbad : k = 0 ∧ (i < 0 ∨ 1000 < i)
 ·rw [if_pos hbad, eTy_eq, eTm_eq]
  rcases hbad with ⟨hk, h0 | h1⟩
  ·skip
   refine calldw 0 63 [ResultVar.cell 4 34] TTM_ok Try.func162 rfl Try.ntmps162 rfl fun cx hnt hn0 => ?_
   ·skip
    refine dw_seq ?_; refine dwk [] TTM_ok hnt fun K hK => ?_; refine hK _ _ ?_; clear hK K; refine dw_seq ?_; refine dw_seq ?_; refine dwk [(11, .v (.bool true)), (15, .v (.bool true))] TTM_ok hnt fun K hK => ?_; refine And.intro (beqT hk) ?_; refine And.intro auT ?_; refine hK _ _ ?_; clear hK K; refine dw_cond (t := true) rfl ?_; rw [if_pos rfl]; refine dw_seq ?_; refine dwk [] TTM_ok hnt fun K hK => ?_
    refine hK _ _ ?_; clear hK K; refine dw_ret ?_
    exact reta rfl
  ·skip
   refine calldw 0 63 [ResultVar.cell 4 34] TTM_ok Try.func162 rfl Try.ntmps162 rfl fun cx hnt hn0 => ?_
   ·skip
    refine dw_seq ?_; refine dwk [] TTM_ok hnt fun K hK => ?_; refine hK _ _ ?_; clear hK K; refine dw_seq ?_; refine dw_seq ?_; refine dwk [(11, .v (.bool true)), (15, .v (.bool false)), (19, .v (.bool true))] TTM_ok hnt fun K hK => ?_; refine And.intro (beqT hk) ?_; refine And.intro auF ?_; refine And.intro auT ?_; refine hK _ _ ?_; clear hK K; refine dw_cond (t := true) rfl ?_; rw [if_pos rfl]; refine dw_seq ?_
    refine dwk [] TTM_ok hnt fun K hK => ?_; refine hK _ _ ?_; clear hK K; refine dw_ret ?_
    exact reta rfl
 ·rw [if_neg hbad]
  obtain ⟨i', hi'⟩ : ∃ i', (if k = 0 then i + (a.length : Nat) else i) = i' := ⟨_, rfl⟩
  rw [Ty.eta_eq, hi', eTy_eq, eTm_eq]
  simp only [bindsT, kindT, indexT, argsTm, args_mk', base_mk'] at harr ⊢
  refine calldw 0 63 [ResultVar.cell 4 34] TTM_ok Try.func162 rfl Try.ntmps162 rfl fun cx hnt hn0 => ?_
  ·skip
   refine dw_seq ?_; refine dwk [] TTM_ok hnt fun K hK => ?_; refine hK _ _ ?_; clear hK K
   refine dw_cut (τ := [(.t 2, .p 0 0), (.t 3, .p 1 0), (.t 4, .p 2 0), (.c 0 0, .v (.int .i64 k)), (.c 0 1, .v (.int .i64 i)), (.c 1 0, .sl 2 (eTys a) none), (.c 1 1, .v (.int .i64 b)), (.c 2 0, .v (.slice none 0 0)), (.c 2 1, .v (.int .i64 0)), (.c 2 2, .v (.int .i64 0)), (.c 2 3, .v (.slice none 0 0))]) (N1 := 3) ?_ ?_
   ·by_cases hk : k = 0
    ·skip
     refine dw_seq ?_; refine dwk [(11, .v (.bool true)), (15, .v (.bool false)), (19, .v (.bool false))] TTM_ok hnt fun K hK => ?_; refine And.intro (beqT hk) ?_; refine And.intro auF ?_; refine And.intro auF ?_; refine hK _ _ ?_; clear hK K; refine dw_cond (t := false) rfl ?_; rw [if_neg (by simp)]; refine dw_skip ?_
     exact cut_ok VS.toA
    ·skip
     refine dw_seq ?_; refine dwk [(11, .v (.bool false))] TTM_ok hnt fun K hK => ?_; refine And.intro (beqF hk) ?_; refine hK _ _ ?_; clear hK K; refine dw_cond (t := false) rfl ?_; rw [if_neg (by simp)]; refine dw_skip ?_
     exact cut_ok VS.toA
   ·skip
    refine dw_seq ?_; refine dwk [(25, .v (.int .i64 (↑a.length)))] TTM_ok hnt fun K hK => ?_; refine And.intro (dintE (by rw [eTys_len])) ?_; refine hK _ _ ?_; clear hK K; refine dw_seq ?_; refine dwkD [] TTM_ok hnt fun K hK => ?_; refine dcl (harr) ?_; refine hK _ _ (by kernel_rfl) ?_; clear hK K
    refine dw_cut (τ := [(.t 3, .p 1 0), (.t 4, .p 2 0), (.t 5, .v (.int .i64 ↑a.length)), (.t 6, .p 12 0), (.c 1 0, .sl 2 (eTys a) none), (.c 2 0, .v (.slice none 0 0)), (.c 2 1, .v (.int .i64 0)), (.c 2 2, .v (.int .i64 0)), (.c 2 3, .v (.slice none 0 0)), (.c 12 0, .sl 2 (eTys a) none), (.c 12 1, .v (.int .i64 k)), (.c 12 2, .v (.int .i64 i')), (.c 12 3, .v (.slice none 0 0))]) (N1 := 13) ?_ ?_
    ·by_cases hk : k = 0
     ·rw [if_pos hk] at hi'
      have h0 : 0 ≤ i ∧ i ≤ 1000 := by
       constructor
       ·by_cases h : i < 0
        ·exact absurd ⟨hk, .inl h⟩ hbad
        ·omega
       ·by_cases h : 1000 < i
        ·exact absurd ⟨hk, .inr h⟩ hbad
        ·omega
      refine dw_seq ?_; refine dwk [(33, .v (.bool true))] TTM_ok hnt fun K hK => ?_; refine And.intro (beqT hk) ?_; refine hK _ _ ?_; clear hK K; refine dw_cond (t := true) rfl ?_; rw [if_pos rfl]; refine dwk [(38, .v (.int .i64 (i')))] TTM_ok hnt fun K hK => ?_; refine And.intro (dintE (by rw [IntWalk.i64_in _ (by omega)]; exact hi')) ?_; refine hK _ _ ?_; clear hK K
      exact cut_ok VS.toA
     ·rw [if_neg hk] at hi'
      subst hi'
      refine dw_seq ?_; refine dwk [(33, .v (.bool false))] TTM_ok hnt fun K hK => ?_; refine And.intro (beqF hk) ?_; refine hK _ _ ?_; clear hK K; refine dw_cond (t := false) rfl ?_; rw [if_neg (by simp)]; refine dw_skip ?_
      exact cut_ok VS.toA
    ·skip
     refine dw_seq ?_; refine dw_seq ?_; refine dwk [(43, .v (.int .i64 (↑a.length)))] TTM_ok hnt fun K hK => ?_; refine And.intro (dintE (by rw [eTys_len])) ?_; refine hK _ _ ?_; clear hK K
     refine DW.vs (VS.row (k := 12) (off := 3) 34 4 rfl) ?_
     refine dw_block ?_
     refine dw_loop (ι := { j : Nat // j ≤ a.length }) (fun j => [(.t 4, .p 2 0), (.t 5, .v (.int .i64 ↑a.length)), (.t 6, .p 12 0), (.t 42, .sl 2 (eTys a) none), (.t 43, .v (.int .i64 ↑a.length)), (.t 44, .v (.int .i64 ↑j.1)), (.c 2 0, .v (.slice none 0 0)), (.c 2 1, .v (.int .i64 0)), (.c 2 2, .v (.int .i64 0)), (.c 2 3, .v (.slice none 0 0)), (.c 12 0, .sl 2 (eTys a) none), (.c 12 1, .v (.int .i64 k)), (.c 12 2, .v (.int .i64 i')), (.c 12 3, .sl 4 (eTms ((Ty.etas a).take j.1)) (some 17)), (.r 17, .rw 34 4 j.1)]) 18 (fun j => a.length - j.1) (⟨0, Nat.zero_le _⟩) (VS.toA) fun j => ?_
     obtain ⟨j, hj⟩ := j
     dsimp only
     by_cases hlt : j < a.length
     ·have hmem := ty_mem (List.getElem_mem hlt)
      have hih := ih a[j] (List.getElem_mem hlt) 0 ((a.length : Int) - 1 - (j : Int)) (by omega)
      have e : Ty.Eta a[j] 0 ((a.length : Int) - 1 - (j : Int)) = Ty.eta a[j] 0 ((a.length : Int) - 1 - (j : Int)) := by unfold Ty.Eta; rw [if_neg (by omega)]
      have hsn := etas_at a j hlt
      have hlq : (eTms ((Ty.etas a).take j)).length = j := by rw [eTms_len, List.length_take, Ty.etas_len]; omega
      rw [e, eTm_eq, eTy_eq] at hih
      refine dw_seq ?_; refine dwk [(45, .v (.bool true))] TTM_ok hnt fun K hK => ?_; refine And.intro auT ?_; refine hK _ _ ?_; clear hK K; refine dw_seq ?_; refine dw_cond (t := true) rfl ?_; rw [if_pos rfl]; refine dw_skip ?_; refine dw_seq ?_; refine dw_block ?_; refine dw_seq ?_; refine dwk [(47, .q [.sl 2 (eTys a[j].args) none, .v (.int .i64 a[j].base)])] TTM_ok hnt fun K hK => ?_; refine And.intro (elo (eTys_len a)) ?_
      refine And.intro (elv (eTys_getD a j) (eTy_eq _)) ?_; refine hK _ _ ?_; clear hK K; refine dwkD [(52, .v (.int .i64 (↑a.length - 1))), (54, .v (.int .i64 (↑a.length - 1 - ↑j))), (59, .sl 4 (eTms ((Ty.etas a).take (j + 1))) (some 17))] TTM_ok hnt fun K hK => ?_; refine And.intro auI ?_; refine And.intro auI ?_; refine dcl (hih) ?_; refine And.intro (⟨by rw [hlq], by rw [hlq]; simp; omega⟩) ?_; refine And.intro (VLe.of_eq (by rw [hsn])) ?_
      refine hK _ _ (by kernel_rfl) ?_; clear hK K; refine dwk [(61, .v (.int .i64 (↑(j + 1))))] TTM_ok hnt fun K hK => ?_; refine And.intro auI ?_; refine hK _ _ ?_; clear hK K
      refine ⟨⟨j + 1, by omega⟩, by first | omega | (dsimp only; omega), (by try simp only [List.length_append, List.length_take, List.length_cons, List.length_nil, Nat.zero_add, hlq]; exact VS.toA)⟩
     ·rw [List.take_of_length_le (by rw [Ty.etas_len]; omega)]
      refine dw_seq ?_; refine dwk [(45, .v (.bool false))] TTM_ok hnt fun K hK => ?_; refine And.intro auF ?_; refine hK _ _ ?_; clear hK K; refine dw_seq ?_; refine dw_cond (t := false) rfl ?_; rw [if_neg (by simp)]; refine dw_exit ?_; refine dw_seq ?_; refine dwk [] TTM_ok hnt fun K hK => ?_; refine hK _ _ ?_; clear hK K; refine dw_ret ?_
      exact reta rfl
end Go.Proofs.Ytdmiekaeodcehaa

namespace Go.Proofs.Ytdmiekaeodcehaa
open Go.RowKit Go.Shelf
attribute [local go_sem] Oper.semAt_some

def looseStep (n : Int) (p : Nat × Nat × Tm) : Int := if p.2.2.kind = 0 ∧ (p.1 : Int) ≤ p.2.2.index then max n (min (IntKind.i64.wrap (p.2.2.index - p.1)) 1000 + 1) else n
def looseP (l : List (Nat × Nat × Tm)) : Int := l.foldl looseStep 0
theorem looseP_snoc (l : List (Nat × Nat × Tm)) (p : Nat × Nat × Tm) : looseP (l ++ [p]) = looseStep (looseP l) p := by simp [looseP]
theorem looseStep_range {n : Int} {p : Nat × Nat × Tm} (h : 0 ≤ n ∧ n ≤ 1001) : 0 ≤ looseStep n p ∧ looseStep n p ≤ 1001 := by
  unfold looseStep; split <;> omega
theorem looseP_range (l : List (Nat × Nat × Tm)) : 0 ≤ looseP l ∧ looseP l ≤ 1001 := by
  have : ∀ (l : List (Nat × Nat × Tm)) n, (0 ≤ n ∧ n ≤ 1001) → 0 ≤ l.foldl looseStep n ∧ l.foldl looseStep n ≤ 1001 := by
    intro l
    induction l with
    | nil => intro n h; exact h
    | cons p l ih => intro n h; exact ih _ (looseStep_range h)
  exact this l 0 (by omega)
def looseL (n x : Int) : Int := if (if x > 1000 then 1000 else x) + 1 > n then (if x > 1000 then 1000 else x) + 1 else n

theorem loose_pres_of {l : List Tm} (h : ∀ t ∈ l, ∀ s d n, t.Fit → (t.pre s d).foldl looseStep n = (t.looses s).foldl looseL n) : ∀ s d n, (∀ t ∈ l, t.Fit) → (Tm.pres l s d).foldl looseStep n = (Tm.loosess l s).foldl looseL n := by
  induction l with
  | nil => intro s d n _; simp [Tm.pres, Tm.loosess]
  | cons t l ih =>
    intro s d n hf
    rw [Tm.pres, Tm.loosess, List.foldl_append, List.foldl_append, h t (by simp) s d n (hf t (by simp)), ih (fun u hu => h u (by simp [hu])) s d _ (fun u hu => hf u (by simp [hu]))]
theorem loose_pre (t : Tm) : ∀ (s d : Nat) (n : Int), t.Fit → (t.pre s d).foldl looseStep n = (t.looses s).foldl looseL n := by
  induction t using Tm.ind with
  | h b k i a ih =>
    intro s d n hf
    obtain ⟨hi0, hi1, hfa⟩ := Tm.fit_iff.1 hf
    rw [Tm.pre_eq, Tm.looses_eq _ _ _ _ _ ((s + b.length : Nat) : Int) (by simp), List.foldl_cons, List.foldl_append]
    rw [loose_pres_of ih _ _ _ hfa]
    congr 1
    show (if k = 0 ∧ ((s + b.length : Nat) : Int) ≤ i then _ else _) = _
    by_cases h : k = 0 ∧ ((s + b.length : Nat) : Int) ≤ i
    · have hw : IntKind.i64.wrap (i - ((s + b.length : Nat) : Int)) = i - ((s + b.length : Nat) : Int) := IntWalk.i64_in _ (by omega)
      rw [if_pos h, if_pos h]
      show max n (min (IntKind.i64.wrap (i - ((s + b.length : Nat) : Int))) 1000 + 1) = _
      rw [hw]
      simp only [List.foldl_cons, List.foldl_nil, looseL]
      split <;> split <;> omega
    · rw [if_neg h, if_neg h]; rfl
theorem looseP_pre (t : Tm) (hf : t.Fit) : looseP (t.pre 0 1) = (t.looses 0).foldl looseL 0 := loose_pre t 0 1 0 hf
set_option maxRecDepth 100000 in
set_option maxHeartbeats 2000000 in
theorem loose6_k {F : Nat → Prop} {w : World} {b k i a : Value} {t : Tm} (ht : IsTm F w b k i a t) (hsz : t.full ≤ 500000) (hfit : t.Fit) : Calls Try.prog 117 #[.agg #[b, k, i, a]] w (RetI ((t.looses 0).foldl looseL 0) w) := by
  refine (callsIn_wide (n := 9)).1 ?_
  have Ht := Lib.hid (ht.weaken (F' := fun _ => True) fun _ _ _ => trivial)
  obtain ⟨pa, pc, qa, qc, rfl, rfl, rfl, rfl⟩ := ht.shape
  clear ht
  obtain ⟨x1, hx1⟩ : ∃ x, t.binds.length = x := ⟨_, rfl⟩
  obtain ⟨x2, hx2⟩ : ∃ x, t.args.length = x := ⟨_, rfl⟩
  obtain ⟨x3, hx3⟩ : ∃ x, t.kind = x := ⟨_, rfl⟩
  obtain ⟨x4, hx4⟩ : ∃ x, t.index = x := ⟨_, rfl⟩
  rw [hx1, hx2, hx3, hx4] at Ht ⊢
  clear hx1 hx2 hx3 hx4
  refine callsIn_of_wp_marks Try.func117 rfl trivial ?_ rfl
  simp only [Try.ntmps117, List.size_toArray, List.length_cons, List.length_nil, Nat.reduceAdd, Nat.reduceSub, Array.replicate_succ, Array.replicate_zero, List.push_toArray, List.append_toArray, List.nil_append, List.cons_append]
  gi_wp2_with fail
  refine ⟨trivial, (each6_k _ _ _ _ _ _ ⟨_, _, _, rfl⟩ ⟨_, rfl⟩ ⟨_, rfl⟩ ⟨_, _, _, rfl⟩).mono ?_⟩
  rintro e w' ⟨rfl, rfl⟩
  gi_wp2_with fail
  have hsz' := Lib.hid hsz
  have Hfit := Lib.hid hfit; clear hfit
  have hfl := Tm.size_le_full t
  obtain ⟨w5, hw5⟩ : ∃ w5, ((w.alloc (.cells #[.slice pa x1 pc, .int .i64 x3, .int .i64 x4, .slice qa x2 qc] 34)).alloc (.cells #[.int .i64 0] 3)).alloc (.cells #[.slice pa x1 pc, .int .i64 x3, .int .i64 x4, .slice qa x2 qc] 34) = w5 := ⟨_, rfl⟩
  have hB0 : Below w.heap.size w w5 := by rw [← hw5]; exact (((Below.refl _ w).alloc (Nat.le_refl _) _).alloc (by simp) _).alloc (by simp; omega) _
  have hz : w5.heap.size = w.heap.size + 3 := by rw [← hw5]; simp
  have y2 : Blk w5 (w.heap.size + 1) #[.int .i64 0] 3 := by rw [← hw5]; exact (Blk.new _ _ _ (by simp)).alloc _
  have y3 : Blk w5 (w.heap.size + 1 + 1) #[.slice pa x1 pc, .int .i64 x3, .int .i64 x4, .slice qa x2 qc] 34 := by rw [← hw5]; exact Blk.new _ _ _ (by simp)
  rw [hw5]
  clear hw5
  refine range_softA (Ok := SpotOk) (fun o h => .inl h) rfl (by omega) (gf := 141) (lb := #[.pointer (some ⟨w.heap.size + 1 + 1, 0, none⟩)]) rfl trivial (enters_of Try.func141 (by kernel_rfl) rfl)
    (each6_soft (But w.heap.size (w.heap.size + 2)) (fun k _ _ hk => .inl hk) Ht.out (Nat.le_trans hsz (by decide)) (9 - 1) w5 (fun k _ hk _ => .inr (by omega)) ((Keep.refl _ _).below hB0) (w.heap.size + 1 + 1) y3)
    (fun h h' => h.trans h') (fun W l o o' _ hl ho _ => KeepC.putObj _ W l o o' hl ho) (Below.refl _ _) (fun _ => rfl)
    (fun pre W => Blk W (w.heap.size + 1) #[.int .i64 (looseP (pre.map Hit6.key))] 3 ∧ Below w.heap.size w W)
    (fun _ _ _ => False)
    (Mild.and (mild_blk (by decide) (fun (pre : List (Hit6 (fun _ => True) w)) => #[.int .i64 (looseP (pre.map Hit6.key))])) (mild_below (Nat.le_refl _) (by omega)))
    (fun _ _ _ _ _ hs _ _ => hs)
    ⟨y2, hB0⟩
    (fun x a' W => ∃ Bs Bx, (w.heap.size + 1 < Bs ∧ w.heap.size + 1 < Bx) ∧ Blk W Bs #[.int .i64 x.s, .int .i64 x.d] 163 ∧ Blk W Bx #[.slice x.pb x.t.binds.length x.cb, .int .i64 x.t.kind, .int .i64 x.t.index, .slice x.pa x.t.args.length x.ca] 34 ∧ a' = { tmps := #[.agg #[.slice pa x1 pc, .int .i64 x3, .int .i64 x4, .slice qa x2 qc], .pointer (some ⟨w.heap.size, 0, none⟩), .int .i64 0, .pointer (some ⟨w.heap.size + 1, 0, none⟩), .pointer (some ⟨Bs, 0, none⟩), .pointer (some ⟨Bx, 0, none⟩), .agg #[.slice pa x1 pc, .int .i64 x3, .int .i64 x4, .slice qa x2 qc], .func (.func 141) #[] #[.pointer (some ⟨w.heap.size + 1 + 1, 0, none⟩)], .agg #[.int .i64 x.s, .int .i64 x.d], .agg #[.slice x.pb x.t.binds.length x.cb, .int .i64 x.t.kind, .int .i64 x.t.index, .slice x.pa x.t.args.length x.ca], undef, undef, undef, undef, undef, undef, undef, undef, undef, undef, undef, undef, undef, undef, undef, undef, undef, undef, undef, undef, undef, undef, undef], defers := [] })
    (fun x a' W l o o' hl ho hoc => by
      rintro ⟨Bs, Bx, h1, h2, h3, h4⟩
      have key : ∀ {B : Nat} {cs : Array Value} {T : TypeId}, Blk W B cs T → Blk (W.putObj l o') B cs T := fun {B cs T} h => by
        have hne : l ≠ B := fun e => by
          subst e
          have hb : W.heap[l]? = _ := h
          rw [hb] at ho; cases ho; simp [Obj.isCells] at hoc
        exact (World.putObj_heap_other (Ne.symm hne)).trans h
      exact ⟨Bs, Bx, h1, key h2, key h3, h4⟩) ?assign ?body ?done ?stop
  case assign =>
    rintro l pre x W K ⟨z2, hB⟩ hK
    have HK := Lib.hid hK; clear hK
    simp only [Hit6.enc] at *
    gi_wp2
    have hs := hB.size
    have hlt := z2.lt
    exact HK.out _ _ (((KeepsOthers.alloc _ _).trans (KeepsOthers.alloc _ _)).from _) (((KeepC.refl _ W).alloc _).alloc _) ⟨(z2.alloc _).alloc _, (hB.alloc hs _).alloc (by simp; omega) _⟩ ⟨W.heap.size, W.heap.size + 1, ⟨by omega, by omega⟩, (Blk.new _ _ _ rfl).alloc _, Blk.new _ _ _ (by simp), rfl⟩
  case body =>
    rintro l pre x a' W ⟨z2, hB⟩ hlt ⟨Bs, Bx, hBB, bS, bX, rfl⟩
    have hr := looseP_range (pre.map Hit6.key)
    have Hst := Lib.hid (looseP_snoc (pre.map Hit6.key) x.key)
    obtain ⟨n, hn⟩ : ∃ n, looseP (pre.map Hit6.key) = n := ⟨_, rfl⟩
    rw [hn] at z2 hr Hst
    clear hn
    have c2 : W.cell? ⟨w.heap.size + 1, 0, none⟩ = some (.int .i64 n) := z2.cell rfl
    have f2 := z2.free 0
    have cs0 : W.cell? ⟨Bs, 0, none⟩ = some (.int .i64 x.s) := bS.cell rfl
    have cx1 : W.cell? ⟨Bx, 1, none⟩ = some (.int .i64 x.t.kind) := bX.cell rfl
    have cx2 : W.cell? ⟨Bx, 2, none⟩ = some (.int .i64 x.t.index) := bX.cell rfl
    obtain ⟨kk, hkk⟩ : ∃ k, x.t.kind = k := ⟨_, rfl⟩
    obtain ⟨ii, hii⟩ : ∃ k, x.t.index = k := ⟨_, rfl⟩
    have Hk := Lib.hid hkk; have Hi := Lib.hid hii
    rw [hkk] at cx1 ⊢
    rw [hii] at cx2 ⊢
    clear hkk hii
    have hlen : (pre ++ [x]).map Hit6.key = pre.map Hit6.key ++ [x.key] := by simp
    by_cases hk : kk = 0 ∧ (x.s : Int) ≤ ii
    · obtain ⟨rfl, hi⟩ := hk
      obtain ⟨q, hq⟩ : ∃ q, IntKind.i64.wrap (ii - (x.s : Int)) = q := ⟨_, rfl⟩
      have Hq := Lib.hid hq
      have hqr : -9223372036854775808 ≤ q ∧ q ≤ 9223372036854775807 := by
        have h : (Lit.int .i64 (wrap64 (ii - (x.s : Int)))).wf = true := wrap64_wf _
        have h2 : IntKind.i64.min ≤ wrap64 (ii - (x.s : Int)) ∧ wrap64 (ii - (x.s : Int)) ≤ 9223372036854775807 := by simpa [Lit.wf] using h
        have h3 : IntKind.i64.min = -9223372036854775808 := by rfl
        have h4 : wrap64 (ii - (x.s : Int)) = q := by rw [← IntWalk.i64_left]; exact hq
        omega
      have hq2 : IntKind.i64.wrap (min q 1000 + 1) = min q 1000 + 1 := IntWalk.i64_in _ (by omega)
      have Hn : Hid (looseP (pre.map Hit6.key ++ [x.key]) = max n (min q 1000 + 1)) := by
        show _ = _
        rw [Hst.out, looseStep, if_pos ⟨Hk.out, by rw [Hit6.key]; simp only []; rw [Hi.out]; exact hi⟩]
        show max n (min (IntKind.i64.wrap (x.t.index - x.s)) 1000 + 1) = _
        rw [Hi.out, Hq.out]
      gi_wp2
      all_goals
        refine ⟨(KeepsOthers.setCell _ _ _).from _, (KeepC.refl _ W).setCell _ _ (by simp [But]), ?_, hB.setCell (p := ⟨w.heap.size + 1, 0, none⟩) (by simp) _⟩
        rw [hlen, Hn.out]
        first
          | exact z2.set 0 _
          | (rw [show max n (min q 1000 + 1) = 1001 by omega]; exact z2.set 0 _)
          | (rw [show max n (min q 1000 + 1) = n by omega]; exact z2.set 0 _)
          | (rw [show max n (min q 1000 + 1) = q + 1 by omega]; exact z2.set 0 _)
    · have Hn : Hid (looseP (pre.map Hit6.key ++ [x.key]) = n) := by
        show _ = _
        rw [Hst.out, looseStep, if_neg]
        rintro ⟨h1, h2⟩
        exact hk ⟨Hk.out.symm.trans h1, by have h3 : (x.s : Int) ≤ x.t.index := h2; rw [Hi.out] at h3; exact h3⟩
      have fin : ∀ (W' : World) (n0 : Nat), W' = W → KeepsFrom n0 W W' ∧ KeepC (But w.heap.size (w.heap.size + 2)) W W' ∧ (Blk W' (w.heap.size + 1) #[.int .i64 (looseP ((pre ++ [x]).map Hit6.key))] 3 ∧ Below w.heap.size w W') := by
        rintro W' n0 rfl
        refine ⟨(KeepsOthers.refl _).from _, KeepC.refl _ _, ?_, hB⟩
        rw [hlen, Hn.out]; exact z2
      have Fin := Lib.hid fin; clear fin
      by_cases hk0 : kk = 0
      · subst hk0
        have hi' : ¬ (x.s : Int) ≤ ii := fun h => hk ⟨rfl, h⟩
        have hi2 : ii < (x.s : Int) := by omega
        gi_wp2
        exact Fin.out _ _ rfl
      · have g0 : (kk == 0) = false := by simpa using hk0
        gi_wp2
        exact Fin.out _ _ rfl
  case done =>
    rintro D ys W hD hys ⟨z2, hB⟩ hK
    have Hys := Lib.hid hys; clear hys
    have hl := looseP_pre t Hfit.out
    rw [← Hys.out] at hl
    obtain ⟨n, hn⟩ : ∃ n, looseP (ys.map Hit6.key) = n := ⟨_, rfl⟩
    rw [hn] at z2 hl
    have Hl := Lib.hid hl
    clear hl hn
    have c2 : W.cell? ⟨w.heap.size + 1, 0, none⟩ = some (.int .i64 n) := z2.cell rfl
    gi_wp2
    refine ⟨by simp, .inl ⟨_, _, rfl, run_takeDeferred hK, ?_⟩⟩
    exact ⟨_, results_tmp rfl _ _ _, by rw [← Hl.out]; rfl, hB.trans (belowK_b (w := w) (Nat.le_refl _) W D _ _ (by omega) hK rfl rfl)⟩
  case stop =>
    rintro D c pre W _ _ h _
    exact h.elim
end Go.Proofs.Ytdmiekaeodcehaa

namespace Go.Proofs.Ytdmiekaeodcehaa
open Go.RowKit
def TP1_3 : TI := ⟨1, false, [Value.int IntKind.i64 0], [], none, 8, 2, none, false⟩
theorem TP1_3_ok : TypOk Try.prog 3 TP1_3 := ⟨by kernel_rfl, by kernel_rfl, by kernel_rfl, by kernel_rfl, by kernel_rfl⟩
def TP1_43 : TI := ⟨1, false, [Value.slice none 0 0], [], some 3, 24, 5, none, false⟩
theorem TP1_43_ok : TypOk Try.prog 43 TP1_43 := ⟨by kernel_rfl, by kernel_rfl, by kernel_rfl, by kernel_rfl, by kernel_rfl⟩
def TP1_34 : TI := ⟨4, true, [Value.slice none 0 0, Value.int IntKind.i64 0, Value.int IntKind.i64 0, Value.slice none 0 0], [(0, 1, false), (1, 2, true), (3, 1, false)], none, 64, 6, none, false⟩
theorem TP1_34_ok : TypOk Try.prog 34 TP1_34 := ⟨by kernel_rfl, by kernel_rfl, by kernel_rfl, by kernel_rfl, by kernel_rfl⟩
def TP1_30 : TI := ⟨1, false, [Value.slice none 0 0], [], some 100, 24, 5, none, false⟩
theorem TP1_30_ok : TypOk Try.prog 30 TP1_30 := ⟨by kernel_rfl, by kernel_rfl, by kernel_rfl, by kernel_rfl, by kernel_rfl⟩
def TP1_31 : TI := ⟨2, true, [Value.int IntKind.i64 0, Value.int IntKind.i64 0], [(0, 1, false), (1, 1, false)], none, 16, 6, none, true⟩
theorem TP1_31_ok : TypOk Try.prog 31 TP1_31 := ⟨by kernel_rfl, by kernel_rfl, by kernel_rfl, by kernel_rfl, by kernel_rfl⟩
def TP1_225 : TI := ⟨1, false, [Value.slice none 0 0], [], some 30, 24, 5, none, false⟩
theorem TP1_225_ok : TypOk Try.prog 225 TP1_225 := ⟨by kernel_rfl, by kernel_rfl, by kernel_rfl, by kernel_rfl, by kernel_rfl⟩
def TP1_208 : TI := ⟨1, false, [Value.map none], [], none, 8, 7, some 4, false⟩
theorem TP1_208_ok : TypOk Try.prog 208 TP1_208 := ⟨by kernel_rfl, by kernel_rfl, by kernel_rfl, by kernel_rfl, by kernel_rfl⟩
def TP1_32 : TI := ⟨1, false, [Value.slice none 0 0], [], some 34, 24, 5, none, false⟩
theorem TP1_32_ok : TypOk Try.prog 32 TP1_32 := ⟨by kernel_rfl, by kernel_rfl, by kernel_rfl, by kernel_rfl, by kernel_rfl⟩
def TP1_272 : TI := ⟨1, false, [Value.map none], [], none, 8, 7, some 3, false⟩
theorem TP1_272_ok : TypOk Try.prog 272 TP1_272 := ⟨by kernel_rfl, by kernel_rfl, by kernel_rfl, by kernel_rfl, by kernel_rfl⟩
def TP1_100 : TI := ⟨2, true, [Value.slice none 0 0, Value.int IntKind.i64 0], [(0, 1, false), (1, 1, false)], none, 32, 6, none, false⟩
theorem TP1_100_ok : TypOk Try.prog 100 TP1_100 := ⟨by kernel_rfl, by kernel_rfl, by kernel_rfl, by kernel_rfl, by kernel_rfl⟩
def TP1_4 : TI := ⟨1, false, [Value.bool false], [], none, 1, 1, none, false⟩
theorem TP1_4_ok : TypOk Try.prog 4 TP1_4 := ⟨by kernel_rfl, by kernel_rfl, by kernel_rfl, by kernel_rfl, by kernel_rfl⟩
def TP1 : List (Nat × TI) := [(3, TP1_3), (43, TP1_43), (34, TP1_34), (30, TP1_30), (31, TP1_31), (225, TP1_225), (208, TP1_208), (32, TP1_32), (272, TP1_272), (100, TP1_100), (4, TP1_4)]
theorem TP1_ok : TabOk Try.prog TP1 := ((((((((((((TabOk.nil _).cons TP1_4_ok).cons TP1_100_ok).cons TP1_272_ok).cons TP1_32_ok).cons TP1_208_ok).cons TP1_225_ok).cons TP1_31_ok).cons TP1_30_ok).cons TP1_34_ok).cons TP1_43_ok).cons TP1_3_ok)

/-! ints -/
def eIs (l : List Int) : List (List D) := l.map fun i => [.v (.int .i64 i)]
theorem eIs_len (l : List Int) : (eIs l).length = l.length := List.length_map ..
theorem eIs_getD (l : List Int) (i : Nat) (h : i < l.length) : (eIs l).getD i [] = [.v (.int .i64 l[i])] := by
  rw [eIs, List.getD_eq_getElem?_getD, List.getElem?_map, List.getElem?_eq_getElem h]; rfl
@[simp] theorem eIs_ok (f g : Nat → Bool) (l : List Int) : D.okss f g (eIs l) = true := D.okss_map _ l fun _ _ => rfl
theorem loose_d (t : Tm) (hz : t.full ≤ 500000) (hf : t.Fit) : PureC Try.prog 117 [.ag (eTm t)] (.v (.int .i64 ((t.looses 0).foldl looseL 0))) := by
  refine pure_below (by kernel_rfl) fun m Im w vs hv => ?_
  match vs, hv with
  | [x], hv =>
    obtain ⟨b, k, i, a, rfl, ht⟩ := agTm hv.1
    refine (loose6_k ht hz hf).mono ?_
    rintro e w' ⟨rfl, hb⟩
    exact ⟨_, rfl, hb, fun _ _ _ => .v _⟩

end Go.Proofs.Ytdmiekaeodcehaa

namespace Go.Proofs.Ytdmiekaeodcehaa
open Go.RowKit Go.ChangeShapes Go.WideShapes Go.ChangeAt

end Go.Proofs.Ytdmiekaeodcehaa

namespace Go.Proofs.Ytdmiekaeodcehaa
open Go.RowKit

theorem cut_none (m : Mp) : (m.cut (fun _ => false) noR).le m00 := ⟨fun k b h => by simp [Mp.cut] at h, fun g R h => by simp [Mp.cut, noR] at h, fun k b h => by simp [Mp.cut] at h⟩
theorem entry0 {cx : Cx} {Fr : Nat → Prop} {m : Mp} {Im : Nat → Nat → Prop} {w : World} {vs : List Value} {args : List D} (hm : MemOk cx Fr m Im w) (hr : RelL m Im w vs args) (ha : args.all (fun d => d.ok (fun _ => false) noR) = true) (nt : Nat) (hnt : args.length ≤ nt) {n : Nat} (hn : n = nt) :
    ∃ cx' : Cx, cx'.nt = nt ∧ cx'.n0 = 0 ∧ cx'.w0 = w ∧ (∀ b, ¬ cx'.C b) ∧ cx'.Im0 = Im ∧ St cx' (fun k => 0 ≤ k) m00 Im w { tmps := vs.toArray ++ Array.replicate (n - vs.toArray.size) undef, defers := [] } (argsT 0 args []) := by
  subst hn
  have hvl : vs.length = args.length := (relL_iff.1 hr).1
  refine ⟨{ w0 := w, C := fun _ => False, Im0 := Im, m0 := m00, nt := n, n0 := 0, h0 := (fun k b hk => by cases hk), h0o := (fun k b hk => by cases hk) }, rfl, rfl, rfl, fun _ h => h, rfl, ?_⟩
  refine ⟨{
    off := Off.refl _ _, im := hm.im, imb := fun b o h => .inl h, im0 := fun b o h => h
    own := fun k b hk => by cases hk
    lt := fun k b hk => by cases hk
    free := fun k b o hk => by cases hk
    nim := fun k b o hk => by cases hk
    inj := fun k k' b hk => by cases hk
    row := fun g R hg => by cases hg
    k0 := KeepI.refl _ _
    rown := fun g R b hg => by cases hg
    m0r := fun g R hg => by cases hg
    rIm := fun g R b o hg => by cases hg
    rblk := fun g R b k hg => by cases hg
    rinj := fun g g' R R' b hg => by cases hg
    fr := fun k hk => ⟨rfl, rfl, rfl⟩
    m0 := fun k b hk => by cases hk
    m0o := fun k b hk => by cases hk
    oown := fun k b hk => by cases hk
    olt := fun k b hk => by cases hk
    onim := fun k b o hk => by cases hk
    oinj := fun k k' b hk => by cases hk
    oblk := fun k k' b hk => by cases hk
    orow := fun k g R b hk => by cases hk
    dis := fun k b hk => by cases hk }, rfl, by simp [hvl]; omega, fun x d hx => ?_, fun k off d hx => ?_, fun g d hx => ?_, fun d hx => ?_, fun k d hx => ?_⟩
  · rcases get_argsT args 0 x hx with ⟨j, h1, h2⟩ | hx
    · have hj : j < args.length := by
        rcases Nat.lt_or_ge j args.length with h' | h'
        · exact h'
        · rw [List.getElem?_eq_none h'] at h2; cases h2
      rw [List.getElem?_eq_getElem hj] at h2
      cases h2
      have hr := (relL_iff.1 hr).2 j hj
      have hx' : x = j := by omega
      subst hx'
      have : (vs.toArray ++ Array.replicate (n - vs.toArray.size) undef).getD x undef = vs.getD x undef := by
        have hx2 : x < vs.length := by omega
        rw [Array.getD_eq_getD_getElem?, Array.getElem?_append_left (by simpa using hx2), List.getD_eq_getElem?_getD]
        simp
      show Rel _ _ _ ((vs.toArray ++ Array.replicate (n - vs.toArray.size) undef).getD x undef) _
      rw [this]
      exact (hr.cut (List.all_eq_true.1 ha _ (List.getElem_mem hj))).mono (cut_none m) (KeepI.refl _ _) fun _ _ h => h
    · cases hx
  · rw [get_argsN (fun x => by simp) args 0] at hx; cases hx
  · rw [get_argsN (fun x => by simp) args 0] at hx; cases hx
  · rw [get_argsN (fun x => by simp) args 0] at hx; cases hx
  · rw [get_argsN (fun x => by simp) args 0] at hx; cases hx
def eMp (l : List (Int × Value)) : List (Int × D) := l.map fun p => (p.1, .v p.2)
end Go.Proofs.Ytdmiekaeodcehaa

namespace Go.Proofs.Ytdmiekaeodcehaa
open Go.RowKit

theorem full_mem {l : List Tm} {t : Tm} (h : t ∈ l) : t.full ≤ Tm.fulls l := by
  induction l with
  | nil => cases h
  | cons u l ih =>
    simp only [Tm.fulls]
    rcases List.mem_cons.1 h with rfl | h
    · omega
    · have := ih h; omega
theorem full_args (t : Tm) : t.full = Ty.sizes t.binds + Tm.fulls t.args + 1 := by obtain ⟨b, k, i, a⟩ := t; exact Tm.full_eq ..
theorem pflex_d (t : Tm) : PureC Try.prog 119 [.ag (eTm t)] (.v (.bool (decide (t.kind = 2)))) := by
 rw [eTm_eq]
 refine calldw 0 7 [ResultVar.tmp 2] TP1_ok Try.func119 rfl Try.ntmps119 rfl fun cx hnt hn0 => ?_
 ·skip
  refine dw_seq ?_; refine dwk [] TP1_ok hnt fun K hK => ?_; refine hK _ _ ?_; clear hK K; refine dw_seq ?_; refine dwk [(6, .v (.bool (decide (t.kind = 2))))] TP1_ok hnt fun K hK => ?_; refine And.intro (VLe.refl _) ?_; refine hK _ _ ?_; clear hK K; refine dw_ret ?_
  exact reta rfl

namespace Pn
end Pn
def eMet (l : List Int) : List (Int × D) := l.map fun i => (i, .v (.bool true))
theorem okm_map {f g : Nat → Bool} {α : Type} (e : α → Int × D) (l : List α) (h : ∀ x ∈ l, (e x).2.ok f g = true) : D.okm f g (l.map e) = true := by
  induction l with
  | nil => rfl
  | cons x l ih =>
    have h1 := h x (by simp)
    have h2 := ih fun y hy => h y (by simp [hy])
    simp only [List.map_cons]
    generalize e x = p at h1 ⊢
    obtain ⟨i, d⟩ := p
    simp only [D.okm, Bool.and_eq_true]; exact ⟨h1, h2⟩
@[simp] theorem eMet_ok (f g : Nat → Bool) (l : List Int) : D.okm f g (eMet l) = true := okm_map _ l fun _ _ => rfl
end Go.Proofs.Ytdmiekaeodcehaa

namespace Go.Proofs.Ytdmiekaeodcehaa
open Go.RowKit
def TLI_34 : TI := ⟨4, true, [Value.slice none 0 0, Value.int IntKind.i64 0, Value.int IntKind.i64 0, Value.slice none 0 0], [(0, 1, false), (1, 2, true), (3, 1, false)], none, 64, 6, none, false⟩
theorem TLI_34_ok : TypOk Try.prog 34 TLI_34 := ⟨by kernel_rfl, by kernel_rfl, by kernel_rfl, by kernel_rfl, by kernel_rfl⟩
def TLI_32 : TI := ⟨1, false, [Value.slice none 0 0], [], some 34, 24, 5, none, false⟩
theorem TLI_32_ok : TypOk Try.prog 32 TLI_32 := ⟨by kernel_rfl, by kernel_rfl, by kernel_rfl, by kernel_rfl, by kernel_rfl⟩
def TLI_3 : TI := ⟨1, false, [Value.int IntKind.i64 0], [], none, 8, 2, none, false⟩
theorem TLI_3_ok : TypOk Try.prog 3 TLI_3 := ⟨by kernel_rfl, by kernel_rfl, by kernel_rfl, by kernel_rfl, by kernel_rfl⟩
def TLI_30 : TI := ⟨1, false, [Value.slice none 0 0], [], some 100, 24, 5, none, false⟩
theorem TLI_30_ok : TypOk Try.prog 30 TLI_30 := ⟨by kernel_rfl, by kernel_rfl, by kernel_rfl, by kernel_rfl, by kernel_rfl⟩
def TLI_250 : TI := ⟨1, false, [Value.slice none 0 0], [], some 32, 24, 5, none, false⟩
theorem TLI_250_ok : TypOk Try.prog 250 TLI_250 := ⟨by kernel_rfl, by kernel_rfl, by kernel_rfl, by kernel_rfl, by kernel_rfl⟩
def TLI_149 : TI := ⟨10, true, [Value.slice none 0 0, Value.int IntKind.i64 0, Value.int IntKind.i64 0, Value.slice none 0 0, Value.slice none 0 0, Value.int IntKind.i64 0, Value.int IntKind.i64 0, Value.slice none 0 0, Value.slice none 0 0, Value.slice none 0 0], [(0, 9, true), (9, 1, false)], none, 176, 6, none, false⟩
theorem TLI_149_ok : TypOk Try.prog 149 TLI_149 := ⟨by kernel_rfl, by kernel_rfl, by kernel_rfl, by kernel_rfl, by kernel_rfl⟩
def TLI_100 : TI := ⟨2, true, [Value.slice none 0 0, Value.int IntKind.i64 0], [(0, 1, false), (1, 1, false)], none, 32, 6, none, false⟩
theorem TLI_100_ok : TypOk Try.prog 100 TLI_100 := ⟨by kernel_rfl, by kernel_rfl, by kernel_rfl, by kernel_rfl, by kernel_rfl⟩
def TLI_31 : TI := ⟨2, true, [Value.int IntKind.i64 0, Value.int IntKind.i64 0], [(0, 1, false), (1, 1, false)], none, 16, 6, none, true⟩
theorem TLI_31_ok : TypOk Try.prog 31 TLI_31 := ⟨by kernel_rfl, by kernel_rfl, by kernel_rfl, by kernel_rfl, by kernel_rfl⟩
def TLI_173 : TI := ⟨1, false, [Value.nilFunc], [], none, 8, 8, none, false⟩
theorem TLI_173_ok : TypOk Try.prog 173 TLI_173 := ⟨by kernel_rfl, by kernel_rfl, by kernel_rfl, by kernel_rfl, by kernel_rfl⟩
def TLI : List (Nat × TI) := [(34, TLI_34), (32, TLI_32), (3, TLI_3), (30, TLI_30), (250, TLI_250), (149, TLI_149), (100, TLI_100), (31, TLI_31), (173, TLI_173)]
theorem TLI_ok : TabOk Try.prog TLI := ((((((((((TabOk.nil _).cons TLI_173_ok).cons TLI_31_ok).cons TLI_100_ok).cons TLI_149_ok).cons TLI_250_ok).cons TLI_30_ok).cons TLI_3_ok).cons TLI_32_ok).cons TLI_34_ok)

/-! slices.Concat of terms -/
def eTmss (ls : List (List Tm)) : List (List D) := ls.map fun l => [.sl 4 (eTms l) none]
theorem eTmss_len (l : List (List Tm)) : (eTmss l).length = l.length := List.length_map ..
theorem eTmss_getD (l : List (List Tm)) (i : Nat) (h : i < l.length) : (eTmss l).getD i [] = [.sl 4 (eTms l[i]) none] := by
  rw [eTmss, List.getD_eq_getElem?_getD, List.getElem?_map, List.getElem?_eq_getElem h]; rfl
@[simp] theorem eTmss_ok (f g : Nat → Bool) (l : List (List Tm)) : D.okss f g (eTmss l) = true := D.okss_map _ l fun l _ => by simp [D.oks, D.ok, eTms_ok]
set_option maxRecDepth 100000 in
set_option maxHeartbeats 400000 in
theorem growT_at (n : Nat) (m : Int) (w : World) (hnm : m = n) (hn : n ≤ 1000000) :
    Calls Try.prog 161 #[.slice none 0 0, .int .i64 m] w fun e w' => ∃ v, e = .returned v ∧ Below w.heap.size w w' ∧ (v = .slice none 0 0 ∨ (v.ownBlock = some w.heap.size ∧ ∃ g, v = .slice (some ⟨w.heap.size, 0, none⟩) 0 g ∧ w'.ownsRow w.heap.size 34 4 v 0 [])) := by
  subst hnm
  obtain ⟨i0, hi0, hz0, hz1, hz2⟩ := info_parts infoT
  by_cases h0 : n = 0
  · subst h0
    go_enter Try.func161, Try.ntmps161
    go_wp2_with fail
    go_ret
    exact ⟨_, rfl, Below.refl _ _, .inl rfl⟩
  · have hr : ∀ ty, (Builtin.append_ #[32, 3] ty #[.slice none 0 0, .int .i64 (n : Int)]).run Try.prog w = _ := fun ty =>
      Lib.run_append_grow_zeros w 32 3 ty 34 i0 (.agg #[.slice none 0 0, .int .i64 0, .int .i64 0, .slice none 0 0]) .i64 .i64 Try.underlying32 Try.underlying3 hi0 hz0 none 0 0 [] (run_firstCells_none _ _ _ _ _) n (by omega) (by rw [hz1]; decide) (by omega) (by omega) (by rw [hz2]; omega) (by rw [hz2]; exact growslice_fits (by omega) (by omega))
    have hr' : ∃ g, n ≤ g ∧ g ≤ maxLen ∧ ∀ ty, (Builtin.append_ #[32, 3] ty #[.slice none 0 0, .int .i64 (n : Int)]).run Try.prog w = .ok (.slice (some ⟨w.heap.size, 0, none⟩) n g) (w.drew.alloc (.cells (Builtin.zeroCells (#[.slice none 0 0, .int .i64 0, .int .i64 0, .slice none 0 0]) n ++ Builtin.zeroCells (#[.slice none 0 0, .int .i64 0, .int .i64 0, .slice none 0 0]) (g - n)) 34)) := by
      refine ⟨grownCap w n 0 34, grownCap_ge _ _ _ _, grownCap_le_maxLen _ _ _ _ (by unfold maxLen; omega), fun ty => ?_⟩
      have := hr ty
      simpa [Value.cells] using this
    obtain ⟨g, hg1, hg2, hg⟩ := hr'
    have hg2' := hg2
    clear hg2
    clear hr
    have hn0 : 0 < (n : Int) := by omega
    have Hg := Lib.hid hg; clear hg
    go_enter Try.func161, Try.ntmps161
    go_wp2_with (at_builtin; refine wpList_append_eq rfl _ _ _ _ _ rfl (Hg.out _) ?_)
    go_ret
    refine ⟨_, rfl, (Below.refl _ _).drew.alloc (Nat.le_refl _) _, .inr ⟨rfl, g, rfl, rfl, .inr ⟨w.heap.size, g, _, rfl, Nat.le_refl _, heap_alloc_new w.drew _, Nat.zero_le _, hg2', ?_, rfl⟩⟩⟩
    first | (simp [size_zeroCells]; done) | (simp [size_zeroCells]; omega)
theorem growT_d (n : Int) (h0 : 0 ≤ n) (h1 : n ≤ 1000000) (nm : Nat) : CallN Try.prog 161 [.v (.slice none 0 0), .v (.int .i64 n)] [] nm [(.r nm, .rw 34 4 0)] (.sl 4 [] (some nm)) := by
  refine ⟨by kernel_rfl, fun cx Fr m Im w a σ vs hn hs hv _ => ?_⟩
  match vs, hv with
  | [x, y], hv =>
    have := rel_v.1 hv.1; subst this
    have := rel_v.1 hv.2.1; subst this
    refine (growT_at n.toNat n w (by omega) (by omega)).mono ?_
    rintro e w' ⟨v, rfl, hb, hv⟩
    rw [dropT_nil]
    rcases hv with rfl | ⟨ho, g, rfl, hr⟩
    · have hg : (m.setR nm ⟨.slice none 0 0, 0, 34, 4⟩).row nm = some ⟨.slice none 0 0, 0, 34, 4⟩ := by simp [Mp.setR]
      exact ⟨_, _, Im, rfl, (hs.newRow hn 34 4).below0 hb, rel_nil hg⟩
    · obtain ⟨s1, s2⟩ := hs.rowMade hn (.slice (some ⟨w.heap.size, 0, none⟩) 0 g) 34 4 hb ⟨hr.1, hr.2.imp id fun ⟨g, cap, cur, q1, q2, q3⟩ => ⟨g, cap, cur, q1, Nat.zero_le _, q3⟩⟩ ho
      refine ⟨_, _, Im, rfl, s1, ?_⟩
      exact .sl _ _ 0 0 4 (fun _ _ => undef) [] (some nm) ⟨Nat.zero_le _, Nat.zero_le _⟩ (fun h => absurd h (by simp)) (fun i _ h => absurd h (by simp)) (fun i h => absurd h (by simp)) (fun i _ h => absurd h (by simp)) (fun i h => absurd h (by simp)) fun r e => by
        cases e; exact ⟨_, by simp [Mp.setR]; rfl, Nat.le_refl _, fun _ => rfl⟩
def lensT : List (List Tm) → Nat
  | [] => 0
  | l :: r => l.length + lensT r
theorem lensT_take (ls : List (List Tm)) (j : Nat) (h : j < ls.length) : lensT (ls.take (j + 1)) = lensT (ls.take j) + ls[j].length := by
  induction ls generalizing j with
  | nil => simp at h
  | cons l r ih =>
    cases j with
    | zero => simp [lensT]
    | succ j => simp only [List.take_succ_cons, lensT, List.getElem_cons_succ]; rw [ih j (by simpa using h)]; omega
theorem lensT_flat (ls : List (List Tm)) : ls.flatten.length = lensT ls := by
  induction ls with
  | nil => rfl
  | cons l r ih => simp [lensT, ih]
theorem lensT_le (ls : List (List Tm)) (j : Nat) : lensT (ls.take j) ≤ lensT ls := by
  induction ls generalizing j with
  | nil => simp [lensT]
  | cons l r ih =>
    cases j with
    | zero => simp [lensT]
    | succ j => simp only [List.take_succ_cons, lensT]; have := ih j; omega
theorem flatT_take (ls : List (List Tm)) (j : Nat) (h : j < ls.length) : (ls.take (j + 1)).flatten = (ls.take j).flatten ++ ls[j] := by
  rw [List.take_add_one, List.getElem?_eq_getElem h, List.flatten_append]; simp
set_option maxHeartbeats 1000000 in
theorem concatT_d (ls : List (List Tm)) (hl : lensT ls ≤ 900000) (hn : ls.length ≤ 1000) : PureC Try.prog 135 [.sl 1 (eTmss ls) none] (.sl 4 (eTms ls.flatten) none) := by
 refine calldw 0 36 [ResultVar.tmp 2] TLI_ok Try.func135 rfl Try.ntmps135 rfl fun cx hnt hn0 => ?_
 ·skip
  refine dw_seq ?_; refine dwk [] TLI_ok hnt fun K hK => ?_; refine hK _ _ ?_; clear hK K; refine dw_seq ?_; refine dwk [] TLI_ok hnt fun K hK => ?_; refine hK _ _ ?_; clear hK K; refine dw_seq ?_; refine dw_seq ?_; refine dwk [(10, .v (.int .i64 (ls.length)))] TLI_ok hnt fun K hK => ?_; refine And.intro (dintE (by rw [eTmss_len])) ?_; refine hK _ _ ?_; clear hK K; refine dw_block ?_
  refine dw_loop (ι := Nat) (fun j => [(.t 0, .sl 1 (eTmss ls) none), (.t 9, .sl 1 (eTmss ls) none), (.t 10, .v (.int .i64 ls.length)), (.t 11, .v (.int .i64 (j : Int))), (.t 3, .v (.int .i64 (lensT (ls.take j) : Nat)))]) 0 (fun j => ls.length - j) (0) ((VS.toK (by omega) (by repeat first | exact trivial | refine And.intro (And.intro (by first | rfl | simp [D.ok, D.oks, D.okss, D.okm, upto, keyOk, lensT]) (by first | exact Or.inl rfl | exact Or.inr ⟨_, rfl, (by repeat first | exact VLe.refl _ | exact VLe.nil _ | exact VLe.untag _ _ _ | refine VLe.ag ?_ | refine VLe.tu ?_ | refine VLeL.cons ?_ ?_ | exact VLeL.nil), trivial⟩ | simp [get, Key.eq, lensT])) ?_))) fun j => ?_
  by_cases hlt : j < ls.length
  ·have h1 := lensT_take ls j hlt
   have h2 := lensT_le ls (j + 1)
   refine dw_seq ?_; refine dwk [(12, .v (.bool true))] TLI_ok hnt fun K hK => ?_; refine And.intro auT ?_; refine hK _ _ ?_; clear hK K; refine dw_seq ?_; refine dw_cond (t := true) rfl ?_; rw [if_pos rfl]; refine dw_skip ?_; refine dw_seq ?_; refine dw_block ?_; refine dw_seq ?_; refine dwk [(13, .q [.sl 4 (eTms ls[j]) none])] TLI_ok hnt fun K hK => ?_; refine And.intro (⟨by omega, by rw [eTmss_len]; omega⟩) ?_
   refine And.intro (VLe.of_eq (by rw [Int.toNat_natCast, eTmss_getD ls j hlt])) ?_; refine hK _ _ ?_; clear hK K; refine dw_seq ?_; refine dwk [(18, .v (.int .i64 (↑(lensT (ls.take (j + 1))))))] TLI_ok hnt fun K hK => ?_; refine And.intro (dintE (by rw [eTms_len, IntWalk.i64_in _ (by omega)]; omega)) ?_; refine hK _ _ ?_; clear hK K; refine dw_seq ?_; refine dwk [(20, .v (.bool false))] TLI_ok hnt fun K hK => ?_
   refine And.intro auF ?_; refine hK _ _ ?_; clear hK K; refine dw_cond (t := false) rfl ?_; rw [if_neg (by simp)]; refine dw_skip ?_; refine dwk [(22, .v (.int .i64 (↑(j + 1))))] TLI_ok hnt fun K hK => ?_; refine And.intro auI ?_; refine hK _ _ ?_; clear hK K
   refine ⟨j + 1, by first | omega | (dsimp only; omega), VS.toA⟩
  ·have h3 : ls.take j = ls := List.take_of_length_le (by omega)
   have hg := growT_d (lensT (ls.take j) : Nat) (by omega) (by rw [h3]; omega)
   rw [h3] at hg ⊢
   refine dw_seq ?_; refine dwk [(12, .v (.bool false))] TLI_ok hnt fun K hK => ?_; refine And.intro auF ?_; refine hK _ _ ?_; clear hK K; refine dw_seq ?_; refine dw_cond (t := false) rfl ?_; rw [if_neg (by simp)]; refine dw_exit ?_; refine dw_seq ?_; refine dwk [] TLI_ok hnt fun K hK => ?_; refine dcn (hg _) ?_; refine hK _ _ ?_; clear hK K; refine dw_seq ?_; refine dw_seq ?_; refine dwk [(26, .v (.int .i64 (ls.length)))] TLI_ok hnt fun K hK => ?_
   refine And.intro (dintE (by rw [eTmss_len])) ?_; refine hK _ _ ?_; clear hK K; refine dw_block ?_
   refine dw_loop (ι := Nat) (fun j => [(.t 25, .sl 1 (eTmss ls) none), (.t 26, .v (.int .i64 ls.length)), (.t 27, .v (.int .i64 (j : Int))), (.t 6, .sl 4 (eTms (ls.take j).flatten) (some 2)), (.r 2, .rw 34 4 (ls.take j).flatten.length)]) 3 (fun j => ls.length - j) (0) (VS.toA) fun i => ?_
   by_cases hli : i < ls.length
   ·have h4 := lensT_take ls i hli
    have h5 := lensT_le ls (i + 1)
    have h6 := flatT_take ls i hli
    have h7 := lensT_flat (ls.take i)
    refine dw_seq ?_; refine dwk [(28, .v (.bool true))] TLI_ok hnt fun K hK => ?_; refine And.intro auT ?_; refine hK _ _ ?_; clear hK K; refine dw_seq ?_; refine dw_cond (t := true) rfl ?_; rw [if_pos rfl]; refine dw_skip ?_; refine dw_seq ?_; refine dw_block ?_; refine dw_seq ?_; refine dwk [(29, .q [.sl 4 (eTms ls[i]) none])] TLI_ok hnt fun K hK => ?_; refine And.intro (⟨by omega, by rw [eTmss_len]; omega⟩) ?_
    refine And.intro (VLe.of_eq (by rw [Int.toNat_natCast, eTmss_getD ls i hli])) ?_; refine hK _ _ ?_; clear hK K; refine dwk [(33, .sl 4 (eTms (ls.take (i + 1)).flatten) (some 2))] TLI_ok hnt fun K hK => ?_; refine And.intro (⟨by rw [eTms_len], by rw [eTms_len, eTms_len, h7]; omega⟩) ?_; refine And.intro (VLe.of_eq (by rw [h6, eTms_append])) ?_; refine hK _ _ ?_; clear hK K; refine dwk [(34, .v (.int .i64 (↑(i + 1))))] TLI_ok hnt fun K hK => ?_
    refine And.intro auI ?_; refine hK _ _ ?_; clear hK K
    have h8 : (eTms (ls.take i).flatten ++ eTms ls[i]).length = (ls.take (i + 1)).flatten.length := by rw [h6, ← eTms_append, eTms_len]
    refine ⟨i + 1, by first | omega | (dsimp only; omega), (by try simp only [List.length_append, List.length_take, List.length_cons, List.length_nil, Nat.zero_add, h8]; exact VS.toA)⟩
   ·have h9 : ls.take i = ls := List.take_of_length_le (by omega)
    rw [h9]
    refine dw_seq ?_; refine dwk [(28, .v (.bool false))] TLI_ok hnt fun K hK => ?_; refine And.intro auF ?_; refine hK _ _ ?_; clear hK K; refine dw_seq ?_; refine dw_cond (t := false) rfl ?_; rw [if_neg (by simp)]; refine dw_exit ?_; refine dw_seq ?_; refine dwk [] TLI_ok hnt fun K hK => ?_; refine hK _ _ ?_; clear hK K; refine dw_ret ?_
    exact reta rfl

/-! variables -/
namespace Li
def vars (B : List Ty) (n : Int) : List Tm := B.mapIdx fun i b => Ty.Eta b 0 (n + B.length - 1 - i)
theorem vars_len (B : List Ty) (n : Int) : (vars B n).length = B.length := List.length_mapIdx ..
theorem vars_get (B : List Ty) (n : Int) (j : Nat) (h : j < B.length) : (vars B n)[j]'(by rw [vars_len]; exact h) = Ty.Eta B[j] 0 (n + B.length - 1 - j) := by
  unfold vars; rw [List.getElem_mapIdx]
mutual
def lif (B : List Ty) : Tm → Int → Tm
  | .mk b k i a, n => .mk b k i ((if k = 2 then vars B (n + b.length) else []) ++ lifs B a (n + b.length))
def lifs (B : List Ty) : List Tm → Int → List Tm
  | [], _ => []
  | t :: l, n => lif B t n :: lifs B l n
end
theorem lif_eq (B b : List Ty) (k i : Int) (a : List Tm) (n : Int) : lif B (.mk b k i a) n = .mk b k i ((if k = 2 then vars B (n + b.length) else []) ++ lifs B a (n + b.length)) := by rw [lif]
theorem lifs_map (B : List Ty) (l : List Tm) (n : Int) : lifs B l n = l.map (lif B · n) := by
  induction l with
  | nil => rfl
  | cons t l ih => rw [lifs, ih]; rfl
theorem lifs_len (B : List Ty) (l : List Tm) (n : Int) : (lifs B l n).length = l.length := by rw [lifs_map, List.length_map]
theorem lifs_snoc (B : List Ty) (l : List Tm) (n : Int) (j : Nat) (h : j < l.length) : eTms ((lifs B l n).take j) ++ [eTm (lif B l[j] n)] = eTms ((lifs B l n).take (j + 1)) := by
  have h2 : j < (lifs B l n).length := by rw [lifs_len]; exact h
  have := eTms_snoc _ _ h2
  rw [← eTm_eq] at this
  rw [← this]
  congr 2
  simp only [lifs_map, List.getElem_map]
end Li
set_option maxHeartbeats 1000000 in
theorem lvars_d (L R : Tm) (M B : List Ty) (n : Int) (hn : 0 ≤ n ∧ n ≤ 1000000) (hl : B.length ≤ 1000) (hB : ∀ b ∈ B, b.size ≤ 1000) : PureC Try.prog 136 [.ag [.sl 2 (eTys L.binds) none, .v (.int .i64 L.kind), .v (.int .i64 L.index), .sl 4 (eTms L.args) none, .sl 2 (eTys R.binds) none, .v (.int .i64 R.kind), .v (.int .i64 R.index), .sl 4 (eTms R.args) none, .sl 2 (eTys M) none, .sl 2 (eTys B) none], .v (.int .i64 n)] (.sl 4 (eTms (Li.vars B n)) none) := by
 refine calldw 0 34 [ResultVar.tmp 4] TLI_ok Try.func136 rfl Try.ntmps136 rfl fun cx hnt hn0 => ?_
 ·skip
  refine dw_seq ?_; refine dwk [] TLI_ok hnt fun K hK => ?_; refine hK _ _ ?_; clear hK K
  refine dw_cut (τ := [(.t 1, .v (.int .i64 n)), (.t 2, .p 0 0), (.t 5, .v (.slice none 0 0)), (.c 0 0, .sl 2 (eTys L.binds) none), (.c 0 1, .v (.int .i64 L.kind)), (.c 0 2, .v (.int .i64 L.index)), (.c 0 3, .sl 4 (eTms L.args) none), (.c 0 4, .sl 2 (eTys R.binds) none), (.c 0 5, .v (.int .i64 R.kind)), (.c 0 6, .v (.int .i64 R.index)), (.c 0 7, .sl 4 (eTms R.args) none), (.c 0 8, .sl 2 (eTys M) none), (.c 0 9, .sl 2 (eTys B) none)]) (N1 := 1) ?_ ?_
  ·skip
   refine dwk [] TLI_ok hnt fun K hK => ?_; refine hK _ _ ?_; clear hK K
   exact cut_ok VS.toA
  ·refine DW.vs (VS.rowT (x := 5) (by rw [hnt]; decide) 34 4 rfl) ?_
   refine dw_seq ?_; refine dwk [(11, .v (.int .i64 (↑B.length)))] TLI_ok hnt fun K hK => ?_; refine And.intro (dintE (by rw [eTys_len])) ?_; refine hK _ _ ?_; clear hK K; refine dw_seq ?_; refine dw_seq ?_; refine dwk [(14, .v (.int .i64 (↑B.length)))] TLI_ok hnt fun K hK => ?_; refine And.intro (dintE (by rw [eTys_len])) ?_; refine hK _ _ ?_; clear hK K; refine dw_block ?_
   refine dw_loop (ι := { j : Nat // j ≤ B.length }) (fun j => [(.t 1, .v (.int .i64 n)), (.t 6, .v (.int .i64 ↑B.length)), (.t 13, .sl 2 (eTys B) none), (.t 14, .v (.int .i64 ↑B.length)), (.t 15, .v (.int .i64 ↑j.1)), (.t 5, .sl 4 (eTms ((Li.vars B n).take j.1)) (some 1)), (.r 1, .rw 34 4 j.1)]) 2 (fun j => B.length - j.1) (⟨0, Nat.zero_le _⟩) (VS.toA) fun j => ?_
   obtain ⟨j, hj⟩ := j
   dsimp only
   by_cases hlt : j < B.length
   ·have hc := teta_d B[j] 0 (n + B.length - 1 - j) (hB _ (List.getElem_mem hlt))
    rw [← Li.vars_get B n j hlt, eTm_eq, eTy_eq] at hc
    have hl0 := Li.vars_len B n
    have hsn := eTms_snoc (Li.vars B n) j (by omega)
    have hl1 : (eTms ((Li.vars B n).take j)).length = j := by rw [eTms_len, List.length_take]; omega
    have hl2 : (eTms ((Li.vars B n).take (j + 1))).length = j + 1 := by rw [eTms_len, List.length_take]; omega
    refine dw_seq ?_; refine dwk [(16, .v (.bool true))] TLI_ok hnt fun K hK => ?_; refine And.intro auT ?_; refine hK _ _ ?_; clear hK K; refine dw_seq ?_; refine dw_cond (t := true) rfl ?_; rw [if_pos rfl]; refine dw_skip ?_; refine dw_seq ?_; refine dw_block ?_; refine dw_seq ?_; refine dwk [(18, .q [.sl 2 (eTys B[j].args) none, .v (.int .i64 B[j].base)])] TLI_ok hnt fun K hK => ?_; refine And.intro (elo (eTys_len B)) ?_
    refine And.intro (elv (eTys_getD B j) (eTy_eq _)) ?_; refine hK _ _ ?_; clear hK K; refine dwk [(26, .v (.int .i64 ((n + B.length - 1 - j))))] TLI_ok hnt fun K hK => ?_; refine And.intro (dintE (by rw [IntWalk.i64_in (n + B.length) (by omega), IntWalk.i64_in (n + B.length - 1) (by omega), IntWalk.i64_in _ (by omega)])) ?_; refine dcl (hc) ?_; refine And.intro (⟨by omega, by rw [hl1]; simp; omega⟩) ?_
    refine hK _ _ ?_; clear hK K
    rw [hsn, hl2]
    refine dwk [(32, .v (.int .i64 (↑(j + 1))))] TLI_ok hnt fun K hK => ?_; refine And.intro auI ?_; refine hK _ _ ?_; clear hK K
    refine ⟨⟨j + 1, hlt⟩, by first | omega | (dsimp only; omega), VS.toA⟩
   ·rw [List.take_of_length_le (by rw [Li.vars_len]; omega)]
    refine dw_seq ?_; refine dwk [(16, .v (.bool false))] TLI_ok hnt fun K hK => ?_; refine And.intro auF ?_; refine hK _ _ ?_; clear hK K; refine dw_seq ?_; refine dw_cond (t := false) rfl ?_; rw [if_neg (by simp)]; refine dw_exit ?_; refine dw_seq ?_; refine dwk [] TLI_ok hnt fun K hK => ?_; refine hK _ _ ?_; clear hK K; refine dw_ret ?_
    exact reta rfl
theorem lturn_d (L R : Tm) (M B : List Ty) (t : Tm) (n : Int) (hn : 0 ≤ n ∧ n ≤ 1000000) (hl : B.length ≤ 900) (hB : ∀ b ∈ B, b.size ≤ 1000) (ht : t.args.length ≤ 800000) : CallC Try.prog 134 [.ag (eTm t), .v (.int .i64 n), .p 0 0] [(.c 0 0, .sl 2 (eTys L.binds) none), (.c 0 1, .v (.int .i64 L.kind)), (.c 0 2, .v (.int .i64 L.index)), (.c 0 3, .sl 4 (eTms L.args) none), (.c 0 4, .sl 2 (eTys R.binds) none), (.c 0 5, .v (.int .i64 R.kind)), (.c 0 6, .v (.int .i64 R.index)), (.c 0 7, .sl 4 (eTms R.args) none), (.c 0 8, .sl 2 (eTys M) none), (.c 0 9, .sl 2 (eTys B) none)] [(.c 0 0, .sl 2 (eTys L.binds) none), (.c 0 1, .v (.int .i64 L.kind)), (.c 0 2, .v (.int .i64 L.index)), (.c 0 3, .sl 4 (eTms L.args) none), (.c 0 4, .sl 2 (eTys R.binds) none), (.c 0 5, .v (.int .i64 R.kind)), (.c 0 6, .v (.int .i64 R.index)), (.c 0 7, .sl 4 (eTms R.args) none), (.c 0 8, .sl 2 (eTys M) none), (.c 0 9, .sl 2 (eTys B) none)] (.ag (eTm (.mk t.binds t.kind t.index (Li.vars B n ++ t.args)))) := by
 have hv := lvars_d L R M B n hn (by omega) hB
 have hcat := concatT_d [Li.vars B n, t.args] (by simp [lensT, Li.vars_len]; omega) (by simp)
 simp only [List.flatten_cons, List.flatten_nil, List.append_nil] at hcat
 rw [eTm_eq, eTm_eq]
 simp only [bindsT, kindT, indexT, argsTm]
 refine calldw 1 15 [ResultVar.cell 5 34] TLI_ok Try.func134 rfl Try.ntmps134 rfl fun cx hnt hn0 => ?_
 ·skip
  refine dw_seq ?_; refine dwk [] TLI_ok hnt fun K hK => ?_; refine hK _ _ ?_; clear hK K; refine dw_seq ?_; refine dwkD [(11, .sl 1 (eTmss [Li.vars B n, t.args]) none)] TLI_ok hnt fun K hK => ?_; refine dcl (hv) ?_; refine And.intro (VLe.untag _ _ _) ?_; refine dcl (hcat) ?_; refine hK _ _ (by kernel_rfl) ?_; clear hK K; refine dw_seq ?_; refine dwk [] TLI_ok hnt fun K hK => ?_; refine hK _ _ ?_; clear hK K
  refine dw_ret ?_
  exact reta rfl
theorem leach_d (L R : Tm) (M B : List Ty) (hl : B.length ≤ 900) (hB : ∀ b ∈ B, b.size ≤ 1000) : ∀ (t : Tm) (n : Int), 0 ≤ n → n + t.full ≤ 700000 → CallC Try.prog 133 [.ag (eTm t), .v (.int .i64 n), .fn 134 [.p 0 0]] [(.c 0 0, .sl 2 (eTys L.binds) none), (.c 0 1, .v (.int .i64 L.kind)), (.c 0 2, .v (.int .i64 L.index)), (.c 0 3, .sl 4 (eTms L.args) none), (.c 0 4, .sl 2 (eTys R.binds) none), (.c 0 5, .v (.int .i64 R.kind)), (.c 0 6, .v (.int .i64 R.index)), (.c 0 7, .sl 4 (eTms R.args) none), (.c 0 8, .sl 2 (eTys M) none), (.c 0 9, .sl 2 (eTys B) none)] [(.c 0 0, .sl 2 (eTys L.binds) none), (.c 0 1, .v (.int .i64 L.kind)), (.c 0 2, .v (.int .i64 L.index)), (.c 0 3, .sl 4 (eTms L.args) none), (.c 0 4, .sl 2 (eTys R.binds) none), (.c 0 5, .v (.int .i64 R.kind)), (.c 0 6, .v (.int .i64 R.index)), (.c 0 7, .sl 4 (eTms R.args) none), (.c 0 8, .sl 2 (eTys M) none), (.c 0 9, .sl 2 (eTys B) none)] (.ag (eTm (Li.lif B t n))) := by
 intro t
 induction t using Tm.ind with
 | h b k i a ih =>
 intro n h0 hz
 rw [Tm.full_eq] at hz
 have hbl := Ty.le_sizes b
 have hal := cFulls_len a
 have hfl := pflex_d (.mk b k i a)
 obtain ⟨n', hn⟩ : ∃ n' : Int, n' = n + b.length := ⟨_, rfl⟩
 have htu := lturn_d L R M B (.mk b k i (Li.lifs B a n')) n' (by omega) hl hB (by simp only [argsTm, Li.lifs_len]; omega)
 rw [Li.lif_eq, ← hn]
 obtain ⟨v, hv⟩ : ∃ v, Li.vars B n' = v := ⟨_, rfl⟩
 have hl0 := Li.lifs_len B a n'
 have hsn := Li.lifs_snoc B a n'
 obtain ⟨r, hr⟩ : ∃ r, Li.lifs B a n' = r := ⟨_, rfl⟩
 rw [hr] at htu hsn hl0 ⊢
 rw [eTm_eq, eTm_eq] at htu
 rw [eTm_eq] at hfl
 rw [eTm_eq, eTm_eq]
 simp only [bindsT, kindT, indexT, argsTm] at htu hfl ⊢
 rw [hv] at htu ⊢
 have hfl : ∀ c : Bool, decide (k = 2) = c → PureC Try.prog 119 [.ag [.sl 2 (eTys b) none, .v (.int .i64 k), .v (.int .i64 i), .sl 4 (eTms a) none]] (.v (.bool c)) := fun c h => h ▸ hfl
 clear hv hr
 refine calldw 1 44 [ResultVar.cell 6 34] TLI_ok Try.func133 rfl Try.ntmps133 rfl fun cx hnt hn0 => ?_
 ·skip
  refine dw_seq ?_; refine dwk [] TLI_ok hnt fun K hK => ?_; refine hK _ _ ?_; clear hK K; refine dw_seq ?_; refine dwk [(14, .v (.int .i64 (n')))] TLI_ok hnt fun K hK => ?_; refine And.intro (dintE (by rw [eTys_len, IntWalk.i64_in _ (by omega)]; omega)) ?_; refine hK _ _ ?_; clear hK K; refine dw_seq ?_; refine dwk [] TLI_ok hnt fun K hK => ?_; refine hK _ _ ?_; clear hK K
  refine DW.vs (VS.row (k := 14) (off := 3) 34 4 rfl) ?_
  refine dw_seq ?_; refine dw_seq ?_; refine dwk [(22, .v (.int .i64 (↑a.length)))] TLI_ok hnt fun K hK => ?_; refine And.intro (dintE (by rw [eTms_len])) ?_; refine hK _ _ ?_; clear hK K; refine dw_block ?_
  refine dw_loop (ι := { j : Nat // j ≤ a.length }) (fun j => [(.t 1, .v (.int .i64 n')), (.t 2, .fn 134 [.p 0 0]), (.t 3, .p 1 0), (.t 6, .p 2 0), (.t 7, .p 14 0), (.t 21, .sl 4 (eTms a) none), (.t 22, .v (.int .i64 ↑a.length)), (.t 23, .v (.int .i64 ↑j.1)), (.c 1 0, .sl 2 (eTys b) none), (.c 1 1, .v (.int .i64 k)), (.c 1 2, .v (.int .i64 i)), (.c 1 3, .sl 4 (eTms a) none), (.c 2 0, .v (.slice none 0 0)), (.c 2 1, .v (.int .i64 0)), (.c 2 2, .v (.int .i64 0)), (.c 2 3, .v (.slice none 0 0)), (.c 14 0, .sl 2 (eTys b) none), (.c 14 1, .v (.int .i64 k)), (.c 14 2, .v (.int .i64 i)), (.c 14 3, .sl 4 (eTms (r.take j.1)) (some 16)), (.r 16, .rw 34 4 j.1), (.c 0 0, .sl 2 (eTys L.binds) none), (.c 0 1, .v (.int .i64 L.kind)), (.c 0 2, .v (.int .i64 L.index)), (.c 0 3, .sl 4 (eTms L.args) none), (.c 0 4, .sl 2 (eTys R.binds) none), (.c 0 5, .v (.int .i64 R.kind)), (.c 0 6, .v (.int .i64 R.index)), (.c 0 7, .sl 4 (eTms R.args) none), (.c 0 8, .sl 2 (eTys M) none), (.c 0 9, .sl 2 (eTys B) none)]) 17 (fun j => a.length - j.1) (⟨0, Nat.zero_le _⟩) (VS.toA) fun j => ?_
  obtain ⟨j, hj⟩ := j
  dsimp only
  by_cases hlt : j < a.length
  ·have hmem := List.getElem_mem hlt
   have hsz := Tm.full_mem hmem
   have hc := ih _ hmem n' (by omega) (by omega)
   have hs2 := hsn j hlt
   rw [eTm_eq, eTm_eq] at hc
   rw [eTm_eq] at hs2
   have hl1 : (eTms (r.take j)).length = j := by rw [eTms_len, List.length_take]; omega
   have hl2 : (eTms (r.take (j + 1))).length = j + 1 := by rw [eTms_len, List.length_take]; omega
   refine dw_seq ?_; refine dwk [(24, .v (.bool true))] TLI_ok hnt fun K hK => ?_; refine And.intro auT ?_; refine hK _ _ ?_; clear hK K; refine dw_seq ?_; refine dw_cond (t := true) rfl ?_; rw [if_pos rfl]; refine dw_skip ?_; refine dw_seq ?_; refine dw_block ?_; refine dw_seq ?_; refine dwk [(25, .q [.sl 2 (eTys a[j].binds) none, .v (.int .i64 a[j].kind), .v (.int .i64 a[j].index), .sl 4 (eTms a[j].args) none])] TLI_ok hnt fun K hK => ?_
   refine And.intro (elo (eTms_len a)) ?_; refine And.intro (elv (eTms_getD a j) (eTm_eq _)) ?_; refine hK _ _ ?_; clear hK K; refine dwkD [] TLI_ok hnt fun K hK => ?_; refine dcl (hc) ?_; refine And.intro (⟨by omega, by rw [hl1]; simp; omega⟩) ?_; refine hK _ _ (by kernel_rfl) ?_; clear hK K
   rw [hs2, hl2]
   refine dwk [(36, .v (.int .i64 (↑(j + 1))))] TLI_ok hnt fun K hK => ?_; refine And.intro auI ?_; refine hK _ _ ?_; clear hK K
   refine ⟨⟨j + 1, hlt⟩, by first | omega | (dsimp only; omega), VS.toA⟩
  ·rw [List.take_of_length_le (by omega)]
   refine dw_seq ?_; refine dwk [(24, .v (.bool false))] TLI_ok hnt fun K hK => ?_; refine And.intro auF ?_; refine hK _ _ ?_; clear hK K; refine dw_seq ?_; refine dw_cond (t := false) rfl ?_; rw [if_neg (by simp)]
   by_cases hk : k = 2
   ·have hfl := hfl _ (decide_eq_true hk)
    rw [if_pos hk]; refine dw_exit ?_; refine dw_seq ?_; refine dw_seq ?_; refine dwk [] TLI_ok hnt fun K hK => ?_; refine dcl (hfl) ?_; refine hK _ _ ?_; clear hK K; refine dw_cond (t := true) rfl ?_; rw [if_pos rfl]; refine dw_seq ?_; refine dwk [(40, .ag [.sl 2 (eTys b) none, .v (.int .i64 k), .v (.int .i64 i), .sl 4 (eTms r) none])] TLI_ok hnt fun K hK => ?_; refine And.intro (auV) ?_; refine dcl (htu) ?_
    refine hK _ _ ?_; clear hK K; refine dw_ret ?_
    exact reta rfl
   ·have hfl := hfl _ (decide_eq_false hk)
    rw [if_neg hk]; refine dw_exit ?_; refine dw_seq ?_; refine dw_seq ?_; refine dwk [] TLI_ok hnt fun K hK => ?_; refine dcl (hfl) ?_; refine hK _ _ ?_; clear hK K; refine dw_cond (t := false) rfl ?_; rw [if_neg (by simp)]; refine dw_skip ?_; refine dw_seq ?_; refine dwk [] TLI_ok hnt fun K hK => ?_; refine hK _ _ ?_; clear hK K; refine dw_ret ?_
    exact reta rfl
theorem lterm_d (L R : Tm) (M B : List Ty) (t : Tm) (hl : B.length ≤ 900) (hB : ∀ b ∈ B, b.size ≤ 1000) (hz : t.full ≤ 700000) : PureC Try.prog 88 [.ag [.sl 2 (eTys L.binds) none, .v (.int .i64 L.kind), .v (.int .i64 L.index), .sl 4 (eTms L.args) none, .sl 2 (eTys R.binds) none, .v (.int .i64 R.kind), .v (.int .i64 R.index), .sl 4 (eTms R.args) none, .sl 2 (eTys M) none, .sl 2 (eTys B) none], .ag (eTm t)] (.ag (eTm (Li.lif B t 0))) := by
 have he := leach_d L R M B hl hB t 0 (by omega) (by omega)
 rw [eTm_eq, eTm_eq] at he ⊢
 refine calldw 0 8 [ResultVar.cell 4 34] TLI_ok Try.func88 rfl Try.ntmps88 rfl fun cx hnt hn0 => ?_
 ·skip
  refine dw_seq ?_; refine dwk [] TLI_ok hnt fun K hK => ?_; refine hK _ _ ?_; clear hK K; refine dw_seq ?_; refine dwk [] TLI_ok hnt fun K hK => ?_; refine dcl (he) ?_; refine hK _ _ ?_; clear hK K; refine dw_ret ?_
  exact reta rfl
end Go.Proofs.Ytdmiekaeodcehaa

namespace Go.Proofs.Ytdmiekaeodcehaa
open Go.RowKit

def CallG (P : Program) (f : FuncId) (args : List D) (R W : List (Key × D)) (V : D) : Prop :=
  entersB P f = true ∧ ∀ cx (Fr : Nat → Prop) m Im w a σ vs, St cx Fr m Im w a σ → RelL m Im w vs args → (∀ p ∈ R, get σ p.1 = some p.2) →
    Calls P f vs.toArray w fun e w' => ∃ v m' Im', e = .returned v ∧ St cx Fr m' Im' w' a (puts (dropT R σ) W) ∧ Rel m' Im' w' v V
theorem CallG.n {P : Program} {f : FuncId} {args : List D} {R W : List (Key × D)} {V : D} (h : CallG P f args R W V) (nm : Nat) : CallN P f args R nm W V :=
  ⟨h.1, fun cx Fr m Im w a σ vs _ hs hv hR => (h.2 cx Fr m Im w a σ vs hs hv hR).mono fun e w' ⟨v, m', Im', q1, q2, q3⟩ => ⟨v, m', Im', q1, q2.less fun k hk => hk.1, q3⟩⟩
theorem CallG.vle {P : Program} {f : FuncId} {args args' : List D} {R W : List (Key × D)} {V V' : D} (h : CallG P f args R W V) (ha : VLeL args' args) (hv : VLe V V') : CallG P f args' R W V' := by
  refine ⟨h.1, fun cx Fr m Im w a σ vs hs hr hR => (h.2 cx Fr m Im w a σ vs hs ?_ hR).mono ?_⟩
  · rw [relL_iff] at hr ⊢
    refine ⟨hr.1.trans ha.1, fun i hi => ?_⟩
    have hi' : i < args'.length := by rw [ha.1]; exact hi
    exact ha.2 i hi' hi m Im w _ (hr.2 i hi')
  · rintro e w' ⟨v, m', Im', rfl, h1, h2⟩
    exact ⟨v, m', Im', rfl, h1, hv _ _ _ _ h2⟩
def rowsR (R : List (Key × D)) : List Nat := R.filterMap fun p => match p.1 with | .r g => some g | _ => none
def rowN (R : List (Key × D)) : Nat → Bool := fun g => (rowsR R).contains g
theorem mem_rowsR {R : List (Key × D)} {g : Nat} {d : D} (h : (Key.r g, d) ∈ R) : rowN R g = true := by
  unfold rowN; rw [List.contains_iff_mem]; exact List.mem_filterMap.2 ⟨_, h, rfl⟩
theorem of_rowsR {R : List (Key × D)} {g : Nat} (h : rowN R g = true) : ∃ d, (Key.r g, d) ∈ R := by
  unfold rowN at h; rw [List.contains_iff_mem] at h
  obtain ⟨p, hp, e⟩ := List.mem_filterMap.1 h
  obtain ⟨key, d⟩ := p
  cases key with
  | r g' => simp at e; subst e; exact ⟨d, hp⟩
  | _ => cases e
def gkey : Key → Bool
  | .c _ _ => true
  | .o _ => true
  | .r _ => true
  | _ => false
def wordsG (args : List D) (R W : List (Key × D)) (V : D) (N0 : Nat) : Bool :=
  args.all (fun d => d.ok (inN R) (rowN R)) && R.all (fun p => p.2.ok (inN R) (rowN R) && gkey p.1) && W.all (fun p => p.2.ok (inN R) (rowN R) && (match p.1 with | .c k _ => inN R k | .o k => inN R k | .r g => rowN R g | _ => false)) && V.ok (inN R) (rowN R) && (rnames R).all (fun k => decide (k < N0)) && (rowsR R).all (fun g => decide (g < N0) && W.any fun p => Key.eq p.1 (.r g))
set_option maxHeartbeats 2000000 in
theorem callG_of_dw {P : Program} {T : List (Nat × TI)} {f : FuncId} {fn : Func} {c : Code} {args : List D} {R W : List (Key × D)} {V : D} (N0 nt : Nat) (rs : List ResultVar) (hT : TabOk P T) (hen : entersB P f = true) (hf : P.funcs[f]? = some fn) (hb : fn.body = some c) (hnt : fn.ntmps = nt) (hrs : fn.results.toList = rs)
    (hal : args.length ≤ nt) (hw : wordsG args R W V N0 = true) (h : ∀ cx : Cx, cx.nt = nt → cx.n0 = N0 → DW P cx c (argsT 0 args R) N0 (RetOk T rs V W)) : CallG P f args R W V := by
  refine ⟨hen, fun cx Fr m Im w a σ vs hs0 hargs hR => ?_⟩
  have hmem := hs0.mem
  simp only [wordsG, Bool.and_eq_true, List.all_eq_true, decide_eq_true_eq] at hw
  obtain ⟨⟨⟨⟨⟨w1, w2⟩, w3⟩, w4⟩, w5⟩, w6⟩ := hw
  have hRc : ∀ k off d, (Key.c k off, d) ∈ R → ∃ b v, m.blk k = some b ∧ w.cell? ⟨b, off, none⟩ = some v ∧ Rel m Im w v d := fun k off d hm => hs0.ce k off d (hR _ hm)
  have hRo : ∀ k d, (Key.o k, d) ∈ R → ∃ b, m.obj k = some b ∧ ObOk m Im w b d := fun k d hm => hs0.ok k d (hR _ hm)
  have hRr : ∀ g d, (Key.r g, d) ∈ R → ∃ Rw, m.row g = some Rw ∧ RoOk m Im w Rw d := fun g d hm => hs0.ro g d (hR _ hm)
  let RB : Nat → Prop := fun b => ∃ g Rw, rowN R g = true ∧ m.row g = some Rw ∧ Rw.hv.ownBlock = some b
  have hnoj : ∀ X J, (Key.j, D.j X J) ∉ R := fun X J hm => by have := (w2 _ hm).2; cases this
  have hin : ∀ k b, inN R k = true → m.blk k = some b → Tch m R b := fun k b hk hb => by
    rcases of_rnames hk with ⟨off, d, hm⟩ | ⟨d, hm⟩
    · exact .inl ⟨k, off, d, hm, hb⟩
    · obtain ⟨b', q1, _⟩ := hRo _ _ hm
      have := hmem.dis k b hb
      rw [this] at q1; cases q1
  have hino : ∀ k b, inN R k = true → m.obj k = some b → Tch m R b := fun k b hk hb => by
    rcases of_rnames hk with ⟨off, d, hm⟩ | ⟨d, hm⟩
    · obtain ⟨b', v, q1, _⟩ := hRc _ _ _ hm
      have := hmem.dis k b' q1
      rw [this] at hb; cases hb
    · exact .inr (.inr ⟨k, d, hm, hb⟩)
  have hlt : ∀ k, inN R k = true → k < N0 := fun k hk => w5 k (by unfold inN at hk; rwa [List.contains_iff_mem] at hk)
  have hltr : ∀ g, rowN R g = true → g < N0 := fun g hg => (w6 g (by unfold rowN at hg; rwa [List.contains_iff_mem] at hg)).1
  have hTb : ∀ b k, Tch m R b → m.blk k = some b → inN R k = true := fun b k ht hk => by
    rcases ht with ⟨k', off, d, hm, hb⟩ | ⟨X, J, hm, _⟩ | ⟨k', d, hm, hb⟩
    · have := hmem.inj k k' b hk hb; subst this; exact mem_rnames hm
    · exact absurd hm (hnoj X J)
    · exact absurd hk (hmem.oblk k' k b hb)
  have hTo : ∀ b k, Tch m R b → m.obj k = some b → inN R k = true := fun b k ht hk => by
    rcases ht with ⟨k', off, d, hm, hb⟩ | ⟨X, J, hm, _⟩ | ⟨k', d, hm, hb⟩
    · exact absurd hb (hmem.oblk k k' b hk)
    · exact absurd hm (hnoj X J)
    · have := hmem.oinj k k' b hk hb; subst this; exact mem_rnamesO hm
  have hTr : ∀ b g Rw, Tch m R b → m.row g = some Rw → Rw.hv.ownBlock ≠ some b := fun b g Rw ht hg e => by
    rcases ht with ⟨k', off, d, hm, hb⟩ | ⟨X, J, hm, _⟩ | ⟨k', d, hm, hb⟩
    · exact hmem.rblk g Rw b k' hg e hb
    · exact absurd hm (hnoj X J)
    · exact hmem.orow k' g Rw b hb hg e
  have hTown : ∀ b, Tch m R b → cx.C b ∨ cx.w0.heap.size ≤ b := fun b ht => by
    rcases ht with ⟨k', off, d, hm, hb⟩ | ⟨X, J, hm, _⟩ | ⟨k', d, hm, hb⟩
    · exact hmem.own k' b hb
    · exact absurd hm (hnoj X J)
    · exact hmem.oown k' b hb
  have hTim : ∀ b o, Tch m R b → ¬ Im b o := fun b o ht => by
    rcases ht with ⟨k', off, d, hm, hb⟩ | ⟨X, J, hm, _⟩ | ⟨k', d, hm, hb⟩
    · exact hmem.nim k' b o hb
    · exact absurd hm (hnoj X J)
    · exact hmem.onim k' b o hb
  have hTX : ∀ b X J, Tch m R b → XOk cx m Im w X J → ¬ X b := fun b X J ht hX hb => by
    rcases ht with ⟨k', off, d, hm, hb'⟩ | ⟨X', J', hm, _⟩ | ⟨k', d, hm, hb'⟩
    · exact hX.blk b k' hb hb'
    · exact hnoj X' J' hm
    · exact hX.obj b k' hb hb'
  refine calls_of_wp hf hb ?_
  let cx' : Cx := { w0 := w, C := fun b => Tch m R b ∨ RB b, Im0 := Im, m0 := m.cut (inN R) (rowN R), nt := nt, n0 := N0, h0 := fun k b hk => hlt k (Mp.cut_blk hk).1, h0o := fun k b hk => hlt k (Mp.cut_obj hk).1, CR := RB, hCR := fun b h => .inr h, h0r := fun g Rw hg => hltr g (Mp.cut_row hg).1 }
  have hst : St cx' (fun k => N0 ≤ k) (m.cut (inN R) (rowN R)) Im w { tmps := vs.toArray ++ Array.replicate (fn.ntmps - vs.toArray.size) undef, defers := [] } (argsT 0 args R) := by
    have hvl : vs.length = args.length := (relL_iff.1 hargs).1
    refine ⟨{
      off := Off.refl _ _, im := hmem.im, imb := fun b o h => .inl h, im0 := fun b o h => h
      own := fun k b hk => .inl (.inl (hin k b (Mp.cut_blk hk).1 (Mp.cut_blk hk).2))
      lt := fun k b hk => hmem.lt k b (Mp.cut_blk hk).2
      free := fun k b o hk => hmem.free k b o (Mp.cut_blk hk).2
      nim := fun k b o hk => hmem.nim k b o (Mp.cut_blk hk).2
      inj := fun k k' b hk hk' => hmem.inj k k' b (Mp.cut_blk hk).2 (Mp.cut_blk hk').2
      row := fun g R hg => hmem.row g R (Mp.cut_row hg).2
      rIm := fun g R b o hg => hmem.rIm g R b o (Mp.cut_row hg).2
      rblk := fun g R b k hg hb hk => hmem.rblk g R b k (Mp.cut_row hg).2 hb (Mp.cut_blk hk).2
      rinj := fun g g' R R' b hg hg' => hmem.rinj g g' R R' b (Mp.cut_row hg).2 (Mp.cut_row hg').2
      fr := fun k hk => ⟨?f1, ?f2, ?f3⟩
      m0 := fun k b hk => hk
      m0o := fun k b hk => hk
      oown := fun k b hk => .inl (.inl (hino k b (Mp.cut_obj hk).1 (Mp.cut_obj hk).2))
      olt := fun k b hk => hmem.olt k b (Mp.cut_obj hk).2
      onim := fun k b o hk => hmem.onim k b o (Mp.cut_obj hk).2
      oinj := fun k k' b hk hk' => hmem.oinj k k' b (Mp.cut_obj hk).2 (Mp.cut_obj hk').2
      oblk := fun k k' b hk hk' => hmem.oblk k k' b (Mp.cut_obj hk).2 (Mp.cut_blk hk').2
      orow := fun k g R b hk hg => hmem.orow k g R b (Mp.cut_obj hk).2 (Mp.cut_row hg).2
      dis := fun k b hk => ?dis
      k0 := KeepI.refl _ _
      rown := fun g Rw b hg hb => .inr ⟨g, Rw, (Mp.cut_row hg).1, (Mp.cut_row hg).2, hb⟩
      m0r := fun g Rw hg => ⟨Rw, hg, Nat.le_refl _, fun _ => rfl⟩ }, rfl, ?sz, fun x d hx => ?tm, fun k off d hx => ?ce, fun g d hx => ?ro, fun d hx => ?jk, fun k d hx => ?okk⟩
    case f1 =>
      by_cases hk2 : inN R k = true
      · have := hlt k hk2; omega
      · simp [Mp.cut, hk2]
    case f2 =>
      by_cases hk2 : rowN R k = true
      · have := hltr k hk2; omega
      · simp [Mp.cut, hk2]
    case f3 =>
      by_cases hk2 : inN R k = true
      · have := hlt k hk2; omega
      · simp [Mp.cut, hk2]
    case dis =>
      have := hmem.dis k b (Mp.cut_blk hk).2
      show (if _ then m.obj k else none) = none
      rw [this]; simp
    case sz => simp [cx', hvl, hnt]; omega
    case tm =>
      rcases get_argsT args 0 x hx with ⟨j, h1, h2⟩ | hx
      · have hj : j < args.length := by
          rcases Nat.lt_or_ge j args.length with h' | h'
          · exact h'
          · rw [List.getElem?_eq_none h'] at h2; cases h2
        rw [List.getElem?_eq_getElem hj] at h2
        cases h2
        have hr := (relL_iff.1 hargs).2 j hj
        have hx' : x = j := by omega
        subst hx'
        have : (vs.toArray ++ Array.replicate (fn.ntmps - vs.toArray.size) undef).getD x undef = vs.getD x undef := by
          have hx2 : x < vs.length := by omega
          rw [Array.getD_eq_getD_getElem?, Array.getElem?_append_left (by simpa using hx2), List.getD_eq_getElem?_getD]
          simp
        show Rel _ _ _ ((vs.toArray ++ Array.replicate (fn.ntmps - vs.toArray.size) undef).getD x undef) _
        rw [this]
        exact hr.cut (w1 _ (List.getElem_mem hj))
      · have := (w2 _ (mem_of_get hx)).2
        cases this
    case ce =>
      rw [get_argsN (fun x => by simp) args 0] at hx
      have hm := mem_of_get hx
      obtain ⟨b, v, q1, q2, q3⟩ := hRc _ _ _ hm
      exact ⟨b, v, by simp only [Mp.cut, mem_rnames hm, if_true]; exact q1, q2, q3.cut (w2 _ hm).1⟩
    case ro =>
      rw [get_argsN (fun x => by simp) args 0] at hx
      have hm := mem_of_get hx
      obtain ⟨Rw, q1, q2⟩ := hRr _ _ hm
      exact ⟨Rw, by simp only [Mp.cut, mem_rowsR hm, if_true]; exact q1, q2.cut (w2 _ hm).1⟩
    case jk =>
      rw [get_argsN (fun x => by simp) args 0] at hx
      have := (w2 _ (mem_of_get hx)).2
      cases this
    case okk =>
      rw [get_argsN (fun x => by simp) args 0] at hx
      have hm := mem_of_get hx
      obtain ⟨b, q1, q2⟩ := hRo _ _ hm
      exact ⟨b, by simp only [Mp.cut, mem_rnamesO hm, if_true]; exact q1, q2.cut (w2 _ hm).1⟩
  refine Code.wp_mono (fun e a' w' ⟨σ', N', m', Im', ⟨hq1, ⟨V', hq2, hq3⟩, hq4⟩, hs⟩ => ?_) (h cx' rfl rfl _ Im w _ hst)
  obtain ⟨v, r1, r2⟩ := resD_run (P := P) (fn := fn) hT hs (by rw [hrs]; exact hq2)
  have hmem' := hs.mem
  have hoff : Off (fun b => Tch m R b ∨ RB b) w w' := hmem'.off
  have hki : KeepI Im w w' := hmem'.k0
  have hi : ∀ b o, Im b o → Im' b o := hmem'.im0
  have hib : ∀ b o, Im' b o → Im b o ∨ w.heap.size ≤ b ∨ RB b := hmem'.imb
  have hrown : ∀ g Rw b, m'.row g = some Rw → Rw.hv.ownBlock = some b → w.heap.size ≤ b ∨ RB b := hmem'.rown
  have hsame : ∀ b, b < w.heap.size → ¬ Tch m R b → ¬ RB b → w'.heap[b]? = w.heap[b]? := fun b hb h1 h2 => hoff.block b hb fun h => h.elim h1 h2
  have hmb : ∀ k b, inN R k = true → m.blk k = some b → m'.blk k = some b := fun k b hk hb => hmem'.m0 k b (by show (m.cut (inN R) (rowN R)).blk k = some b; simp [Mp.cut, hk, hb])
  have hmo : ∀ k b, inN R k = true → m.obj k = some b → m'.obj k = some b := fun k b hk hb => hmem'.m0o k b (by show (m.cut (inN R) (rowN R)).obj k = some b; simp [Mp.cut, hk, hb])
  have hm' : ∀ k b, inN R k = true → m'.blk k = some b → m.blk k = some b := fun k b hk hb => by
    rcases of_rnames hk with ⟨off, d, hm⟩ | ⟨d, hm⟩
    · obtain ⟨b', _, q1, _⟩ := hRc _ _ _ hm
      have := hmb k b' hk q1
      rw [this] at hb; cases hb; exact q1
    · obtain ⟨b', q1, _⟩ := hRo _ _ hm
      have := hmo k b' hk q1
      rw [hmem'.dis k b hb] at this; cases this
  have hmo' : ∀ k b, inN R k = true → m'.obj k = some b → m.obj k = some b := fun k b hk hb => by
    rcases of_rnames hk with ⟨off, d, hm⟩ | ⟨d, hm⟩
    · obtain ⟨b', _, q1, _⟩ := hRc _ _ _ hm
      have := hmb k b' hk q1
      rw [hmem'.dis k b' this] at hb; cases hb
    · obtain ⟨b', q1, _⟩ := hRo _ _ hm
      have := hmo k b' hk q1
      rw [this] at hb; cases hb; exact q1
  let m2 : Mp := ⟨m.blk, fun g => if rowN R g then m'.row g else m.row g, m.obj⟩
  have h2r : ∀ {g Rw}, m2.row g = some Rw → (rowN R g = true ∧ m'.row g = some Rw) ∨ (rowN R g = false ∧ m.row g = some Rw) := fun {g Rw} hg => by
    cases hr : rowN R g with
    | true => left; simp [m2, hr] at hg; exact ⟨rfl, hg⟩
    | false => right; simp [m2, hr] at hg; exact ⟨rfl, hg⟩
  have hRBr : ∀ b g Rw, RB b → m.row g = some Rw → Rw.hv.ownBlock = some b → rowN R g = true := fun b g Rw ⟨g2, R2, q1, q2, q3⟩ hg ho => by
    have := hmem.rinj g2 g R2 Rw b q2 hg q3 ho
    subst this; exact q1
  have hRBb : ∀ b k, RB b → m.blk k ≠ some b := fun b k ⟨g2, R2, q1, q2, q3⟩ => hmem.rblk g2 R2 b k q2 q3
  have hRBo : ∀ b k, RB b → m.obj k ≠ some b := fun b k ⟨g2, R2, q1, q2, q3⟩ hk => hmem.orow k g2 R2 b hk q2 q3
  have hRBw : ∀ b, RB b → cx.w0.heap.size ≤ b ∨ cx.CR b := fun b ⟨g2, R2, q1, q2, q3⟩ => hmem.rown g2 R2 b q2 q3
  have hrlt : ∀ g Rw b, m.row g = some Rw → Rw.hv.ownBlock = some b → b < w.heap.size := fun g Rw b hg ho => by
    obtain ⟨xs, hx⟩ := hmem.row g Rw hg
    exact (row_lt hx ho).2
  have hle : m.le m2 := ⟨fun _ _ h => h, fun g Rw hg => by
    cases hr : rowN R g with
    | true =>
      obtain ⟨R', q1, q2⟩ := hmem'.m0r g Rw (by show (m.cut (inN R) (rowN R)).row g = some Rw; simp [Mp.cut, hr, hg])
      exact ⟨R', by simp [m2, hr, q1], q2⟩
    | false => exact ⟨Rw, by simp [m2, hr, hg], Nat.le_refl _, fun _ => rfl⟩, fun _ _ h => h⟩
  have hcutle : (m'.cut (inN R) (rowN R)).le m2 := ⟨fun k b hk => hm' k b (Mp.cut_blk hk).1 (Mp.cut_blk hk).2, fun g Rw hg => ⟨Rw, by simp [m2, (Mp.cut_row hg).1, (Mp.cut_row hg).2], Nat.le_refl _, fun _ => rfl⟩, fun k b hk => hmo' k b (Mp.cut_obj hk).1 (Mp.cut_obj hk).2⟩
  have hrel : ∀ {x d}, Rel m' Im' w' x d → d.ok (inN R) (rowN R) = true → Rel m2 Im' w' x d := fun hx hd => (hx.cut hd).mono hcutle (KeepI.refl _ _) fun _ _ h => h
  have hmono : ∀ {x d}, Rel m Im w x d → Rel m2 Im' w' x d := fun hx => hx.mono hle hki hi
  have hmem2 : MemOk cx Fr m2 Im' w' := {
    off := ⟨hoff.os.trans hmem.off.os, hoff.tape.trans hmem.off.tape, hoff.output.trans hmem.off.output, Nat.le_trans hmem.off.size hoff.size, fun b hb hC => (hsame b (Nat.lt_of_lt_of_le hb hmem.off.size) (fun h => (hTown b h).elim hC fun h => Nat.lt_irrefl _ (Nat.lt_of_lt_of_le hb h)) (fun h => (hRBw b h).elim (fun h => Nat.lt_irrefl _ (Nat.lt_of_lt_of_le hb h)) fun h => hC (cx.hCR b h))).trans (hmem.off.block b hb hC)⟩
    im := hmem'.im
    imb := fun b o hh => by
      rcases hib b o hh with h1 | h1 | h1
      · exact hmem.imb b o h1
      · exact .inr (.inl (Nat.le_trans hmem.off.size h1))
      · exact .inr (hRBw b h1)
    im0 := fun b o hh => hi b o (hmem.im0 b o hh)
    own := hmem.own
    lt := fun k b hk => Nat.lt_of_lt_of_le (hmem.lt k b hk) hoff.size
    free := fun k b o hk => by
      cases hn : inN R k with
      | true => exact hmem'.free k b o (hmb k b hn hk)
      | false => exact (World.frozen?_of_block (a := ⟨b, o, none⟩) (hsame b (hmem.lt k b hk) (fun h => by rw [hTb b k h hk] at hn; cases hn) fun h => hRBb b k h hk)).trans (hmem.free k b o hk)
    nim := fun k b o hk hh => by
      cases hn : inN R k with
      | true => exact hmem'.nim k b o (hmb k b hn hk) hh
      | false =>
        rcases hib b o hh with h1 | h1 | h1
        · exact hmem.nim k b o hk h1
        · have := hmem.lt k b hk; omega
        · exact hRBb b k h1 hk
    inj := hmem.inj
    row := fun g Rw hg => by
      rcases h2r hg with ⟨_, hg⟩ | ⟨hn, hg⟩
      · exact hmem'.row g Rw hg
      · obtain ⟨xs, hx⟩ := hmem.row g Rw hg
        refine ⟨xs, hx.1, ?_⟩
        rcases hx.2 with h0 | ⟨g', cap, cur, e, h1, h2, h3⟩
        · exact .inl h0
        · refine .inr ⟨g', cap, cur, e, h1, ?_, h3⟩
          have ho : Rw.hv.ownBlock = some g' := by rw [e]; rfl
          rw [hsame g' (lt_of_block h2) (fun ht => hTr g' g Rw ht hg ho) fun ht => by rw [hRBr g' g Rw ht hg ho] at hn; cases hn]; exact h2
    rIm := fun g Rw b o hg ho hh => by
      rcases h2r hg with ⟨_, hg⟩ | ⟨hn, hg⟩
      · exact hmem'.rIm g Rw b o hg ho hh
      · rcases hib b o hh with h1 | h1 | h1
        · exact hmem.rIm g Rw b o hg ho h1
        · have := hrlt g Rw b hg ho; omega
        · rw [hRBr b g Rw h1 hg ho] at hn; cases hn
    rblk := fun g Rw b k hg ho hk => by
      rcases h2r hg with ⟨_, hg⟩ | ⟨hn, hg⟩
      · rcases hrown g Rw b hg ho with h1 | h1
        · have := hmem.lt k b hk; omega
        · exact hRBb b k h1 hk
      · exact hmem.rblk g Rw b k hg ho hk
    rinj := fun g g' Rw Rw' b hg hg' ho ho' => by
      rcases h2r hg with ⟨hn, hg⟩ | ⟨hn, hg⟩ <;> rcases h2r hg' with ⟨hn', hg'⟩ | ⟨hn', hg'⟩
      · exact hmem'.rinj g g' Rw Rw' b hg hg' ho ho'
      · rcases hrown g Rw b hg ho with h1 | h1
        · have := hrlt g' Rw' b hg' ho'; omega
        · rw [hRBr b g' Rw' h1 hg' ho'] at hn'; cases hn'
      · rcases hrown g' Rw' b hg' ho' with h1 | h1
        · have := hrlt g Rw b hg ho; omega
        · rw [hRBr b g Rw h1 hg ho] at hn; cases hn
      · exact hmem.rinj g g' Rw Rw' b hg hg' ho ho'
    fr := fun k hk => ⟨(hmem.fr k hk).1, by
      cases hn : rowN R k with
      | true =>
        obtain ⟨d, hm⟩ := of_rowsR hn
        obtain ⟨Rw, q1, _⟩ := hRr _ _ hm
        rw [(hmem.fr k hk).2.1] at q1; cases q1
      | false => simp [m2, hn, (hmem.fr k hk).2.1], (hmem.fr k hk).2.2⟩
    m0 := hmem.m0
    m0o := hmem.m0o
    oown := hmem.oown
    olt := fun k b hk => Nat.lt_of_lt_of_le (hmem.olt k b hk) hoff.size
    onim := fun k b o hk hh => by
      cases hn : inN R k with
      | true => exact hmem'.onim k b o (hmo k b hn hk) hh
      | false =>
        rcases hib b o hh with h1 | h1 | h1
        · exact hmem.onim k b o hk h1
        · have := hmem.olt k b hk; omega
        · exact hRBo b k h1 hk
    oinj := hmem.oinj
    oblk := hmem.oblk
    orow := fun k g Rw b hk hg ho => by
      rcases h2r hg with ⟨_, hg⟩ | ⟨hn, hg⟩
      · rcases hrown g Rw b hg ho with h1 | h1
        · have := hmem.olt k b hk; omega
        · exact hRBo b k h1 hk
      · exact hmem.orow k g Rw b hk hg ho
    dis := hmem.dis
    k0 := hmem.k0.trans (hki.weaken hmem.im0)
    rown := fun g Rw b hg ho => by
      rcases h2r hg with ⟨_, hg⟩ | ⟨hn, hg⟩
      · rcases hrown g Rw b hg ho with h1 | h1
        · exact .inl (Nat.le_trans hmem.off.size h1)
        · exact hRBw b h1
      · exact hmem.rown g Rw b hg ho
    m0r := hmem.m0r_le hle }
  have hg0 : ∀ k, get (dropT R σ) k = if touches R k then none else get σ k := fun k => by
    unfold dropT
    rw [get_filter (fun k => !touches R k)]
    cases touches R k <;> rfl
  let keep : Key → Bool := fun k => match k with | .r g => !rowN R g | _ => true
  have hg1 : ∀ k, get ((dropT R σ).filter fun p => keep p.1) k = if keep k then get (dropT R σ) k else none := fun k => get_filter keep _ k
  have hst1 : St cx Fr m2 Im' w' a ((dropT R σ).filter fun p => keep p.1) := by
    refine ⟨hmem2, hs0.df, hs0.nt, fun x d hx => ?_, fun k off d hx => ?_, fun g d hx => ?_, fun d hx => ?_, fun k d hx => ?_⟩
    · rw [hg1, if_pos rfl, hg0] at hx; simp only [touches] at hx; exact hmono (hs0.tm x d hx)
    · rw [hg1, if_pos rfl, hg0] at hx
      by_cases ht : touches R (.c k off) = true
      · rw [if_pos ht] at hx; cases hx
      · rw [if_neg ht] at hx
        obtain ⟨b, u, q1, q2, q3⟩ := hs0.ce k off d hx
        refine ⟨b, u, q1, ?_, hmono q3⟩
        refine (World.cell?_of_block (a := ⟨b, off, none⟩) (hsame b (ltOfCell q2) (fun hb => ?_) fun hb => hRBb b k hb q1)).trans q2
        rcases hb with ⟨k', off', d', hm, hb⟩ | ⟨X, J, hm, hb⟩ | ⟨k', d', hm, hb⟩
        · have := hmem.inj k k' b q1 hb
          subst this
          exact ht (by simp only [touches, List.any_eq_true]; exact ⟨_, hm, by simp⟩)
        · exact absurd hm (hnoj X J)
        · exact hmem.oblk k' k b hb q1
    · rw [hg1] at hx
      cases hn : rowN R g with
      | true => simp [keep, hn] at hx
      | false =>
        rw [if_pos (by simp [keep, hn]), hg0] at hx; simp only [touches] at hx
        obtain ⟨Rw, q1, q2⟩ := hs0.ro g d hx
        exact ⟨Rw, by simp [m2, hn, q1], q2.mono (fun b hb => hsame b (hmem.rlt q1 hb) (fun ht => hTr b g Rw ht q1 hb) fun ht => by rw [hRBr b g Rw ht q1 hb] at hn; cases hn) hle hki hi fun b o hb hh => (hib b o hh).elim id fun h2 => h2.elim (fun h2 => absurd (hmem.rlt q1 hb) (Nat.not_lt.2 h2)) fun ht => by rw [hRBr b g Rw ht q1 hb] at hn; cases hn⟩
    · rw [hg1, if_pos rfl, hg0] at hx
      have ht : touches R .j = false := by
        cases ht : touches R .j with
        | false => rfl
        | true =>
          simp only [touches, List.any_eq_true] at ht
          obtain ⟨⟨k, d'⟩, hp, hj⟩ := ht
          cases k <;> simp [isJ] at hj
          have := (w2 _ hp).2; cases this
      rw [ht] at hx
      obtain ⟨X, J, e, hX⟩ := hs0.jk d hx
      have hRX : ∀ b, X b → ¬ RB b := fun b hb ⟨g2, R2, q1, q2, q3⟩ => hX.row b g2 R2 hb q2 q3
      have hxs : ∀ b, X b → w'.heap[b]? = w.heap[b]? := fun b hb => hsame b (hX.lt b hb) (fun ht => hTX b X J ht hX hb) (hRX b hb)
      refine ⟨X, J, e, hX.stable _ hoff.size hxs, fun w2 hs2 hx2 => hX.stable w2 (Nat.le_trans hoff.size hs2) fun b hb => (hx2 b hb).trans (hxs b hb), fun b hb => Nat.lt_of_lt_of_le (hX.lt b hb) hoff.size, hX.own, fun b o hb hh => ?_, hX.blk, fun b g Rw hb hg ho => ?_, hX.obj⟩
      · rcases hib b o hh with h1 | h1 | h1
        · exact hX.nim b o hb h1
        · have := hX.lt b hb; omega
        · exact hRX b hb h1
      · rcases h2r hg with ⟨_, hg⟩ | ⟨hn, hg⟩
        · rcases hrown g Rw b hg ho with h1 | h1
          · have := hX.lt b hb; omega
          · exact hRX b hb h1
        · exact hX.row b g Rw hb hg ho
    · rw [hg1, if_pos rfl, hg0] at hx
      by_cases ht : touches R (.o k) = true
      · rw [if_pos ht] at hx; cases hx
      · rw [if_neg ht] at hx
        obtain ⟨b, q1, q2⟩ := hs0.ok k d hx
        refine ⟨b, q1, q2.mono (hsame b (hmem.olt k b q1) (fun hT => ?_) fun hb => hRBo b k hb q1) hle hki hi⟩
        rcases hT with ⟨k', off', d', hm, hb'⟩ | ⟨X', J', hm, hb'⟩ | ⟨k', d', hm, hb'⟩
        · exact hmem.oblk k k' b q1 hb'
        · exact hnoj X' J' hm
        · have := hmem.oinj k k' b q1 hb'
          subst this
          exact ht (by simp only [touches, List.any_eq_true]; exact ⟨_, hm, by simp⟩)
  have hW : Holds cx m2 Im' w' W := fun p hp => by
    have hok := w3 p hp
    have hg := hq4 p hp
    obtain ⟨key, d⟩ := p
    cases key with
    | c k off =>
      have hk : inN R k = true := hok.2
      rcases hg with hg | ⟨d', hg, e, _⟩
      · obtain ⟨b, x, q1, q2, q3⟩ := hs.ce k off d hg
        exact ⟨b, x, hm' k b hk q1, q2, hrel q3 hok.1⟩
      · obtain ⟨b, x, q1, q2, q3⟩ := hs.ce k off d' hg
        exact ⟨b, x, hm' k b hk q1, q2, hrel (e _ _ _ _ q3) hok.1⟩
    | o k =>
      have hk : inN R k = true := hok.2
      rcases hg with hg | ⟨d', hg, e, hf⟩
      · obtain ⟨b, q1, q2⟩ := hs.ok k d hg
        exact ⟨b, hmo' k b hk q1, (q2.cut hok.1).mono rfl hcutle (KeepI.refl _ _) fun _ _ h => h⟩
      · exact hf.elim
    | r g =>
      have hk : rowN R g = true := hok.2
      rcases hg with hg | ⟨d', hg, e, hf⟩
      · obtain ⟨Rw, q1, q2⟩ := hs.ro g d hg
        exact ⟨Rw, by simp [m2, hk, q1], (q2.cut hok.1).mono (fun _ _ => rfl) hcutle (KeepI.refl _ _) (fun _ _ h => h) fun _ _ _ h => h⟩
      · exact hf.elim
    | j => cases hok.2
    | t x => cases hok.2
  have hst2 := (hst1.putHolds hW).sub (σ' := puts (dropT R σ) W) fun k d hk => by
    by_cases hW : ∃ p ∈ W, p.1 = k
    · rw [← hk]; exact get_puts_in W _ _ k hW
    · have hW' : ∀ p ∈ W, p.1 ≠ k := fun p hp e => hW ⟨p, hp, e⟩
      rw [get_puts_not W _ _ hW'] at hk ⊢
      rw [hg1, if_pos]
      · exact hk
      · cases k with
        | r g =>
          show (!rowN R g) = true
          cases hn : rowN R g with
          | false => rfl
          | true =>
            have := (w6 g (by unfold rowN at hn; rwa [List.contains_iff_mem] at hn)).2
            simp only [List.any_eq_true] at this
            obtain ⟨p, hp, e⟩ := this
            exact absurd (Key.eq_iff.1 e) (hW' p hp)
        | _ => rfl
  have hfin : ∃ v' m2 Im2, Ending.returned v = .returned v' ∧ St cx Fr m2 Im2 w' a (puts (dropT R σ) W) ∧ Rel m2 Im2 w' v' V :=
    ⟨v, m2, Im', rfl, hst2, hrel (hq3 _ _ _ _ r2) w4⟩
  rcases hq1 with rfl | rfl
  · exact ⟨hs.df, v, r1, hfin⟩
  · exact ⟨hs.df, v, r1, hfin⟩
end Go.Proofs.Ytdmiekaeodcehaa

namespace Go.Proofs.Ytdmiekaeodcehaa
open Go.RowKit

theorem VLe.ps0 (n g : Nat) : VLe (.sl n [] (some g)) (.ps g 0) := fun m Im w x h => by
  cases h with
  | sl a c bl off n X l r h1 ha hc hn ho hr hg => exact .ps a c g 0 (fun h => absurd h (by omega)) (Nat.zero_le _) (hg g rfl)
section
variable {P : Program} {T : List (Nat × TI)} {cx : Cx} {Fr Fr' : Nat → Prop} {m m' : Mp} {Im Im' : Nat → Nat → Prop} {w w' : World} {a : Act} {σ σ' τ : List (Key × D)} {N N' : Nat} {Q : Exit → List (Key × D) → Nat → Prop}
theorem VS.thaw {g E n : Nat} (h : get σ (.r g) = some (.rw E n 0)) : VS cx σ N (put1 (.r g) (.rp E n []) σ) N := fun m Im w a hs => by
  obtain ⟨R, hR, hro⟩ := hs.ro g _ h
  have e := hro.rwi
  injection e with e1 e2 e3
  obtain ⟨xs, hx⟩ := hs.mem.row g R hR
  have hxs : xs = [] := by
    have := hx.1
    rw [← e3, Nat.zero_mul] at this
    exact List.length_eq_zero_iff.1 this
  subst hxs
  refine ⟨m, hs.putro hR ?_⟩
  rw [e1, e2]
  refine .rp (R := R) [] [] (by rw [← e3]; rfl) (fun i h => absurd h (by simp)) hx (fun u h => absurd h (by simp)) (fun i h => absurd h (by simp)) fun b o hb hi => ?_
  have := hs.mem.rIm g R b o hR hb hi
  rw [← e3, Nat.zero_mul] at this
  omega
theorem VS.rowPT {x : Nat} (hx : x < cx.nt) (E n : Nat) (h : get σ (.t x) = some (.v (.slice none 0 0))) : VS cx σ N (put1 (.r N) (.rp E n []) (put1 (.t x) (.ps N 0) σ)) (N + 1) := fun m Im w a hs => by
  obtain ⟨m', h'⟩ := ((VS.rowT (N := N) hx E n h).trans (VS.thaw (g := N) (E := E) (n := n) (by rw [get_put1, if_pos (Key.eq_refl _)]))) m Im w a hs
  refine ⟨m', { h' with tm := fun y d hy => ?_, ce := fun k off d hy => ?_, ro := fun g d hy => ?_, jk := fun d hy => ?_, ok := fun k d hy => ?_ }⟩
  · rw [get_put1, if_neg (by simp [Key.eq]), get_put1] at hy
    by_cases e : Key.eq (.t x) (.t y) = true
    · rw [if_pos e] at hy
      have := Key.eq_iff.1 e; cases this
      cases hy
      exact VLe.ps0 n N _ _ _ _ (h'.tm x _ (by rw [get_put1, if_neg (by simp [Key.eq]), get_put1, if_neg (by simp [Key.eq]), get_put1, if_pos (Key.eq_refl _)]))
    · rw [if_neg e] at hy
      exact h'.tm y d (by rw [get_put1, if_neg (by simp [Key.eq]), get_put1, if_neg (by simp [Key.eq]), get_put1, if_neg e]; exact hy)
  · rw [get_put1, if_neg (by simp [Key.eq]), get_put1, if_neg (by simp [Key.eq])] at hy
    exact h'.ce k off d (by rw [get_put1, if_neg (by simp [Key.eq]), get_put1, if_neg (by simp [Key.eq]), get_put1, if_neg (by simp [Key.eq])]; exact hy)
  · refine h'.ro g d ?_
    rw [get_put1] at hy ⊢
    split
    · rename_i e; rw [if_pos e] at hy; exact hy
    · rename_i e
      rw [if_neg e, get_put1, if_neg (by simp [Key.eq])] at hy
      rw [get_put1, if_neg e, get_put1, if_neg (by simp [Key.eq])]; exact hy
  · rw [get_put1, if_neg (by simp [Key.eq]), get_put1, if_neg (by simp [Key.eq])] at hy
    exact h'.jk d (by rw [get_put1, if_neg (by simp [Key.eq]), get_put1, if_neg (by simp [Key.eq]), get_put1, if_neg (by simp [Key.eq])]; exact hy)
  · rw [get_put1, if_neg (by simp [Key.eq]), get_put1, if_neg (by simp [Key.eq])] at hy
    exact h'.ok k d (by rw [get_put1, if_neg (by simp [Key.eq]), get_put1, if_neg (by simp [Key.eq]), get_put1, if_neg (by simp [Key.eq])]; exact hy)
theorem St.freeze (h : St cx Fr m Im w a σ) {g E n : Nat} {l : List (List D)} (hg : get σ (.r g) = some (.rp E n l)) :
    ∃ Im', (∀ b o, Im b o → Im' b o) ∧ St cx Fr m Im' w a (put1 (.r g) (.rw E n l.length) σ) ∧ ∀ x, Rel m Im w x (.ps g l.length) → Rel m Im' w x (.sl n l (some g)) := by
  obtain ⟨R, hR, hro⟩ := h.ro g _ hg
  cases hro with
  | rp _ xs hl hn hown h1 hrr hni =>
  have hi : ∀ b o, Im b o → Im b o ∨ (R.hv.ownBlock = some b ∧ o < R.len * R.n) := fun _ _ h => .inl h
  have hmono : ∀ {x d}, Rel m Im w x d → Rel m (fun b o => Im b o ∨ (R.hv.ownBlock = some b ∧ o < R.len * R.n)) w x d := fun hx => hx.mono (Mp.le.refl m) (KeepI.refl _ _) hi
  have hcell : ∀ b o, R.hv.ownBlock = some b → o < R.len * R.n → ∃ v, xs[o]? = some v ∧ w.cell? ⟨b, o, none⟩ = some v := fun b o hb ho => by
    have hlt : o < xs.length := by rw [hown.1]; exact ho
    have := hown.cells hb o _ (List.getElem?_eq_getElem hlt)
    rw [addr_add0] at this
    exact ⟨_, List.getElem?_eq_getElem hlt, this⟩
  refine ⟨fun b o => Im b o ∨ (R.hv.ownBlock = some b ∧ o < R.len * R.n), hi, ?_, fun x hx => ?_⟩
  · have hs : St cx Fr m (fun b o => Im b o ∨ (R.hv.ownBlock = some b ∧ o < R.len * R.n)) w a (σ.filter fun p => !Key.eq (.r g) p.1) := by
      have hf : ∀ k d, get (σ.filter fun p => !Key.eq (.r g) p.1) k = some d → Key.eq (.r g) k = false ∧ get σ k = some d := fun k d hk => by
        rw [get_filter (fun k => !Key.eq (.r g) k)] at hk
        split at hk
        · rename_i e; exact ⟨by simpa using e, hk⟩
        · cases hk
      refine ⟨{ h.mem with im := ?_, imb := ?_, im0 := ?_, nim := ?_, rIm := ?_, onim := ?_ }, h.df, h.nt, fun x d hx => hmono (h.tm x d (hf _ _ hx).2), fun k off d hx => ?_, fun x d hx => ?_, fun d hd => ?_, fun k d hx => ?_⟩
      · rintro b o (hh | ⟨hb, ho⟩)
        · exact h.mem.im b o hh
        · obtain ⟨v, _, hv⟩ := hcell b o hb ho; exact ⟨v, hv⟩
      · rintro b o (hh | ⟨hb, ho⟩)
        · exact h.mem.imb b o hh
        · exact .inr (h.mem.rown g R b hR hb)
      · intro b o hh; exact .inl (h.mem.im0 b o hh)
      · rintro k b o hk (hh | ⟨hb, ho⟩)
        · exact h.mem.nim k b o hk hh
        · exact h.mem.rblk g R b k hR hb hk
      · rintro x R0 b o hx hb0 (hh | ⟨hb, ho⟩)
        · exact h.mem.rIm x R0 b o hx hb0 hh
        · have := h.mem.rinj x g R0 R b hx hR hb0 hb
          subst this
          rw [hR] at hx; cases hx; exact ho
      · rintro k b o hk (hh | ⟨hb, ho⟩)
        · exact h.mem.onim k b o hk hh
        · exact h.mem.orow k g R b hk hR hb
      · obtain ⟨b, v, q1, q2, q3⟩ := h.ce k off d (hf _ _ hx).2
        exact ⟨b, v, q1, q2, hmono q3⟩
      · obtain ⟨e, hx⟩ := hf _ _ hx
        obtain ⟨R0, q1, q2⟩ := h.ro x d hx
        have hne : x ≠ g := fun e2 => by subst e2; rw [Key.eq_refl] at e; cases e
        refine ⟨R0, q1, q2.mono (fun _ _ => rfl) (Mp.le.refl m) (KeepI.refl _ _) hi ?_⟩
        rintro b o hb0 (hh | ⟨hb, ho⟩)
        · exact hh
        · exact absurd (h.mem.rinj x g R0 R b q1 hR hb0 hb) hne
      · obtain ⟨X, J, e, hX⟩ := h.jk d (hf _ _ hd).2
        refine ⟨X, J, e, { hX with nim := ?_ }⟩
        rintro b o hb (hh | ⟨hb2, ho⟩)
        · exact hX.nim b o hb hh
        · exact hX.row b g R hb hR hb2
      · obtain ⟨b, q1, q2⟩ := h.ok k d (hf _ _ hx).2
        exact ⟨b, q1, q2.mono rfl (Mp.le.refl m) (KeepI.refl _ _) hi⟩
    have h2 := hs.putro hR (RoOk.rw (m := m) (Im := fun b o => Im b o ∨ (R.hv.ownBlock = some b ∧ o < R.len * R.n)) (w := w) (R := R))
    rw [hl]
    refine h2.sub fun k d hk => ?_
    rw [get_put1] at hk ⊢
    split
    · rename_i e; rw [if_pos e] at hk; exact hk
    · rename_i e; rw [if_neg e] at hk
      rw [get_filter (fun k => !Key.eq (.r g) k), if_pos (by simpa using e)]; exact hk
  · cases hx with
    | ps a0 c0 _ _ ha _ hh =>
    obtain ⟨R0, p1, p2, p3⟩ := hh
    rw [hR] at p1; cases p1
    have hv := p3 hl
    have hc : l.length ≤ maxLen ∧ l.length ≤ c0 := by
      rcases hown.2 with ⟨e, h0⟩ | ⟨g', cap, cur, e, _, _, hnc, hcm, _⟩
      · rw [hl, h0]; omega
      · rw [e] at hv; injection hv with _ _ q; rw [hl, ← q]; exact ⟨by omega, hnc⟩
    have hij : ∀ i j, i < l.length → j < R.n → i * R.n + j < R.len * R.n := fun i j hi2 hj => by
      have : (i + 1) * R.n ≤ R.len * R.n := Nat.mul_le_mul_right _ (by omega)
      rw [Nat.succ_mul] at this; omega
    have hgd : ∀ i j, i < l.length → j < R.n → xs[i * R.n + j]? = some (xs.getD (i * R.n + j) undef) := fun i j hi2 hj => by
      have : i * R.n + j < xs.length := by rw [hown.1]; exact hij i j hi2 hj
      rw [List.getD_eq_getElem?_getD, List.getElem?_eq_getElem this]; rfl
    obtain ⟨bl, hbl⟩ : ∃ bl, 0 < l.length → a0 = some ⟨bl, 0, none⟩ := by
      by_cases h0 : 0 < l.length
      · obtain ⟨b, hb⟩ := ha h0; exact ⟨b, fun _ => hb⟩
      · exact ⟨0, fun h => absurd h h0⟩
    have hob : 0 < l.length → R.hv.ownBlock = some bl := fun h0 => by rw [hv, hbl h0]; rfl
    refine .sl a0 c0 bl 0 R.n (fun i j => xs.getD (i * R.n + j) undef) l (some g) hc hbl (fun i j hi2 hj => ?_) hn (fun i j hi2 hj => ?_) (fun i hi2 j hj => ?_) fun r e => ?_
    · have h0 := hob (by omega)
      obtain ⟨v, q1, q2⟩ := hcell bl _ h0 (hij i j hi2 hj)
      rw [hgd i j hi2 hj] at q1; cases q1
      rw [Nat.zero_add]
      exact ⟨q2, .inr ⟨h0, hij i j hi2 hj⟩⟩
    · exact h1 _ (List.mem_of_getElem? (hgd i j hi2 hj))
    · exact hmono (hrr i hi2 j hj)
    · cases e; exact ⟨R, hR, by omega, fun _ => hv⟩
theorem dw_freeze {c : Code} {x g E n len : Nat} {l : List (List D)} (hx : get σ (.t x) = some (.ps g len)) (hg : get σ (.r g) = some (.rp E n l)) (hl : l.length = len) (h : DW P cx c (put1 (.t x) (.sl n l (some g)) (put1 (.r g) (.rw E n l.length) σ)) N Q) : DW P cx c σ N Q := fun m Im w a hs => by
  obtain ⟨Im', hi, h2, h3⟩ := hs.freeze hg
  subst hl
  have hr := h3 _ (hs.tm x _ hx)
  refine h m Im' w a { h2 with tm := fun y d hy => ?_, ce := fun k off d hy => ?_, ro := fun k d hy => ?_, jk := fun d hy => ?_, ok := fun k d hy => ?_ }
  · rw [get_put1] at hy
    by_cases e : Key.eq (.t x) (.t y) = true
    · rw [if_pos e] at hy
      have := Key.eq_iff.1 e; cases this
      cases hy; exact hr
    · rw [if_neg e] at hy
      exact h2.tm y d hy
  · rw [get_put1, if_neg (by simp [Key.eq])] at hy; exact h2.ce k off d hy
  · rw [get_put1, if_neg (by simp [Key.eq])] at hy; exact h2.ro k d hy
  · rw [get_put1, if_neg (by simp [Key.eq])] at hy; exact h2.jk d hy
  · rw [get_put1, if_neg (by simp [Key.eq])] at hy; exact h2.ok k d hy
theorem cut_any (m m' : Mp) : (m.cut (fun _ => false) noR).le m' := ⟨fun k b h => by simp [Mp.cut] at h, fun g R h => by simp [Mp.cut, noR] at h, fun k b h => by simp [Mp.cut] at h⟩
theorem St.adopt {cx' : Cx} {a' : Act} (hs : St cx Fr m Im w a σ) {nm : Nat} (hnm : Fr nm) (hs' : St cx' Fr' m' Im' w' a' σ') (c3 : cx'.w0 = w) (c4 : ∀ b, ¬ cx'.C b) (c5 : cx'.Im0 = Im) {g : Nat} {R : RowM} {d : D} (hR : m'.row g = some R) (hro : RoOk m' Im' w' R d) (hd : d.ok (fun _ => false) noR = true) :
    St cx (minus Fr nm) (m.setR nm R) Im' w' a (put1 (.r nm) d σ) ∧ m.le (m.setR nm R) ∧ KeepI Im w w' ∧ ∀ b o, Im b o → Im' b o := by
  have hbl : Below w.heap.size w w' := by
    have ho := hs'.mem.off
    rw [c3] at ho
    exact ⟨ho.os, ho.tape, ho.output, ho.size, fun b hb => ho.block b hb (c4 b)⟩
  have hi : ∀ b o, Im b o → Im' b o := fun b o h => hs'.mem.im0 b o (by rw [c5]; exact h)
  have hib : ∀ b o, Im' b o → Im b o ∨ w.heap.size ≤ b := fun b o h => by
    rcases hs'.mem.imb b o h with h1 | h1 | h1
    · left; rw [c5] at h1; exact h1
    · right; rw [c3] at h1; exact h1
    · exact absurd (cx'.hCR b h1) (c4 b)
  have h1 := hs.below hbl hi hib hs'.mem.im
  have hle : m.le (m.setR nm R) := Mp.setR_le fun R0 h0 => by rw [(hs.mem.fr nm hnm).2.1] at h0; cases h0
  have hnew : ∀ b, R.hv.ownBlock = some b → w.heap.size ≤ b := fun b hb => by
    rcases hs'.mem.rown g R b hR hb with h1 | h1
    · rw [c3] at h1; exact h1
    · exact absurd (cx'.hCR b h1) (c4 b)
  have hcase : ∀ {x R0}, (m.setR nm R).row x = some R0 → (x = nm ∧ R0 = R) ∨ (x ≠ nm ∧ m.row x = some R0) := fun {x R0} hx => by
    by_cases e : x = nm
    · left; simp [Mp.setR, e] at hx; exact ⟨e, hx.symm⟩
    · right; simp [Mp.setR, e] at hx; exact ⟨e, hx⟩
  have hro2 : RoOk (m.setR nm R) Im' w' R d := (hro.cut hd).mono (fun _ _ => rfl) (cut_any _ _) (KeepI.refl _ _) (fun _ _ h => h) fun _ _ _ h => h
  refine ⟨?_, hle, KeepI.below hbl, hi⟩
  refine ⟨{ h1.mem with row := ?_, rIm := ?_, rblk := ?_, rinj := ?_, fr := ?_, rown := ?_, m0r := hs.mem.m0r_le hle, orow := ?_ }, h1.df, h1.nt, fun x d hx => (h1.tm x d (by rw [get_put1, if_neg (by simp [Key.eq])] at hx; exact hx)).mono hle (KeepI.refl _ _) (fun _ _ h => h), fun x off d hx => ?_, fun x d hx => ?_, fun d hd => ?_, fun x d hd => ?_⟩
  · intro x R0 hx
    rcases hcase hx with ⟨_, rfl⟩ | ⟨_, hx⟩
    · exact hs'.mem.row g R0 hR
    · exact h1.mem.row x R0 hx
  · intro x R0 b o hx
    rcases hcase hx with ⟨_, rfl⟩ | ⟨_, hx⟩
    · exact hs'.mem.rIm g R0 b o hR
    · exact h1.mem.rIm x R0 b o hx
  · intro x R0 b k hx
    rcases hcase hx with ⟨_, rfl⟩ | ⟨_, hx⟩
    · intro e hk; have := hs.mem.lt k _ hk; have := hnew b e; omega
    · exact h1.mem.rblk x R0 b k hx
  · intro x y R0 R1 b hx hy ho ho'
    rcases hcase hx with ⟨e1, e2⟩ | ⟨_, hx⟩ <;> rcases hcase hy with ⟨e3, e4⟩ | ⟨_, hy⟩
    · rw [e1, e3]
    · rw [e2] at ho; have := hnew b ho; have := hs.mem.rlt hy ho'; omega
    · rw [e4] at ho'; have := hnew b ho'; have := hs.mem.rlt hx ho; omega
    · exact h1.mem.rinj x y R0 R1 b hx hy ho ho'
  · intro x hx; refine ⟨(hs.mem.fr x hx.1).1, ?_, (hs.mem.fr x hx.1).2.2⟩; simp [Mp.setR, hx.2, (hs.mem.fr x hx.1).2.1]
  · intro x y R0 b hx hy
    rcases hcase hy with ⟨_, rfl⟩ | ⟨_, hy⟩
    · intro e; have := hs.mem.olt x _ hx; have := hnew b e; omega
    · exact h1.mem.orow x y R0 b hx hy
  · intro x R0 b hx ho
    rcases hcase hx with ⟨_, rfl⟩ | ⟨_, hx⟩
    · exact .inl (Nat.le_trans hs.mem.off.size (hnew b ho))
    · exact h1.mem.rown x R0 b hx ho
  · rw [get_put1, if_neg (by simp [Key.eq])] at hx
    obtain ⟨c, v, q1, q2, q3⟩ := h1.ce x off d hx
    exact ⟨c, v, q1, q2, q3.mono hle (KeepI.refl _ _) (fun _ _ h => h)⟩
  · rw [get_put1] at hx
    by_cases he : Key.eq (.r nm) (.r x) = true
    · rw [if_pos he] at hx
      cases hx
      have := Key.eq_iff.1 he
      cases this
      exact ⟨R, by simp [Mp.setR], hro2⟩
    · rw [if_neg he] at hx
      obtain ⟨R0, q1, q2⟩ := h1.ro x d hx
      have hne : x ≠ nm := fun e => he (by rw [e]; exact Key.eq_refl _)
      exact ⟨R0, by simp [Mp.setR, hne, q1], q2.mono (fun _ _ => rfl) hle (KeepI.refl _ _) (fun _ _ h => h) fun _ _ _ h => h⟩
  · rw [get_put1, if_neg (by simp [Key.eq])] at hd
    obtain ⟨X, J, e, hX⟩ := h1.jk d hd
    obtain ⟨X0, J0, e0, hX0⟩ := hs.jk d hd
    rw [e] at e0; cases e0
    refine ⟨X, J, e, { hX with row := fun b x R0 hb hx ho => ?_ }⟩
    rcases hcase hx with ⟨_, rfl⟩ | ⟨_, hx⟩
    · have := hX0.lt b hb; have := hnew b ho; omega
    · exact hX.row b x R0 hb hx ho
  · rw [get_put1, if_neg (by simp [Key.eq])] at hd
    obtain ⟨b, q1, q2⟩ := h1.ok x d hd
    exact ⟨b, q1, q2.mono rfl hle (KeepI.refl _ _) fun _ _ h => h⟩
theorem callRow_of_dw {f : FuncId} {fn : Func} {c : Code} {args : List D} {n E len : Nat} {l : List (List D)} (nt : Nat) (rs : List ResultVar) (hT : TabOk P T) (hen : entersB P f = true) (hf : P.funcs[f]? = some fn) (hb : fn.body = some c) (hnt : fn.ntmps = nt) (hrs : fn.results.toList = rs)
    (hal : args.length ≤ nt) (ha : args.all (fun d => d.ok (fun _ => false) noR) = true) (hlo : D.okss (fun _ => false) noR l = true)
    (h : ∀ cx : Cx, cx.nt = nt → cx.n0 = 0 → DW P cx c (argsT 0 args []) 0 (fun e σ _ => (e = .normal ∨ e = .ret) ∧ ∃ g, resD T σ rs = some (.sl n l (some g)) ∧ get σ (.r g) = some (.rw E n len))) (nm : Nat) :
    CallN P f args [] nm [(.r nm, .rw E n len)] (.sl n l (some nm)) := by
  refine ⟨hen, fun cx Fr m Im w a σ vs hnm hs hargs _ => ?_⟩
  refine calls_of_wp hf hb ?_
  obtain ⟨cx', c1, c2, c3, c4, c5, hst⟩ := entry0 hs.mem hargs ha nt hal hnt
  refine Code.wp_mono (fun e a' w' ⟨σ', N', m', Im', ⟨hq1, g, hq2, hq3⟩, hs'⟩ => ?_) (h cx' c1 c2 _ Im w _ hst)
  obtain ⟨v, r1, r2⟩ := resD_run (P := P) (fn := fn) hT hs' (by rw [hrs]; exact hq2)
  obtain ⟨R, hR, hro⟩ := hs'.ro g _ hq3
  obtain ⟨s1, s2, s3, s4⟩ := hs.adopt hnm hs' c3 c4 c5 hR hro rfl
  have hv : Rel (m.setR nm R) Im' w' v (.sl n l (some nm)) := by
    cases r2 with
    | sl a0 c0 bl off n X l r h1 ha hc hn ho hr hg =>
      refine .sl a0 c0 bl off n X l (some nm) h1 ha hc hn ho (fun i hi j hj => ((hr i hi j hj).cut (D.oks_get (D.okss_get hlo i hi) j hj)).mono (cut_any _ _) (KeepI.refl _ _) fun _ _ h => h) fun r e => ?_
      cases e
      obtain ⟨R0, q1, q2, q3⟩ := hg g rfl
      rw [hR] at q1; cases q1
      exact ⟨R, by simp [Mp.setR], q2, q3⟩
  have hfin : ∃ v' m2 Im2, Ending.returned v = .returned v' ∧ St cx (minus Fr nm) m2 Im2 w' a (puts (dropT [] σ) [(.r nm, .rw E n len)]) ∧ Rel m2 Im2 w' v' (.sl n l (some nm)) := by
    rw [dropT_nil]
    exact ⟨v, _, Im', rfl, s1, hv⟩
  rcases hq1 with rfl | rfl
  · exact ⟨hs'.df, v, r1, hfin⟩
  · exact ⟨hs'.df, v, r1, hfin⟩
end
end Go.Proofs.Ytdmiekaeodcehaa

namespace Go.Proofs.Ytdmiekaeodcehaa
open Go.RowKit
namespace So
variable {α : Type} {l l' r r' : List (Int × α)}
def Srt (l : List (Int × α)) : Prop := l.Pairwise fun a b => a.1 ≤ b.1
def Same (l l' : List (Int × α)) : Prop := ∀ k : Int, l.filter (fun a => a.1 == k) = l'.filter (fun a => a.1 == k)
theorem Same.refl (l : List (Int × α)) : Same l l := fun _ => rfl
theorem Same.symm (h : Same l l') : Same l' l := fun k => (h k).symm
theorem Same.trans {l'' : List (Int × α)} (h : Same l l') (h' : Same l' l'') : Same l l'' := fun k => (h k).trans (h' k)
theorem Same.app (h : Same l l') (h' : Same r r') : Same (l ++ r) (l' ++ r') := fun k => by rw [List.filter_append, List.filter_append, h k, h' k]
theorem Same.mem (h : Same l l') {x : Int × α} (hx : x ∈ l) : x ∈ l' := by
  have : x ∈ l.filter (fun a => a.1 == x.1) := List.mem_filter.2 ⟨hx, by simp⟩
  rw [h x.1] at this
  exact (List.mem_filter.1 this).1
theorem Same.swap (h : ∀ x ∈ l, ∀ y ∈ r, x.1 ≠ y.1) : Same (l ++ r) (r ++ l) := fun k => by
  rw [List.filter_append, List.filter_append]
  by_cases hl : l.filter (fun a => a.1 == k) = []
  · rw [hl]; simp
  · have hr : r.filter (fun a => a.1 == k) = [] := by
      rw [List.filter_eq_nil_iff]
      intro y hy e
      obtain ⟨x, hx⟩ := List.exists_mem_of_ne_nil _ hl
      have hx := List.mem_filter.1 hx
      exact h x hx.1 y hy (by have e1 := hx.2; simp at e1 e; omega)
    rw [hr]; simp
theorem srt_app : Srt (l ++ r) ↔ Srt l ∧ Srt r ∧ ∀ a ∈ l, ∀ b ∈ r, a.1 ≤ b.1 := List.pairwise_append
theorem srt_nil : Srt ([] : List (Int × α)) := List.Pairwise.nil
theorem srt_one (x : Int × α) : Srt [x] := List.pairwise_singleton _ _
theorem uniq : ∀ {l l' : List (Int × α)}, Srt l → Srt l' → Same l l' → l = l'
  | [], [], _, _, _ => rfl
  | [], y :: s, _, _, h => by have := h.symm.mem (x := y) (by simp); cases this
  | x :: t, [], _, _, h => by have := h.mem (x := x) (by simp); cases this
  | x :: t, y :: s, h1, h2, h => by
    have a1 := List.pairwise_cons.1 h1
    have a2 := List.pairwise_cons.1 h2
    have e1 : x.1 ≤ y.1 := by
      rcases List.mem_cons.1 (h.symm.mem (x := y) (by simp)) with e | e
      · rw [e]; exact Int.le_refl _
      · exact a1.1 y e
    have e2 : y.1 ≤ x.1 := by
      rcases List.mem_cons.1 (h.mem (x := x) (by simp)) with e | e
      · rw [e]; exact Int.le_refl _
      · exact a2.1 x e
    have e3 : y.1 = x.1 := by omega
    have hx := h x.1
    rw [List.filter_cons, List.filter_cons, if_pos (by simp), if_pos (by simp [e3])] at hx
    injection hx with q1 q2
    subst q1
    rw [uniq a1.2 a2.2 fun k => by
      have hk := h k
      rw [List.filter_cons, List.filter_cons] at hk
      split at hk
      · injection hk
      · exact hk]
def ins (x : Int × α) : List (Int × α) → List (Int × α)
  | [] => [x]
  | y :: l => if y.1 ≤ x.1 then y :: ins x l else x :: y :: l
def ssr : List (Int × α) → List (Int × α)
  | [] => []
  | x :: l => ins x (ssr l)
def ss (l : List (Int × α)) : List (Int × α) := ssr l.reverse
theorem ins_mem {x y : Int × α} : ∀ {l : List (Int × α)}, y ∈ ins x l ↔ y = x ∨ y ∈ l
  | [] => by simp [ins]
  | z :: l => by
    rw [ins]
    split
    · simp only [List.mem_cons, ins_mem (l := l)]
      constructor
      · rintro (h | h | h)
        · exact .inr (.inl h)
        · exact .inl h
        · exact .inr (.inr h)
      · rintro (h | h | h)
        · exact .inr (.inl h)
        · exact .inl h
        · exact .inr (.inr h)
    · simp only [List.mem_cons]
theorem ins_len (x : Int × α) : ∀ l : List (Int × α), (ins x l).length = l.length + 1
  | [] => rfl
  | z :: l => by rw [ins]; split <;> simp [ins_len x l]
theorem ins_srt (x : Int × α) : ∀ {l : List (Int × α)}, Srt l → Srt (ins x l)
  | [], _ => srt_one x
  | z :: l, h => by
    have a := List.pairwise_cons.1 h
    rw [ins]
    split
    · rename_i hz
      refine List.pairwise_cons.2 ⟨fun y hy => ?_, ins_srt x a.2⟩
      rcases ins_mem.1 hy with rfl | hy
      · exact hz
      · exact a.1 y hy
    · rename_i hz
      refine List.pairwise_cons.2 ⟨fun y hy => ?_, h⟩
      rcases List.mem_cons.1 hy with rfl | hy
      · omega
      · have := a.1 y hy; omega
theorem ins_same (x : Int × α) : ∀ {l : List (Int × α)}, Srt l → Same (ins x l) (l ++ [x])
  | [], _ => Same.refl _
  | z :: l, h => by
    have a := List.pairwise_cons.1 h
    rw [ins]
    split
    · exact Same.app (l := [z]) (l' := [z]) (Same.refl _) (ins_same x a.2)
    · rename_i hz
      refine Same.swap (l := [x]) (r := z :: l) fun u hu y hy => ?_
      rw [List.mem_singleton] at hu
      subst hu
      rcases List.mem_cons.1 hy with rfl | hy
      · omega
      · have := a.1 y hy; omega
theorem ssr_srt : ∀ l : List (Int × α), Srt (ssr l)
  | [] => srt_nil
  | x :: l => ins_srt x (ssr_srt l)
theorem ssr_same : ∀ l : List (Int × α), Same (ssr l) l.reverse
  | [] => Same.refl _
  | x :: l => by
    rw [ssr, List.reverse_cons]
    exact (ins_same x (ssr_srt l)).trans ((ssr_same l).app (Same.refl _))
theorem ssr_len : ∀ l : List (Int × α), (ssr l).length = l.length
  | [] => rfl
  | x :: l => by rw [ssr, ins_len, ssr_len l]; rfl
theorem ss_srt (l : List (Int × α)) : Srt (ss l) := ssr_srt _
theorem ss_same (l : List (Int × α)) : Same (ss l) l := by
  have := ssr_same l.reverse
  rwa [List.reverse_reverse] at this
theorem ss_len (l : List (Int × α)) : (ss l).length = l.length := by rw [ss, ssr_len, List.length_reverse]
theorem ss_eq (h : Srt l') (h2 : Same l' l) : ss l = l' := uniq (ss_srt l) h ((ss_same l).trans h2.symm)
theorem ss_self (h : Srt l) : ss l = l := ss_eq h (Same.refl _)
theorem ss_one (x : Int × α) : ss [x] = [x] := ss_self (srt_one x)
theorem ss_snoc {X S1 S2 : List (Int × α)} {x : Int × α} (h : S1 ++ S2 = ss X) (h1 : ∀ s ∈ S1, s.1 ≤ x.1) (h2 : ∀ s ∈ S2, x.1 < s.1) : ss (X ++ [x]) = S1 ++ x :: S2 := by
  have hs := ss_srt X
  rw [← h] at hs
  have a := srt_app.1 hs
  refine ss_eq (srt_app.2 ⟨a.1, List.pairwise_cons.2 ⟨fun s hs => Int.le_of_lt (h2 s hs), a.2.1⟩, fun s hs y hy => ?_⟩) ?_
  · rcases List.mem_cons.1 hy with rfl | hy
    · exact h1 s hs
    · exact a.2.2 s hs y hy
  · refine Same.trans (l' := (S1 ++ S2) ++ [x]) ?_ ?_
    · rw [List.append_assoc]
      refine (Same.refl S1).app (Same.swap (l := [x]) (r := S2) fun u hu y hy => ?_)
      rw [List.mem_singleton] at hu
      subst hu
      have := h2 y hy; omega
    · rw [h]; exact (ss_same X).app (Same.refl _)
theorem ss_cut {X1 X2 Y1 Y2 : List (Int × α)} (hX : Srt (X1 ++ X2)) (hY : Srt (Y1 ++ Y2)) (h1 : ∀ x ∈ X1, ∀ y ∈ Y2, x.1 ≤ y.1) (h2 : ∀ y ∈ Y1, ∀ x ∈ X2, y.1 < x.1) : ss (X1 ++ X2 ++ (Y1 ++ Y2)) = ss (X1 ++ Y1) ++ ss (X2 ++ Y2) := by
  have a := srt_app.1 hX
  have b := srt_app.1 hY
  refine ss_eq (srt_app.2 ⟨ss_srt _, ss_srt _, fun x hx y hy => ?_⟩) ?_
  · rcases List.mem_append.1 ((ss_same _).mem hx) with hx | hx <;> rcases List.mem_append.1 ((ss_same _).mem hy) with hy | hy
    · exact a.2.2 x hx y hy
    · exact h1 x hx y hy
    · exact Int.le_of_lt (h2 x hx y hy)
    · exact b.2.2 x hx y hy
  · refine ((ss_same _).app (ss_same _)).trans ?_
    rw [List.append_assoc, List.append_assoc]
    refine (Same.refl X1).app ?_
    rw [← List.append_assoc, ← List.append_assoc]
    refine Same.app ?_ (Same.refl Y2)
    exact Same.swap fun y hy x hx => by have := h2 y hy x hx; omega
inductive Ch (s : Nat) : List (Int × α) → Prop where
  | last (l : List (Int × α)) (h : l.length ≤ s) (hs : Srt l) : Ch s l
  | cons (c l : List (Int × α)) (hc : c.length = s) (hs : Srt c) (h : Ch s l) : Ch s (c ++ l)
inductive Fu (s : Nat) : List (Int × α) → Prop where
  | nil : Fu s []
  | cons (c l : List (Int × α)) (hc : c.length = s) (hs : Srt c) (h : Fu s l) : Fu s (c ++ l)
theorem Fu.snoc {s : Nat} {P c : List (Int × α)} (h : Fu s P) (hc : c.length = s) (hs : Srt c) : Fu s (P ++ c) := by
  induction h with
  | nil => have := Fu.cons c [] hc hs .nil; simpa using this
  | cons d l hd hsd h ih => rw [List.append_assoc]; exact .cons d _ hd hsd ih
theorem Fu.ch {s : Nat} {P Q : List (Int × α)} (h : Fu s P) (hQ : Ch s Q) : Ch s (P ++ Q) := by
  induction h with
  | nil => exact hQ
  | cons d l hd hsd h ih => rw [List.append_assoc]; exact .cons d _ hd hsd ih
theorem Ch.more {s : Nat} {Q : List (Int × α)} (h : Ch s Q) (hl : s < Q.length) : ∃ c l, Q = c ++ l ∧ c.length = s ∧ Srt c ∧ Ch s l := by
  cases h with
  | last l h hs => omega
  | cons c l hc hs h => exact ⟨c, l, rfl, hc, hs, h⟩
theorem Ch.one {s : Nat} {Q : List (Int × α)} (h : Ch s Q) (hl : Q.length ≤ s) (hs : 0 < s) : Srt Q := by
  cases h with
  | last l h hs => exact hs
  | cons c l hc hsc h =>
    have : l = [] := List.length_eq_zero_iff.1 (by simp at hl; omega)
    subst this; simpa using hsc
end So
end Go.Proofs.Ytdmiekaeodcehaa

namespace Go.Proofs.Ytdmiekaeodcehaa
open Go.RowKit
def TSO_3 : TI := ⟨1, false, [Value.int IntKind.i64 0], [], none, 8, 2, none, false⟩
theorem TSO_3_ok : TypOk Try.prog 3 TSO_3 := ⟨by kernel_rfl, by kernel_rfl, by kernel_rfl, by kernel_rfl, by kernel_rfl⟩
def TSO_52 : TI := ⟨1, false, [Value.slice none 0 0], [], some 105, 24, 5, none, false⟩
theorem TSO_52_ok : TypOk Try.prog 52 TSO_52 := ⟨by kernel_rfl, by kernel_rfl, by kernel_rfl, by kernel_rfl, by kernel_rfl⟩
def TSO_105 : TI := ⟨5, true, [Value.int IntKind.i64 0, Value.slice none 0 0, Value.int IntKind.i64 0, Value.int IntKind.i64 0, Value.slice none 0 0], [(0, 1, false), (1, 4, true)], none, 72, 6, none, false⟩
theorem TSO_105_ok : TypOk Try.prog 105 TSO_105 := ⟨by kernel_rfl, by kernel_rfl, by kernel_rfl, by kernel_rfl, by kernel_rfl⟩
def TSO_231 : TI := ⟨1, false, [Value.int IntKind.u64 0], [], none, 8, 2, none, false⟩
theorem TSO_231_ok : TypOk Try.prog 231 TSO_231 := ⟨by kernel_rfl, by kernel_rfl, by kernel_rfl, by kernel_rfl, by kernel_rfl⟩
def TSO_232 : TI := ⟨1, false, [Value.nilFunc], [], none, 8, 8, none, false⟩
theorem TSO_232_ok : TypOk Try.prog 232 TSO_232 := ⟨by kernel_rfl, by kernel_rfl, by kernel_rfl, by kernel_rfl, by kernel_rfl⟩
def TSO_53 : TI := ⟨1, false, [Value.slice none 0 0], [], some 105, 24, 5, none, false⟩
theorem TSO_53_ok : TypOk Try.prog 53 TSO_53 := ⟨by kernel_rfl, by kernel_rfl, by kernel_rfl, by kernel_rfl, by kernel_rfl⟩
def TSO : List (Nat × TI) := [(3, TSO_3), (52, TSO_52), (105, TSO_105), (231, TSO_231), (232, TSO_232), (53, TSO_53)]
theorem TSO_ok : TabOk Try.prog TSO := (((((((TabOk.nil _).cons TSO_53_ok).cons TSO_232_ok).cons TSO_231_ok).cons TSO_105_ok).cons TSO_52_ok).cons TSO_3_ok)

theorem at_ {α : Type} {P R L : List α} {x : α} {i : Nat} (h : L = P ++ x :: R) (hi : P.length = i) : L[i]? = some x := by subst h; subst hi; simp
theorem pl_ok {L : List (Int × Tm)} {n i : Nat} {x : Int × Tm} (hn : L.length = n) (h : L[i]? = some x) : (ePairs L).length = n ∧ i < n ∧ ((ePairs L).getD i []).length = 5 := by
  have hi : i < L.length := by
    rcases Nat.lt_or_ge i L.length with h' | h'
    · exact h'
    · rw [List.getElem?_eq_none h'] at h; cases h
  exact ⟨by rw [ePairs_len, hn], by omega, by rw [ePairs_getD L i hi, ePair_eq]; rfl⟩
theorem pl_eq {L : List (Int × Tm)} {i : Nat} {x : Int × Tm} (h : L[i]? = some x) : VLe (.ag ((ePairs L).getD i [])) (.ag [.v (.int .i64 x.1), .sl 2 (eTys x.2.binds) none, .v (.int .i64 x.2.kind), .v (.int .i64 x.2.index), .sl 4 (eTms x.2.args) none]) := by
  have hi : i < L.length := by
    rcases Nat.lt_or_ge i L.length with h' | h'
    · exact h'
    · rw [List.getElem?_eq_none h'] at h; cases h
  rw [List.getElem?_eq_getElem hi] at h
  cases h
  exact VLe.of_eq (by rw [ePairs_getD L i hi, ePair_eq])
theorem pl_lt {α : Type} {L : List α} {n i : Nat} {x : α} (hn : L.length = n) (h : L[i]? = some x) : i < n := by
  rcases Nat.lt_or_ge i L.length with h' | h'
  · omega
  · rw [List.getElem?_eq_none h'] at h; cases h
theorem rowPut5 (r : List D) (a b c d e : D) : rowPut r 0 5 [a, b, c, d, e] = [a, b, c, d, e] := if_pos ⟨rfl, rfl⟩
theorem eP_set (L : List (Int × Tm)) (i : Nat) (x : Int × Tm) (r : List D) : (ePairs L).set i (rowPut r 0 5 [.v (.int .i64 x.1), .sl 2 (eTys x.2.binds) none, .v (.int .i64 x.2.kind), .v (.int .i64 x.2.index), .sl 4 (eTms x.2.args) none]) = ePairs (L.set i x) := by
  rw [rowPut5, ← ePair_eq, ePairs, ePairs, List.map_set]
theorem set_two {α : Type} {P Q R : List α} {x y : α} {i j : Nat} (hi : P.length = i) (hj : i + 1 + Q.length = j) : ((P ++ x :: (Q ++ y :: R)).set i y).set j x = P ++ y :: (Q ++ x :: R) := by
  subst hi hj
  rw [List.set_append_right _ _ (Nat.le_refl _), Nat.sub_self, List.set_cons_zero, List.set_append_right _ _ (by omega), show P.length + 1 + Q.length - P.length = Q.length + 1 by omega, List.set_cons_succ, List.set_append_right _ _ (Nat.le_refl _), Nat.sub_self, List.set_cons_zero]
theorem eP_swap {P Q R L L' : List (Int × Tm)} {x y : Int × Tm} {i j : Nat} (hL : L = P ++ x :: (Q ++ y :: R)) (hi : P.length = i) (hj : i + 1 + Q.length = j) (hL' : L' = P ++ y :: (Q ++ x :: R)) :
    ((ePairs L).set i (rowPut ((ePairs L).getD i []) 0 5 [.v (.int .i64 y.1), .sl 2 (eTys y.2.binds) none, .v (.int .i64 y.2.kind), .v (.int .i64 y.2.index), .sl 4 (eTms y.2.args) none])).set j (rowPut (((ePairs L).set i (rowPut ((ePairs L).getD i []) 0 5 [.v (.int .i64 y.1), .sl 2 (eTys y.2.binds) none, .v (.int .i64 y.2.kind), .v (.int .i64 y.2.index), .sl 4 (eTms y.2.args) none])).getD j []) 0 5 [.v (.int .i64 x.1), .sl 2 (eTys x.2.binds) none, .v (.int .i64 x.2.kind), .v (.int .i64 x.2.index), .sl 4 (eTms x.2.args) none]) = ePairs L' := by
  rw [eP_set, eP_set, hL, hL', set_two hi hj]
theorem eP_swap' {P Q R L L' : List (Int × Tm)} {x y : Int × Tm} {i j : Nat} (hL : L = P ++ x :: (Q ++ y :: R)) (hi : P.length = i) (hj : i + 1 + Q.length = j) (hL' : L' = P ++ y :: (Q ++ x :: R)) :
    ((ePairs L).set j (rowPut ((ePairs L).getD j []) 0 5 [.v (.int .i64 x.1), .sl 2 (eTys x.2.binds) none, .v (.int .i64 x.2.kind), .v (.int .i64 x.2.index), .sl 4 (eTms x.2.args) none])).set i (rowPut (((ePairs L).set j (rowPut ((ePairs L).getD j []) 0 5 [.v (.int .i64 x.1), .sl 2 (eTys x.2.binds) none, .v (.int .i64 x.2.kind), .v (.int .i64 x.2.index), .sl 4 (eTms x.2.args) none])).getD i []) 0 5 [.v (.int .i64 y.1), .sl 2 (eTys y.2.binds) none, .v (.int .i64 y.2.kind), .v (.int .i64 y.2.index), .sl 4 (eTms y.2.args) none]) = ePairs L' := by
  rw [eP_set, eP_set, hL, hL', List.set_comm _ _ (by omega), set_two hi hj]
theorem st_ok {L : List (Int × Tm)} {n i : Nat} {x : Int × Tm} (hn : L.length = n) (h : L[i]? = some x) : (ePairs L).length = n ∧ i < n := ⟨(pl_ok hn h).1, (pl_ok hn h).2.1⟩
theorem st_ok2 {L : List (Int × Tm)} {n i j : Nat} {x : Int × Tm} {r : List D} (hn : L.length = n) (h : L[i]? = some x) : ((ePairs L).set j r).length = n ∧ i < n := ⟨by rw [List.length_set]; exact (pl_ok hn h).1, (pl_ok hn h).2.1⟩

theorem swapR_d (A U M V Z : List (Int × Tm)) (n a b k : Nat) (hn : (A ++ U ++ M ++ V ++ Z).length = n) (ha : A.length = a) (hb : a + U.length + M.length = b) (hk : U.length = k) (hv : V.length = k) (hM : n ≤ 1000000) :
  CallG Try.prog 221 [.ps 0 n, .v (.int .i64 ↑a), .v (.int .i64 ↑b), .v (.int .i64 ↑k), .fn 145 []] [(.r 0, .rp 105 5 (ePairs (A ++ U ++ M ++ V ++ Z)))] [(.r 0, .rp 105 5 (ePairs (A ++ V ++ M ++ U ++ Z)))] (.tu []) := by
 refine callG_of_dw 1 38 [] TSO_ok (by kernel_rfl) Try.func221 rfl Try.ntmps221 rfl (by simp) ?dwords ?dbody
 case dwords => simp [wordsG, rowN, rowsR, gkey, Key.eq, D.ok, D.oks, D.okss, rnames, inN, ckey, ePairs_ok]
 case dbody =>
  intro cx hnt hn0
  refine dw_seq ?_; refine dwk [] TSO_ok hnt fun K hK => ?_; refine hK _ _ ?_; clear hK K; refine dw_block ?_
  refine dw_loop (ι := { p : List (Int × Tm) × List (Int × Tm) × List (Int × Tm) × List (Int × Tm) // p.1 ++ p.2.1 = U ∧ p.2.2.1 ++ p.2.2.2 = V ∧ p.1.length = p.2.2.1.length }) (fun p => [(.t 0, .ps 0 n), (.t 1, .v (.int .i64 ↑a)), (.t 2, .v (.int .i64 ↑b)), (.t 3, .v (.int .i64 ↑k)), (.t 10, .v (.int .i64 ↑p.1.1.length)), (.r 0, .rp 105 5 (ePairs (A ++ p.1.2.2.1 ++ p.1.2.1 ++ M ++ p.1.1 ++ p.1.2.2.2 ++ Z)))]) 1 (fun p => p.1.2.1.length) (⟨([], U, [], V), rfl, rfl, rfl⟩) ((VS.toK (by omega) (by repeat first | exact trivial | refine And.intro (And.intro (by first | rfl | simp [D.ok, D.oks, D.okss, D.okm, upto, keyOk, argsT]) (by first | exact Or.inl rfl | exact Or.inr ⟨_, rfl, (by repeat first | exact VLe.refl _ | exact VLe.nil _ | exact VLe.untag _ _ _ | refine VLe.ag ?_ | refine VLe.tu ?_ | refine VLeL.cons ?_ ?_ | exact VLeL.nil), trivial⟩ | simp [get, Key.eq, argsT])) ?_))) fun j => ?_
  obtain ⟨⟨U1, U2, V1, V2⟩, hU, hV, hl⟩ := j
  dsimp only at hU hV hl ⊢
  obtain ⟨L, hL⟩ : ∃ L, A ++ V1 ++ U2 ++ M ++ U1 ++ V2 ++ Z = L := ⟨_, rfl⟩
  have hnL : L.length = n := by rw [← hL, ← hn, ← hU, ← hV]; simp; omega
  rw [hL]
  have hUl : U1.length + U2.length = k := by rw [← hk, ← hU]; simp
  have hVl : V1.length + V2.length = k := by rw [← hv, ← hV]; simp
  cases U2 with
  | nil =>
   have h0 : V2 = [] := List.length_eq_zero_iff.1 (by simp at hUl; omega)
   subst h0
   simp only [List.append_nil] at hU hV
   subst hU hV
   simp only [List.append_nil] at hL
   rw [← hL]
   refine dw_seq ?_; refine dw_seq ?_; refine dwk [(13, .v (.bool false))] TSO_ok hnt fun K hK => ?_; refine And.intro auF ?_; refine hK _ _ ?_; clear hK K; refine dw_cond (t := false) rfl ?_; rw [if_neg (by simp)]; refine dw_exit ?_
   exact reta rfl
  | cons x U2 =>
   cases V2 with
   | nil => simp at hUl hVl; omega
   | cons y V2 =>
    simp at hUl hVl
    have hx : L[a + U1.length]? = some x := at_ (P := A ++ V1) (R := U2 ++ M ++ U1 ++ y :: V2 ++ Z) (by rw [← hL]; simp) (by simp; omega)
    have hy : L[b + U1.length]? = some y := at_ (P := A ++ V1 ++ x :: U2 ++ M ++ U1) (R := V2 ++ Z) (by rw [← hL]; simp) (by simp; omega)
    have lx := pl_lt hnL hx
    have ly := pl_lt hnL hy
    refine dw_seq ?_; refine dw_seq ?_; refine dwk [(13, .v (.bool true))] TSO_ok hnt fun K hK => ?_; refine And.intro auT ?_; refine hK _ _ ?_; clear hK K; refine dw_cond (t := true) rfl ?_; rw [if_pos rfl]; refine dw_skip ?_; refine dw_seq ?_; refine dw_block ?_; refine dwkD [(19, .v (.int .i64 (↑(a + U1.length)))), (23, .v (.int .i64 (↑(b + U1.length)))), (27, .v (.int .i64 (↑(b + U1.length)))), (28, .pr 0 n 5 ((b + U1.length)) 0), (29, .ag [.v (.int .i64 y.1), .sl 2 (eTys y.2.binds) none, .v (.int .i64 y.2.kind), .v (.int .i64 y.2.index), .sl 4 (eTms y.2.args) none]), (33, .v (.int .i64 (↑(a + U1.length)))), (34, .pr 0 n 5 ((a + U1.length)) 0), (35, .ag [.v (.int .i64 x.1), .sl 2 (eTys x.2.binds) none, .v (.int .i64 x.2.kind), .v (.int .i64 x.2.index), .sl 4 (eTms x.2.args) none]), (36, .pr 0 n 5 ((a + U1.length)) 0), (37, .pr 0 n 5 ((b + U1.length)) 0)] TSO_ok hnt fun K hK => ?_
    refine And.intro auI ?_; refine And.intro auI ?_; refine And.intro auI ?_; refine And.intro (by constructor <;> omega) ?_; refine And.intro (by first | rfl | exact VLe.of_eq (by simp)) ?_; refine And.intro (pl_ok hnL hy) ?_; refine And.intro (pl_eq hy) ?_; refine And.intro auI ?_; refine And.intro (by constructor <;> omega) ?_; refine And.intro (by first | rfl | exact VLe.of_eq (by simp)) ?_; refine And.intro (pl_ok hnL hx) ?_
    refine And.intro (pl_eq hx) ?_; refine And.intro (by constructor <;> omega) ?_; refine And.intro (by first | rfl | exact VLe.of_eq (by simp)) ?_; refine And.intro (st_ok hnL hx) ?_; refine And.intro (by constructor <;> omega) ?_; refine And.intro (by first | rfl | exact VLe.of_eq (by simp)) ?_; refine And.intro (st_ok2 hnL hy) ?_; refine hK _ _ (by kernel_rfl) ?_; clear hK K
    rw [eP_swap (P := A ++ V1) (Q := U2 ++ M ++ U1) (R := V2 ++ Z) (L' := A ++ (V1 ++ [y]) ++ U2 ++ M ++ (U1 ++ [x]) ++ V2 ++ Z) (by rw [← hL]; simp) (by simp; omega) (by simp; omega) (by simp)]
    refine dwk [(15, .v (.int .i64 (↑(U1 ++ [x]).length)))] TSO_ok hnt fun K hK => ?_; refine And.intro (dintE (by rw [IntWalk.i64_in _ (by omega)]; simp)) ?_; refine hK _ _ ?_; clear hK K
    refine ⟨⟨(U1 ++ [x], U2, V1 ++ [y], V2), by rw [← hU]; simp, by rw [← hV]; simp, by simp; omega⟩, by simp, VS.toA⟩
theorem cmpI_lt {a b : Int} : cmpI a b < 0 ↔ a < b := by
  unfold cmpI
  split
  · simp [*]
  · split <;> simp [*]
theorem snoc_cases {α : Type} (l : List α) : l = [] ∨ ∃ L b, l = L ++ [b] := by
  rcases List.eq_nil_or_concat l with h | ⟨L, b, h⟩
  · exact .inl h
  · exact .inr ⟨L, b, by rw [h, List.concat_eq_append]⟩
theorem rotate_d (A X Y Z : List (Int × Tm)) (n a m b : Nat) (hn : (A ++ X ++ Y ++ Z).length = n) (ha : A.length = a) (hm : a + X.length = m) (hb : m + Y.length = b) (hX : 0 < X.length) (hY : 0 < Y.length) (hM : n ≤ 1000000) :
  CallG Try.prog 216 [.ps 0 n, .v (.int .i64 ↑a), .v (.int .i64 ↑m), .v (.int .i64 ↑b), .fn 145 []] [(.r 0, .rp 105 5 (ePairs (A ++ X ++ Y ++ Z)))] [(.r 0, .rp 105 5 (ePairs (A ++ Y ++ X ++ Z)))] (.tu []) := by
 have hbn : b ≤ n := by simp at hn; omega
 refine callG_of_dw 1 58 [] TSO_ok (by kernel_rfl) Try.func216 rfl Try.ntmps216 rfl (by simp) ?dwords ?dbody
 case dwords => simp [wordsG, rowN, rowsR, gkey, Key.eq, D.ok, D.oks, D.okss, rnames, inN, ckey, ePairs_ok]
 case dbody =>
  intro cx hnt hn0
  refine dw_seq ?_; refine dwk [(14, .v (.int .i64 (↑X.length)))] TSO_ok hnt fun K hK => ?_; refine And.intro auI ?_; refine hK _ _ ?_; clear hK K; refine dw_seq ?_; refine dwk [(17, .v (.int .i64 (↑Y.length)))] TSO_ok hnt fun K hK => ?_; refine And.intro auI ?_; refine hK _ _ ?_; clear hK K; refine dw_seq ?_; refine dw_block ?_
  refine dw_loop (ι := { p : List (Int × Tm) × List (Int × Tm) × List (Int × Tm) × List (Int × Tm) // p.1 ++ p.2.2.1 ++ p.2.1 ++ p.2.2.2 = A ++ Y ++ X ++ Z ∧ p.1.length + p.2.1.length = m ∧ 0 < p.2.1.length ∧ 0 < p.2.2.1.length }) (fun p => [(.t 0, .ps 0 n), (.t 2, .v (.int .i64 ↑m)), (.t 4, .fn 145 []), (.t 10, .v (.int .i64 ↑p.1.2.1.length)), (.t 11, .v (.int .i64 ↑p.1.2.2.1.length)), (.r 0, .rp 105 5 (ePairs (p.1.1 ++ p.1.2.1 ++ p.1.2.2.1 ++ p.1.2.2.2)))]) 1 (fun p => p.1.2.1.length + p.1.2.2.1.length) (⟨(A, X, Y, Z), rfl, by dsimp only; omega, hX, hY⟩) ((VS.toK (by omega) (by repeat first | exact trivial | refine And.intro (And.intro (by first | rfl | simp [D.ok, D.oks, D.okss, D.okm, upto, keyOk, argsT]) (by first | exact Or.inl rfl | exact Or.inr ⟨_, rfl, (by repeat first | exact VLe.refl _ | exact VLe.nil _ | exact VLe.untag _ _ _ | refine VLe.ag ?_ | refine VLe.tu ?_ | refine VLeL.cons ?_ ?_ | exact VLeL.nil), trivial⟩ | simp [get, Key.eq, argsT])) ?_))) fun j => ?_
  obtain ⟨⟨P, X', Y', Q⟩, hs, hp, h1, h2⟩ := j
  dsimp only at hs hp h1 h2 ⊢
  have hnn : (P ++ X' ++ Y' ++ Q).length = n := by
   have := congrArg List.length hs
   simp at this hn ⊢; omega
  have hmn : m ≤ n := by omega
  have hln : P.length + X'.length + Y'.length + Q.length = n := by rw [← hnn]; simp; omega
  by_cases hne : X'.length = Y'.length
  ·have hsw := swapR_d P X' [] Y' Q n P.length m X'.length (by rw [List.append_nil]; exact hnn) rfl (by simp; omega) rfl hne.symm hM
   rw [List.append_nil, List.append_nil, hs] at hsw
   refine dw_seq ?_; refine dw_seq ?_; refine dwk [(20, .v (.bool false))] TSO_ok hnt fun K hK => ?_; refine And.intro (bneF (by omega)) ?_; refine hK _ _ ?_; clear hK K; refine dw_cond (t := false) rfl ?_; rw [if_neg (by simp)]; refine dw_exit ?_; refine dwk [(53, .v (.int .i64 (↑P.length)))] TSO_ok hnt fun K hK => ?_; refine And.intro auI ?_; refine dcn (CallG.n (hsw) _) ?_; refine hK _ _ ?_; clear hK K
   exact reta rfl
  ·by_cases hgt : Y'.length < X'.length
   ·obtain ⟨S, T, hST, hS⟩ : ∃ S T, X' = S ++ T ∧ S.length = Y'.length := ⟨X'.take Y'.length, X'.drop Y'.length, (List.take_append_drop _ _).symm, by simp; omega⟩
    have hL : P ++ X' ++ Y' ++ Q = P ++ S ++ T ++ Y' ++ Q := by rw [hST]; simp
    have hXl : X'.length = S.length + T.length := by rw [hST]; simp
    have hsw := swapR_d P S T Y' Q n P.length m Y'.length (by rw [← hL]; exact hnn) rfl (by omega) hS rfl hM
    rw [hL]
    refine dw_seq ?_; refine dw_seq ?_; refine dwk [(20, .v (.bool true))] TSO_ok hnt fun K hK => ?_; refine And.intro (bneT (by omega)) ?_; refine hK _ _ ?_; clear hK K; refine dw_cond (t := true) rfl ?_; rw [if_pos rfl]; refine dw_skip ?_; refine dw_block ?_; refine dw_seq ?_; refine dwk [(23, .v (.bool true))] TSO_ok hnt fun K hK => ?_; refine And.intro auT ?_; refine hK _ _ ?_; clear hK K; refine dw_cond (t := true) rfl ?_
    rw [if_pos rfl]; refine dw_seq ?_; refine dwk [(27, .v (.int .i64 (↑P.length)))] TSO_ok hnt fun K hK => ?_; refine And.intro auI ?_; refine dcn (CallG.n (hsw) _) ?_; refine hK _ _ ?_; clear hK K; refine dwk [(34, .v (.int .i64 (↑T.length)))] TSO_ok hnt fun K hK => ?_; refine And.intro auI ?_; refine hK _ _ ?_; clear hK K
    rw [← hS]
    refine ⟨⟨(P ++ Y', T, S, Q), by rw [← hs, hST]; simp, by simp; omega, by dsimp only; omega, by dsimp only; omega⟩, by first | omega | (dsimp only; omega), VS.toA⟩
   ·obtain ⟨S, T, hST, hT⟩ : ∃ S T, Y' = S ++ T ∧ T.length = X'.length := ⟨Y'.take (Y'.length - X'.length), Y'.drop (Y'.length - X'.length), (List.take_append_drop _ _).symm, by simp; omega⟩
    have hL : P ++ X' ++ Y' ++ Q = P ++ X' ++ S ++ T ++ Q := by rw [hST]; simp
    have hYl : Y'.length = S.length + T.length := by rw [hST]; simp
    have hsw := swapR_d P X' S T Q n P.length (m + S.length) X'.length (by rw [← hL]; exact hnn) rfl (by omega) rfl hT hM
    rw [hL]
    refine dw_seq ?_; refine dw_seq ?_; refine dwk [(20, .v (.bool true))] TSO_ok hnt fun K hK => ?_; refine And.intro (bneT (by omega)) ?_; refine hK _ _ ?_; clear hK K; refine dw_cond (t := true) rfl ?_; rw [if_pos rfl]; refine dw_skip ?_; refine dw_block ?_; refine dw_seq ?_; refine dwk [(23, .v (.bool false))] TSO_ok hnt fun K hK => ?_; refine And.intro auF ?_; refine hK _ _ ?_; clear hK K; refine dw_cond (t := false) rfl ?_
    rw [if_neg (by simp)]; refine dw_seq ?_; refine dwk [(38, .v (.int .i64 (↑P.length))), (41, .v (.int .i64 (↑(m + Y'.length)))), (43, .v (.int .i64 (↑(m + S.length))))] TSO_ok hnt fun K hK => ?_; refine And.intro auI ?_; refine And.intro auI ?_; refine And.intro auI ?_; refine dcn (CallG.n (hsw) _) ?_; refine hK _ _ ?_; clear hK K; refine dwk [(49, .v (.int .i64 (↑S.length)))] TSO_ok hnt fun K hK => ?_
    refine And.intro auI ?_; refine hK _ _ ?_; clear hK K
    rw [← hT]
    refine ⟨⟨(P, T, S, X' ++ Q), by rw [← hs, hST]; simp, by dsimp only; omega, by dsimp only; omega, by dsimp only; omega⟩, by first | omega | (dsimp only; omega), VS.toA⟩
theorem insSort_d (A X Z : List (Int × Tm)) (n a b : Nat) (hn : (A ++ X ++ Z).length = n) (ha : A.length = a) (hb : a + X.length = b) (hM : n ≤ 1000000) :
  CallG Try.prog 206 [.ps 0 n, .v (.int .i64 ↑a), .v (.int .i64 ↑b), .fn 145 []] [(.r 0, .rp 105 5 (ePairs (A ++ X ++ Z)))] [(.r 0, .rp 105 5 (ePairs (A ++ So.ss X ++ Z)))] (.tu []) := by
 have hln : A.length + X.length + Z.length = n := by rw [← hn]; simp; omega
 obtain ⟨X1, X2, rfl, h0, hs⟩ : ∃ X1 X2, X = X1 ++ X2 ∧ (X2 = [] ∧ b ≤ a + 1 ∨ a + 1 = a + X1.length ∧ 0 < X1.length) ∧ So.ss X1 = X1 := by
  cases X with
  | nil => exact ⟨[], [], rfl, .inl ⟨rfl, by simp at hb; omega⟩, rfl⟩
  | cons x X => exact ⟨[x], X, rfl, .inr ⟨rfl, Nat.one_pos⟩, So.ss_one x⟩
 obtain ⟨X, hXX⟩ : ∃ X, X1 ++ X2 = X := ⟨_, rfl⟩
 rw [hXX] at hb hln
 refine callG_of_dw 1 53 [] TSO_ok (by kernel_rfl) Try.func206 rfl Try.ntmps206 rfl (by simp) ?dwords ?dbody
 case dwords => simp [wordsG, rowN, rowsR, gkey, Key.eq, D.ok, D.oks, D.okss, rnames, inN, ckey, ePairs_ok]
 case dbody =>
  intro cx hnt hn0
  refine dw_seq ?_; refine dwk [(11, .v (.int .i64 (↑(a + 1))))] TSO_ok hnt fun K hK => ?_; refine And.intro auI ?_; refine hK _ _ ?_; clear hK K; refine dw_block ?_
  refine dw_loop (ι := { p : List (Int × Tm) × List (Int × Tm) × Nat // p.1 ++ p.2.1 = X ∧ (p.2.1 = [] ∧ b ≤ p.2.2 ∨ p.2.2 = a + p.1.length ∧ 0 < p.1.length) }) (fun p => [(.t 0, .ps 0 n), (.t 1, .v (.int .i64 ↑a)), (.t 2, .v (.int .i64 ↑b)), (.t 3, .fn 145 []), (.t 8, .v (.int .i64 ↑p.1.2.2)), (.r 0, .rp 105 5 (ePairs (A ++ So.ss p.1.1 ++ p.1.2.1 ++ Z)))]) 1 (fun p => p.1.2.1.length) (⟨(X1, X2, a + 1), hXX, h0⟩) ((VS.toK (by omega) (by repeat first | exact trivial | refine And.intro (And.intro (by first | rfl | simp [D.ok, D.oks, D.okss, D.okm, upto, keyOk, argsT, hs]) (by first | exact Or.inl rfl | exact Or.inr ⟨_, rfl, (by repeat first | exact VLe.refl _ | exact VLe.nil _ | exact VLe.untag _ _ _ | refine VLe.ag ?_ | refine VLe.tu ?_ | refine VLeL.cons ?_ ?_ | exact VLeL.nil), trivial⟩ | simp [get, Key.eq, argsT, hs])) ?_))) fun j => ?_
  obtain ⟨⟨Y1, Y2, i⟩, hY, hi⟩ := j
  dsimp only at hY hi ⊢
  have hYl : X.length = Y1.length + Y2.length := by rw [← hY]; simp
  cases Y2 with
  | nil =>
   have hib : b ≤ i := by
    rcases hi with hi | hi
    ·exact hi.2
    ·rw [List.length_nil] at hYl; omega
   rw [List.append_nil] at hY ⊢
   subst hY
   rw [hXX]
   refine dw_seq ?_; refine dw_seq ?_; refine dwk [(14, .v (.bool false))] TSO_ok hnt fun K hK => ?_; refine And.intro auF ?_; refine hK _ _ ?_; clear hK K; refine dw_cond (t := false) rfl ?_; rw [if_neg (by simp)]; refine dw_exit ?_
   exact reta rfl
  | cons x Y2 =>
   have hi2 : i = a + Y1.length := by
    rcases hi with hi | hi
    ·cases hi.1
    ·exact hi.1
   rw [List.length_cons] at hYl
   refine dw_seq ?_; refine dw_seq ?_; refine dwk [(14, .v (.bool true))] TSO_ok hnt fun K hK => ?_; refine And.intro auT ?_; refine hK _ _ ?_; clear hK K; refine dw_cond (t := true) rfl ?_; rw [if_pos rfl]; refine dw_skip ?_; refine dw_seq ?_; refine dw_block ?_; refine dw_seq ?_; refine dwk [(9, .v (.int .i64 ↑(a + (So.ss Y1).length)))] TSO_ok hnt fun K hK => ?_; refine And.intro (VLe.of_eq (by rw [So.ss_len, hi2])) ?_
   refine hK _ _ ?_; clear hK K; refine dw_block ?_
   refine dw_loop (ι := { p : List (Int × Tm) × List (Int × Tm) // p.1 ++ p.2 = So.ss Y1 ∧ ∀ s ∈ p.2, x.1 < s.1 }) (fun p => [(.t 0, .ps 0 n), (.t 1, .v (.int .i64 ↑a)), (.t 2, .v (.int .i64 ↑b)), (.t 3, .fn 145 []), (.t 8, .v (.int .i64 ↑i)), (.t 9, .v (.int .i64 ↑(a + p.1.1.length))), (.r 0, .rp 105 5 (ePairs (A ++ p.1.1 ++ x :: p.1.2 ++ Y2 ++ Z)))]) 1 (fun p => p.1.1.length) (⟨(So.ss Y1, []), by simp, by simp⟩) (VS.toA) fun j => ?_
   obtain ⟨⟨S1, S2⟩, hS, hg⟩ := j
   dsimp only at hS hg ⊢
   have hSl : S1.length + S2.length = Y1.length := by rw [← So.ss_len Y1, ← hS]; simp
   obtain ⟨L, hL⟩ : ∃ L, A ++ S1 ++ x :: S2 ++ Y2 ++ Z = L := ⟨_, rfl⟩
   have hnL : L.length = n := by rw [← hL]; simp; omega
   rw [hL]
   have hdone : ∀ h1 : (∀ s ∈ S1, s.1 ≤ x.1), L = A ++ So.ss (Y1 ++ [x]) ++ Y2 ++ Z := fun h1 => by
    rw [So.ss_snoc hS h1 hg, ← hL]; simp
   rcases snoc_cases S1 with rfl | ⟨S, s, rfl⟩
   ·rw [hdone (by simp)]
    refine dw_seq ?_; refine dw_seq ?_; refine dwkD [(20, .v (.bool false))] TSO_ok hnt fun K hK => ?_; refine And.intro (by first | exact dfalse (by simp) | exact VLe.of_eq (by simp)) ?_; refine hK _ _ (by kernel_rfl) ?_; clear hK K; refine dw_cond (t := false) rfl ?_; rw [if_neg (by simp)]; refine dw_exit ?_; refine dwk [(16, .v (.int .i64 (↑(i + 1))))] TSO_ok hnt fun K hK => ?_; refine And.intro (dintE (by rw [IntWalk.i64_in _ (by omega)]; omega)) ?_
    refine hK _ _ ?_; clear hK K
    refine ⟨⟨(Y1 ++ [x], Y2, i + 1), by rw [← hY]; simp, .inr ⟨by simp; omega, by simp⟩⟩, by simp, VS.toA⟩
   ·have hj : a + (S ++ [s]).length = a + S.length + 1 := by simp; omega
    rw [hj]
    simp at hSl
    have hx : L[a + S.length + 1]? = some x := at_ (P := A ++ S ++ [s]) (R := S2 ++ Y2 ++ Z) (by rw [← hL]; simp) (by simp; omega)
    have hy : L[a + S.length]? = some s := at_ (P := A ++ S) (R := x :: S2 ++ Y2 ++ Z) (by rw [← hL]; simp) (by simp; omega)
    have lx := pl_lt hnL hx
    have ho := sorder_d x s
    rw [ePair_eq, ePair_eq] at ho
    by_cases hlt : x.1 < s.1
    ·skip
     refine dw_seq ?_; refine dw_seq ?_; refine dwkD [(20, .v (.bool true)), (25, .pr 0 n 5 ((a + S.length + 1)) 0), (26, .ag [.v (.int .i64 x.1), .sl 2 (eTys x.2.binds) none, .v (.int .i64 x.2.kind), .v (.int .i64 x.2.index), .sl 4 (eTms x.2.args) none]), (29, .v (.int .i64 (↑(a + S.length)))), (30, .pr 0 n 5 ((a + S.length)) 0), (31, .ag [.v (.int .i64 s.1), .sl 2 (eTys s.2.binds) none, .v (.int .i64 s.2.kind), .v (.int .i64 s.2.index), .sl 4 (eTms s.2.args) none]), (33, .v (.bool true))] TSO_ok hnt fun K hK => ?_
     refine And.intro (by first | exact dtrue (by simp; omega) | exact VLe.of_eq (by simp; omega)) ?_; refine And.intro (by constructor <;> omega) ?_; refine And.intro (by first | rfl | exact VLe.of_eq (by simp)) ?_; refine And.intro (pl_ok hnL hx) ?_; refine And.intro (pl_eq hx) ?_; refine And.intro auI ?_; refine And.intro (by constructor <;> omega) ?_; refine And.intro (by first | rfl | exact VLe.of_eq (by simp)) ?_
     refine And.intro (pl_ok hnL hy) ?_; refine And.intro (pl_eq hy) ?_; refine dcl (ho) ?_; refine And.intro (dtrue (cmpI_lt.2 hlt)) ?_; refine hK _ _ (by kernel_rfl) ?_; clear hK K; refine dw_cond (t := true) rfl ?_; rw [if_pos rfl]; refine dw_skip ?_; refine dw_seq ?_; refine dw_block ?_; refine dwkD [(41, .v (.int .i64 (↑(a + S.length)))), (44, .v (.int .i64 (↑(a + S.length)))), (45, .pr 0 n 5 ((a + S.length)) 0), (46, .ag [.v (.int .i64 s.1), .sl 2 (eTys s.2.binds) none, .v (.int .i64 s.2.kind), .v (.int .i64 s.2.index), .sl 4 (eTms s.2.args) none]), (49, .pr 0 n 5 ((a + S.length + 1)) 0), (50, .ag [.v (.int .i64 x.1), .sl 2 (eTys x.2.binds) none, .v (.int .i64 x.2.kind), .v (.int .i64 x.2.index), .sl 4 (eTms x.2.args) none]), (51, .pr 0 n 5 ((a + S.length + 1)) 0), (52, .pr 0 n 5 ((a + S.length)) 0)] TSO_ok hnt fun K hK => ?_
     refine And.intro auI ?_; refine And.intro auI ?_; refine And.intro (by constructor <;> omega) ?_; refine And.intro (by first | rfl | exact VLe.of_eq (by simp)) ?_; refine And.intro (pl_ok hnL hy) ?_; refine And.intro (pl_eq hy) ?_; refine And.intro (by constructor <;> omega) ?_; refine And.intro (by first | rfl | exact VLe.of_eq (by simp)) ?_; refine And.intro (pl_ok hnL hx) ?_; refine And.intro (pl_eq hx) ?_
     refine And.intro (by constructor <;> omega) ?_; refine And.intro (by first | rfl | exact VLe.of_eq (by simp)) ?_; refine And.intro (st_ok hnL hx) ?_; refine And.intro (by constructor <;> omega) ?_; refine And.intro (by first | rfl | exact VLe.of_eq (by simp)) ?_; refine And.intro (st_ok2 hnL hy) ?_; refine hK _ _ (by kernel_rfl) ?_; clear hK K
     rw [eP_swap' (P := A ++ S) (Q := []) (R := S2 ++ Y2 ++ Z) (L' := A ++ S ++ x :: (s :: S2) ++ Y2 ++ Z) (by rw [← hL]; simp) (by simp; omega) (by simp) (by simp)]
     refine dwk [(36, .v (.int .i64 (↑(a + S.length))))] TSO_ok hnt fun K hK => ?_; refine And.intro auI ?_; refine hK _ _ ?_; clear hK K
     refine ⟨⟨(S, s :: S2), by rw [← hS]; simp, fun u hu => (List.mem_cons.1 hu).elim (fun e => e ▸ hlt) (hg u)⟩, by simp, VS.toA⟩
    ·have hsrt := So.ss_srt Y1
     rw [← hS] at hsrt
     have hall : ∀ u ∈ S ++ [s], u.1 ≤ x.1 := fun u hu => by
      rcases List.mem_append.1 hu with hu | hu
      ·have := (So.srt_app.1 (So.srt_app.1 hsrt).1).2.2 u hu s (by simp); omega
      ·rw [List.mem_singleton] at hu; subst hu; omega
     refine dw_seq ?_; refine dw_seq ?_; refine dwkD [(20, .v (.bool true)), (25, .pr 0 n 5 ((a + S.length + 1)) 0), (26, .ag [.v (.int .i64 x.1), .sl 2 (eTys x.2.binds) none, .v (.int .i64 x.2.kind), .v (.int .i64 x.2.index), .sl 4 (eTms x.2.args) none]), (29, .v (.int .i64 (↑(a + S.length)))), (30, .pr 0 n 5 ((a + S.length)) 0), (31, .ag [.v (.int .i64 s.1), .sl 2 (eTys s.2.binds) none, .v (.int .i64 s.2.kind), .v (.int .i64 s.2.index), .sl 4 (eTms s.2.args) none]), (33, .v (.bool false))] TSO_ok hnt fun K hK => ?_
     refine And.intro (by first | exact dtrue (by simp; omega) | exact VLe.of_eq (by simp; omega)) ?_; refine And.intro (by constructor <;> omega) ?_; refine And.intro (by first | rfl | exact VLe.of_eq (by simp)) ?_; refine And.intro (pl_ok hnL hx) ?_; refine And.intro (pl_eq hx) ?_; refine And.intro auI ?_; refine And.intro (by constructor <;> omega) ?_; refine And.intro (by first | rfl | exact VLe.of_eq (by simp)) ?_
     refine And.intro (pl_ok hnL hy) ?_; refine And.intro (pl_eq hy) ?_; refine dcl (ho) ?_; refine And.intro (dfalse (fun h => hlt (cmpI_lt.1 h))) ?_; refine hK _ _ (by kernel_rfl) ?_; clear hK K; refine dw_cond (t := false) rfl ?_; rw [if_neg (by simp)]
     rw [hdone hall]
     refine dw_exit ?_; refine dwk [(16, .v (.int .i64 (↑(i + 1))))] TSO_ok hnt fun K hK => ?_; refine And.intro auI ?_; refine hK _ _ ?_; clear hK K
     refine ⟨⟨(Y1 ++ [x], Y2, i + 1), by rw [← hY]; simp, .inr ⟨by simp; omega, by simp⟩⟩, by simp, VS.toA⟩
end Go.Proofs.Ytdmiekaeodcehaa

