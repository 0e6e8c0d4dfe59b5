/-
  Terms, walked in the deep way: Equal, Eta, Var; the document's Same, Eta, Var. term.Loose. Package pattern, walked in the deep way: what is small. Deep values: a function that hands back a new map. Package pattern, walked in the deep way: Flex, Vars, places, types. Package pattern, walked in the deep way: places, types. The laws' helpers of layers 8 and 9: Low, Of. Package pattern, walked in the deep way: turned, Take. Package pattern, walked in the deep way: Take. Deep values: calls that grow rows of their callers. Package pattern, walked in the deep way: uses, Uses, Is. Deep values: rows that nothing else reads: how they begin, how they are handed on. Sorting that keeps the order of equal keys, in plain words. Places, uses and matching in plain Lean: the document's answer and the program's are one. Package slices' stable sort of pairs, walked in the deep way: insertion, swaps, rotation. Package slices' stable sort of pairs, walked in the deep way: the merge. Package slices' stable sort of pairs, walked in the deep way: the merge of many. Package slices' stable sort of pairs, walked in the deep way: the whole; subst.sorted, subst.Of. Package subst's lists, walked in the deep way: Without, Set, Domain, Get. The document's places and uses, walked in the deep way: All, At, Has, Vars, Uses; loose indexes. How many types and terms: exactly what the reference counts. How many terms: exactly what the reference counts; the laws' Few. What the laws' Few tells of a term. The laws' Small (seats without Chk9). Types and terms of the laws, there and back, walked in the deep way.
-/
import Derived.Test.YtflbnonbfmmchaaGreatRowRuleKeepsp5
import Derived.Test.YtflbnonbfmmchaaGreatRowRuleKeepsp4
set_option maxRecDepth 100000
set_option maxHeartbeats 1000000
set_option linter.unusedVariables false
set_option linter.unusedSimpArgs false
namespace Go.Proofs.YtflbnonbfmmchaaGreat
open Go.RowKit
def TTM_41 : TI := ⟨4, true, [Value.slice none 0 0, Value.int IntKind.i64 0, Value.int IntKind.i64 0, Value.slice none 0 0], [(0, 1, false), (1, 2, true), (3, 1, false)], none, 64, 6, none, false⟩
theorem TTM_41_ok : TypOk Tryz.prog 41 TTM_41 := by constructor <;> kernel_rfl
def TTM_38 : TI := ⟨2, true, [Value.int IntKind.i64 0, Value.int IntKind.i64 0], [(0, 1, false), (1, 1, false)], none, 16, 6, none, true⟩
theorem TTM_38_ok : TypOk Tryz.prog 38 TTM_38 := by constructor <;> kernel_rfl
def TTM_3 : TI := ⟨1, false, [Value.int IntKind.i64 0], [], none, 8, 2, none, false⟩
theorem TTM_3_ok : TypOk Tryz.prog 3 TTM_3 := by constructor <;> kernel_rfl
def TTM_39 : TI := ⟨1, false, [Value.slice none 0 0], [], some 41, 24, 5, none, false⟩
theorem TTM_39_ok : TypOk Tryz.prog 39 TTM_39 := by constructor <;> kernel_rfl
def TTM_33 : TI := ⟨1, false, [Value.slice none 0 0], [], some 44, 24, 5, none, false⟩
theorem TTM_33_ok : TypOk Tryz.prog 33 TTM_33 := by constructor <;> kernel_rfl
def TTM_44 : TI := ⟨2, true, [Value.slice none 0 0, Value.int IntKind.i64 0], [(0, 1, false), (1, 1, false)], none, 32, 6, none, false⟩
theorem TTM_44_ok : TypOk Tryz.prog 44 TTM_44 := by constructor <;> kernel_rfl
def TTM_144 : TI := ⟨1, false, [Value.nilFunc], [], none, 8, 8, none, false⟩
theorem TTM_144_ok : TypOk Tryz.prog 144 TTM_144 := by constructor <;> kernel_rfl
def TTM_58 : TI := ⟨1, false, [Value.nilFunc], [], none, 8, 8, none, false⟩
theorem TTM_58_ok : TypOk Tryz.prog 58 TTM_58 := by constructor <;> kernel_rfl
def TTM : List (Nat × TI) := [(41, TTM_41), (38, TTM_38), (3, TTM_3), (39, TTM_39), (33, TTM_33), (44, TTM_44), (144, TTM_144), (58, TTM_58)]
theorem TTM_ok : TabOk Tryz.prog TTM := (((((((((TabOk.nil _).cons TTM_58_ok).cons TTM_144_ok).cons TTM_44_ok).cons TTM_33_ok).cons TTM_39_ok).cons TTM_3_ok).cons TTM_38_ok).cons TTM_41_ok)

theorem bindsT (b : List Ty) (k i : Int) (a : List Tm) : (Tm.mk b k i a).binds = b := rfl
theorem kindT (b : List Ty) (k i : Int) (a : List Tm) : (Tm.mk b k i a).kind = k := rfl
theorem indexT (b : List Ty) (k i : Int) (a : List Tm) : (Tm.mk b k i a).index = i := rfl
theorem argsTm (b : List Ty) (k i : Int) (a : List Tm) : (Tm.mk b k i a).args = a := rfl
theorem eqTmsA (l r : List Tm) (h : ∀ t ∈ l, ∀ u, PureC Tryz.prog 20 [.ag (eTm t), .ag (eTm u)] (.v (.bool (decide (t = u))))) : PureC Tryz.prog 70 [.sl 4 (eTms l) none, .sl 4 (eTms r) none, .fn 20 []] (.v (.bool (decide (l = r)))) := CallC.lens fun hlen => by
 have hl : l.length ≤ 9223372036854775807 := by have := hlen _ (List.mem_cons_self ..); simp only [slOk, sl1, eTms_len] at this; exact this
 by_cases hlr : l.length = r.length
 ·skip
  refine calldw 0 32 [ResultVar.tmp 6] TTM_ok Tryz.func70 rfl Tryz.ntmps70 rfl fun cx hnt hn0 => ?_
  ·skip
   refine dw_seq ?_; refine dwk [] TTM_ok hnt fun K hK => ?_; refine hK _ _ ?_; clear hK K; refine dw_seq ?_; refine dw_seq ?_; refine dwk [(11, .v (.int .i64 (↑l.length))), (13, .v (.int .i64 (↑r.length))), (14, .v (.bool false))] TTM_ok hnt fun K hK => ?_; refine And.intro (dintE (by rw [eTms_len])) ?_; refine And.intro (dintE (by rw [eTms_len])) ?_; refine And.intro (bneF (by omega)) ?_; refine hK _ _ ?_; clear hK K
   refine dw_cond (t := false) rfl ?_; rw [if_neg (by simp)]; refine dw_skip ?_; refine dw_seq ?_; refine dw_seq ?_; refine dwk [(16, .v (.int .i64 (↑l.length)))] TTM_ok hnt fun K hK => ?_; refine And.intro (dintE (by rw [eTms_len])) ?_; refine hK _ _ ?_; clear hK K; refine dw_block ?_
   refine dw_loop (ι := { j : Nat // l.take j = r.take j }) (fun j => [(.t 1, .sl 4 (eTms r) none), (.t 2, .fn 20 []), (.t 15, .sl 4 (eTms l) none), (.t 16, .v (.int .i64 ↑l.length)), (.t 17, .v (.int .i64 ↑j.1))]) 0 (fun j => l.length - j.1) (⟨0, rfl⟩) (VS.toA) fun j => ?_
   obtain ⟨j, hj⟩ := j
   dsimp only
   by_cases hlt : j < l.length
   ·have hlt2 : j < r.length := by omega
    have hq := h l[j] (List.getElem_mem hlt) r[j]
    rw [eTm_eq, eTm_eq] at hq
    by_cases he : l[j] = r[j]
    ·rw [decide_eq_true he] at hq
     refine dw_seq ?_; refine dwk [(18, .v (.bool true))] TTM_ok hnt fun K hK => ?_; refine And.intro auT ?_; refine hK _ _ ?_; clear hK K; refine dw_seq ?_; refine dw_cond (t := true) rfl ?_; rw [if_pos rfl]; refine dw_skip ?_; refine dw_seq ?_; refine dw_block ?_; refine dw_seq ?_; refine dwk [(20, .q [.sl 2 (eTys l[j].binds) none, .v (.int .i64 l[j].kind), .v (.int .i64 l[j].index), .sl 4 (eTms l[j].args) none])] TTM_ok hnt fun K hK => ?_
     refine And.intro (elo (eTms_len l)) ?_; refine And.intro (elv (eTms_getD l j) (eTm_eq _)) ?_; refine hK _ _ ?_; clear hK K; refine dw_seq ?_; refine dwk [(24, .q [.sl 2 (eTys r[j].binds) none, .v (.int .i64 r[j].kind), .v (.int .i64 r[j].index), .sl 4 (eTms r[j].args) none])] TTM_ok hnt fun K hK => ?_; refine And.intro (elo (eTms_len r)) ?_; refine And.intro (elv (eTms_getD r j) (eTm_eq _)) ?_; refine hK _ _ ?_; clear hK K
     refine dw_seq ?_; refine dwk [] TTM_ok hnt fun K hK => ?_; refine dcl (hq) ?_; refine hK _ _ ?_; clear hK K; refine dw_cond (t := false) rfl ?_; rw [if_neg (by simp)]; refine dw_skip ?_; refine dwk [(31, .v (.int .i64 (↑(j + 1))))] TTM_ok hnt fun K hK => ?_; refine And.intro auI ?_; refine hK _ _ ?_; clear hK K
     refine ⟨⟨j + 1, take_succ_eq hj hlt hlt2 he⟩, by first | omega | (dsimp only; omega), VS.toA⟩
    ·rw [decide_eq_false he] at hq
     rw [decide_eq_false (ne_at hlt hlt2 he)]
     refine dw_seq ?_; refine dwk [(18, .v (.bool true))] TTM_ok hnt fun K hK => ?_; refine And.intro auT ?_; refine hK _ _ ?_; clear hK K; refine dw_seq ?_; refine dw_cond (t := true) rfl ?_; rw [if_pos rfl]; refine dw_skip ?_; refine dw_seq ?_; refine dw_block ?_; refine dw_seq ?_; refine dwk [(20, .q [.sl 2 (eTys l[j].binds) none, .v (.int .i64 l[j].kind), .v (.int .i64 l[j].index), .sl 4 (eTms l[j].args) none])] TTM_ok hnt fun K hK => ?_
     refine And.intro (elo (eTms_len l)) ?_; refine And.intro (elv (eTms_getD l j) (eTm_eq _)) ?_; refine hK _ _ ?_; clear hK K; refine dw_seq ?_; refine dwk [(24, .q [.sl 2 (eTys r[j].binds) none, .v (.int .i64 r[j].kind), .v (.int .i64 r[j].index), .sl 4 (eTms r[j].args) none])] TTM_ok hnt fun K hK => ?_; refine And.intro (elo (eTms_len r)) ?_; refine And.intro (elv (eTms_getD r j) (eTm_eq _)) ?_; refine hK _ _ ?_; clear hK K
     refine dw_seq ?_; refine dwk [] TTM_ok hnt fun K hK => ?_; refine dcl (hq) ?_; refine hK _ _ ?_; clear hK K; refine dw_cond (t := true) rfl ?_; rw [if_pos rfl]; refine dw_seq ?_; refine dwk [] TTM_ok hnt fun K hK => ?_; refine hK _ _ ?_; clear hK K; refine dw_ret ?_
     exact reta rfl
   ·rw [decide_eq_true (eq_of_take hj (by omega) (by omega))]
    refine dw_seq ?_; refine dwk [(18, .v (.bool false))] TTM_ok hnt fun K hK => ?_; refine And.intro auF ?_; refine hK _ _ ?_; clear hK K; refine dw_seq ?_; refine dw_cond (t := false) rfl ?_; rw [if_neg (by simp)]; refine dw_exit ?_; refine dw_seq ?_; refine dwk [] TTM_ok hnt fun K hK => ?_; refine hK _ _ ?_; clear hK K; refine dw_ret ?_
    exact reta rfl
 ·rw [decide_eq_false (fun e => hlr (by rw [e]))]
  refine calldw 0 32 [ResultVar.tmp 6] TTM_ok Tryz.func70 rfl Tryz.ntmps70 rfl fun cx hnt hn0 => ?_
  ·skip
   refine dw_seq ?_; refine dwk [] TTM_ok hnt fun K hK => ?_; refine hK _ _ ?_; clear hK K; refine dw_seq ?_; refine dw_seq ?_; refine dwk [(11, .v (.int .i64 (↑l.length))), (13, .v (.int .i64 (↑r.length))), (14, .v (.bool true))] TTM_ok hnt fun K hK => ?_; refine And.intro (dintE (by rw [eTms_len])) ?_; refine And.intro (dintE (by rw [eTms_len])) ?_; refine And.intro (bneT (by omega)) ?_; refine hK _ _ ?_; clear hK K
   refine dw_cond (t := true) rfl ?_; rw [if_pos rfl]; refine dw_seq ?_; refine dwk [] TTM_ok hnt fun K hK => ?_; refine hK _ _ ?_; clear hK K; refine dw_ret ?_
   exact reta rfl
theorem tm_ext {t u : Tm} : t = u ↔ (t.kind = u.kind ∧ t.index = u.index) ∧ t.binds = u.binds ∧ t.args = u.args := by
  obtain ⟨b, k, i, a⟩ := t
  obtain ⟨b', k', i', a'⟩ := u
  simp only [bindsT, kindT, indexT, argsTm, Tm.mk.injEq]
  exact ⟨fun ⟨h1, h2, h3, h4⟩ => ⟨⟨h2, h3⟩, h1, h4⟩, fun ⟨⟨h1, h2⟩, h3, h4⟩ => ⟨h3, h1, h2, h4⟩⟩
theorem equal2_d : ∀ t u : Tm, PureC Tryz.prog 20 [.ag (eTm t), .ag (eTm u)] (.v (.bool (decide (t = u)))) := by
 intro t
 induction t using Tm.ind with
 | h b k i a ih =>
 intro u
 have hq := eqTmsA a u.args ih
 have hb := eqTys_d b u.binds 69 rfl
 rw [eTm_eq, eTm_eq]
 simp only [bindsT, kindT, indexT, argsTm]
 by_cases h1 : k = u.kind ∧ i = u.index
 ·by_cases h2 : b = u.binds
  ·rw [show decide (Tm.mk b k i a = u) = decide (a = u.args) by rw [Bool.eq_iff_iff, decide_eq_true_iff, decide_eq_true_iff, tm_ext]; simp [bindsT, kindT, indexT, argsTm, h1, h2]]
   rw [decide_eq_true h2] at hb
   refine calldw 0 24 [ResultVar.tmp 4] TTM_ok Tryz.func20 rfl Tryz.ntmps20 rfl fun cx hnt hn0 => ?_
   ·skip
    refine dw_seq ?_; refine dwk [] TTM_ok hnt fun K hK => ?_; refine hK _ _ ?_; clear hK K; refine dw_seq ?_; refine dwk [(9, .v (.bool true))] TTM_ok hnt fun K hK => ?_; refine And.intro (VLe.of_eq (by congr 2; simp [h1])) ?_; refine dcl (hb) ?_; refine dcl (hq) ?_; refine hK _ _ ?_; clear hK K; refine dw_ret ?_
    exact reta rfl
  ·rw [show decide (Tm.mk b k i a = u) = false from decide_eq_false fun e => h2 (by rw [← e]; rfl)]
   rw [decide_eq_false h2] at hb
   refine calldw 0 24 [ResultVar.tmp 4] TTM_ok Tryz.func20 rfl Tryz.ntmps20 rfl fun cx hnt hn0 => ?_
   ·skip
    refine dw_seq ?_; refine dwk [] TTM_ok hnt fun K hK => ?_; refine hK _ _ ?_; clear hK K; refine dw_seq ?_; refine dwk [(9, .v (.bool true))] TTM_ok hnt fun K hK => ?_; refine And.intro (VLe.of_eq (by congr 2; simp [h1])) ?_; refine dcl (hb) ?_; refine hK _ _ ?_; clear hK K; refine dw_ret ?_
    exact reta rfl
 ·rw [show decide (Tm.mk b k i a = u) = false from decide_eq_false fun e => h1 (by rw [← e]; exact ⟨rfl, rfl⟩)]
  refine calldw 0 24 [ResultVar.tmp 4] TTM_ok Tryz.func20 rfl Tryz.ntmps20 rfl fun cx hnt hn0 => ?_
  ·skip
   refine dw_seq ?_; refine dwk [] TTM_ok hnt fun K hK => ?_; refine hK _ _ ?_; clear hK K; refine dw_seq ?_; refine dwk [(9, .v (.bool false))] TTM_ok hnt fun K hK => ?_; refine And.intro (VLe.of_eq (by congr 2; by_cases h3 : k = u.kind <;> by_cases h4 : i = u.index <;> simp_all)) ?_; refine hK _ _ ?_; clear hK K; refine dw_ret ?_
   exact reta rfl
/-! long forms -/
theorem eTms_snoc (l : List Tm) (j : Nat) (h : j < l.length) : eTms (l.take j) ++ [[.sl 2 (eTys l[j].binds) none, .v (.int .i64 l[j].kind), .v (.int .i64 l[j].index), .sl 4 (eTms l[j].args) none]] = eTms (l.take (j + 1)) := by
  rw [← eTm_eq, List.take_add_one, List.getElem?_eq_getElem h, Option.toList_some, eTms_map, eTms_map, List.map_append]; rfl
/-! of which head -/
def varV (t : Tm) : D := .tu [.ag [.v (.int .i64 (if longB t then t.kind else 0)), .v (.int .i64 (if longB t then t.headIx else 0))], .v (.bool (longB t))]
theorem longB_mk (b : List Ty) (k i : Int) (a : List Tm) : longB (.mk b k i a) = (decide (a = Ty.etas b) && (!decide (k = 0) || decide ((b.length : Int) ≤ i))) := rfl
theorem headIx_mk (b : List Ty) (k i : Int) (a : List Tm) : (Tm.mk b k i a).headIx = if k = 0 then i - (b.length : Nat) else i := rfl
theorem eta_iff {u : Tm} {b : Ty} {x : Int} (hx : 0 ≤ x) : u = Ty.eta b 0 x ↔ longB u = true ∧ (u.kind = 0 ∧ u.headIx = x) ∧ u.binds = b.args := by
  obtain ⟨l, c⟩ := b
  obtain ⟨bs, k, i, a⟩ := u
  rw [Ty.eta_eq, if_pos rfl, longB_mk, headIx_mk, Tm.mk.injEq, Bool.and_eq_true, Bool.or_eq_true, Bool.not_eq_true', decide_eq_true_eq, decide_eq_false_iff_not, decide_eq_true_eq]
  constructor
  · rintro ⟨rfl, rfl, rfl, rfl⟩
    refine ⟨⟨rfl, .inr (by omega)⟩, ⟨rfl, ?_⟩, rfl⟩
    rw [if_pos rfl]; omega
  · rintro ⟨⟨h1, h2⟩, ⟨h3, h4⟩, h5⟩
    have h3 : k = 0 := h3
    have h5 : bs = l := h5
    rw [if_pos h3] at h4
    subst h5
    exact ⟨rfl, h3, by omega, h1⟩
theorem longB_args {t : Tm} (h : t.args ≠ Ty.etas t.binds) : longB t = false := by unfold longB; rw [decide_eq_false h]; rfl
set_option maxHeartbeats 2000000 in
theorem var_d : ∀ (t : Tm), t.full ≤ 700000 → t.Fit → PureC Tryz.prog 185 [.ag (eTm t)] (varV t) := by
 intro t
 induction t using Tm.ind with
 | h b k i a ih =>
 intro hz hf
 obtain ⟨f1, f2, f3⟩ := Tm.fit_iff.1 hf
 rw [Tm.full_eq] at hz
 have hbl := Ty.le_sizes b
 have hal : a.length ≤ Tm.fulls a := by
  clear ih hz hf f3
  induction a with
  | nil => simp
  | cons u a ih => have : 1 ≤ u.full := Tm.full_pos u; simp only [Tm.fulls, List.length_cons]; omega
 unfold varV
 rw [eTm_eq]
 by_cases hlen : a.length = b.length
 ·by_cases hk : k = 0 ∧ i < (b.length : Int)
  ·have hlo : longB (.mk b k i a) = false := by
    rw [longB_mk, decide_eq_true hk.1, decide_eq_false (by omega : ¬ (b.length : Int) ≤ i)]; simp
   rw [hlo]
   simp only [bindsT, kindT, indexT, argsTm]
   refine calldw 0 78 [ResultVar.cell 2 38, ResultVar.tmp 3] TTM_ok Tryz.func185 rfl Tryz.ntmps185 rfl fun cx hnt hn0 => ?_
   ·skip
    refine dw_seq ?_; refine dwk [] TTM_ok hnt fun K hK => ?_; refine hK _ _ ?_; clear hK K; refine dw_seq ?_; refine dwk [(12, .v (.int .i64 (↑b.length)))] TTM_ok hnt fun K hK => ?_; refine And.intro (dintE (by rw [eTys_len])) ?_; refine hK _ _ ?_; clear hK K; refine dw_seq ?_; refine dwk [] TTM_ok hnt fun K hK => ?_; refine hK _ _ ?_; clear hK K; refine dw_seq ?_; refine dw_seq ?_; refine dwk [(17, .v (.int .i64 (↑a.length))), (19, .v (.bool false)), (23, .v (.bool true)), (28, .v (.bool true))] TTM_ok hnt fun K hK => ?_
    refine And.intro (dintE (by rw [eTms_len])) ?_; refine And.intro (bneF (by omega)) ?_; refine And.intro (beqT hk.1) ?_; refine And.intro auT ?_; refine hK _ _ ?_; clear hK K; refine dw_cond (t := true) rfl ?_; rw [if_pos rfl]; refine dw_seq ?_; refine dwk [] TTM_ok hnt fun K hK => ?_; refine hK _ _ ?_; clear hK K; refine dw_ret ?_
    exact reta rfl
  ·have hlo : longB (.mk b k i a) = decide (a = Ty.etas b) := by
    rw [longB_mk]
    by_cases h : k = 0
    ·rw [decide_eq_true (show (b.length : Int) ≤ i by omega)]; simp
    ·rw [decide_eq_false h]; simp
   have hhd : (Tm.mk b k i a).headIx = if k = 0 then i - (b.length : Nat) else i := rfl
   rw [hlo, hhd]
   simp only [bindsT, kindT, indexT, argsTm]
   refine calldw 0 78 [ResultVar.cell 2 38, ResultVar.tmp 3] TTM_ok Tryz.func185 rfl Tryz.ntmps185 rfl fun cx hnt hn0 => ?_
   ·skip
    refine dw_seq ?_; refine dwk [] TTM_ok hnt fun K hK => ?_; refine hK _ _ ?_; clear hK K; refine dw_seq ?_; refine dwk [(12, .v (.int .i64 (↑b.length)))] TTM_ok hnt fun K hK => ?_; refine And.intro (dintE (by rw [eTys_len])) ?_; refine hK _ _ ?_; clear hK K; refine dw_seq ?_; refine dwk [] TTM_ok hnt fun K hK => ?_; refine hK _ _ ?_; clear hK K
    refine dw_cut (τ := [(.t 1, .p 0 0), (.t 2, .p 1 0), (.t 4, .v (.int .i64 ↑b.length)), (.t 5, .p 9 0), (.c 0 0, .sl 2 (eTys b) none), (.c 0 3, .sl 4 (eTms a) none), (.c 1 0, .v (.int .i64 0)), (.c 1 1, .v (.int .i64 0)), (.c 9 0, .v (.int .i64 k)), (.c 9 1, .v (.int .i64 i))]) (N1 := 10) ?_ ?_
    ·by_cases h : k = 0
     ·skip
      refine dw_seq ?_; refine dwk [(17, .v (.int .i64 (↑a.length))), (19, .v (.bool false)), (23, .v (.bool true)), (28, .v (.bool false))] TTM_ok hnt fun K hK => ?_; refine And.intro (dintE (by rw [eTms_len])) ?_; refine And.intro (bneF (by omega)) ?_; refine And.intro (beqT h) ?_; refine And.intro auF ?_; refine hK _ _ ?_; clear hK K; refine dw_cond (t := false) rfl ?_; rw [if_neg (by simp)]; refine dw_skip ?_
      exact cut_ok VS.toA
     ·skip
      refine dw_seq ?_; refine dwk [(17, .v (.int .i64 (↑a.length))), (19, .v (.bool false)), (23, .v (.bool false))] TTM_ok hnt fun K hK => ?_; refine And.intro (dintE (by rw [eTms_len])) ?_; refine And.intro (bneF (by omega)) ?_; refine And.intro (beqF h) ?_; refine hK _ _ ?_; clear hK K; refine dw_cond (t := false) rfl ?_; rw [if_neg (by simp)]; refine dw_skip ?_
      exact cut_ok VS.toA
    ·skip
     refine dw_seq ?_; refine dw_seq ?_; refine dwk [(34, .v (.int .i64 (↑a.length)))] TTM_ok hnt fun K hK => ?_; refine And.intro (dintE (by rw [eTms_len])) ?_; refine hK _ _ ?_; clear hK K; refine dw_block ?_
     refine dw_loop (ι := { j : Nat // a.take j = (Ty.etas b).take j }) (fun j => [(.t 1, .p 0 0), (.t 2, .p 1 0), (.t 4, .v (.int .i64 ↑b.length)), (.t 5, .p 9 0), (.t 33, .sl 4 (eTms a) none), (.t 34, .v (.int .i64 ↑a.length)), (.t 35, .v (.int .i64 ↑j.1)), (.c 0 0, .sl 2 (eTys b) none), (.c 1 0, .v (.int .i64 0)), (.c 1 1, .v (.int .i64 0)), (.c 9 0, .v (.int .i64 k)), (.c 9 1, .v (.int .i64 i))]) 10 (fun j => a.length - j.1) (⟨0, rfl⟩) (VS.toA) fun j => ?_
     obtain ⟨j, hj⟩ := j
     dsimp only
     by_cases hlt : j < a.length
     ·have hltb : j < b.length := by omega
      have hlte : j < (Ty.etas b).length := by rw [Ty.etas_len]; omega
      have hmem := List.getElem_mem hlt
      have hfm := Tm.full_mem hmem
      have hih := ih a[j] hmem (by omega) (f3 _ hmem)
      have hei := eta_iff (u := a[j]) (b := b[j]) (x := (b.length : Int) - 1 - (j : Int)) (by omega)
      rw [← Ty.etas_get b j hltb] at hei
      have hbad : a[j] ≠ (Ty.etas b)[j] → decide (a = Ty.etas b) = false := fun h => decide_eq_false (ne_at hlt hlte h)
      have hq := eqTys_d a[j].binds b[j].args 69 rfl
      unfold varV at hih
      rw [eTm_eq] at hih
      refine dw_seq ?_; refine dwk [(36, .v (.bool true))] TTM_ok hnt fun K hK => ?_; refine And.intro auT ?_; refine hK _ _ ?_; clear hK K; refine dw_seq ?_; refine dw_cond (t := true) rfl ?_; rw [if_pos rfl]; refine dw_skip ?_; refine dw_seq ?_; refine dw_block ?_; refine dw_seq ?_; refine dwk [(38, .q [.sl 2 (eTys a[j].binds) none, .v (.int .i64 a[j].kind), .v (.int .i64 a[j].index), .sl 4 (eTms a[j].args) none])] TTM_ok hnt fun K hK => ?_
      refine And.intro (elo (eTms_len a)) ?_; refine And.intro (elv (eTms_getD a j) (eTm_eq _)) ?_; refine hK _ _ ?_; clear hK K
      cases h1 : longB a[j] with
      | false =>
       rw [h1] at hih
       rw [hbad fun e => by rw [hei, h1] at e; exact absurd e.1 (by simp)]
       refine dw_seq ?_; refine dwk [] TTM_ok hnt fun K hK => ?_; refine dcl (hih) ?_; refine hK _ _ ?_; clear hK K; refine dw_seq ?_; refine dw_seq ?_; refine dwk [] TTM_ok hnt fun K hK => ?_; refine hK _ _ ?_; clear hK K; refine dw_cond (t := true) rfl ?_; rw [if_pos rfl]; refine dw_seq ?_; refine dwk [] TTM_ok hnt fun K hK => ?_; refine hK _ _ ?_; clear hK K; refine dw_ret ?_
       exact reta rfl
      | true =>
       rw [h1, if_pos rfl, if_pos rfl] at hih
       refine dw_seq ?_; refine dwk [] TTM_ok hnt fun K hK => ?_; refine dcl (hih) ?_; refine hK _ _ ?_; clear hK K
       by_cases h2 : a[j].kind = 0 ∧ a[j].headIx = (b.length : Int) - 1 - (j : Int)
       ·skip
        refine dw_seq ?_; refine dw_seq ?_; refine dwk [(50, .v (.int .i64 (↑b.length - 1))), (52, .v (.int .i64 (↑b.length - 1 - ↑j))), (54, .v (.bool false))] TTM_ok hnt fun K hK => ?_; refine And.intro auI ?_; refine And.intro auI ?_; refine And.intro (VLe.of_eq (by congr 2; simp [h2])) ?_; refine hK _ _ ?_; clear hK K; refine dw_cond (t := false) rfl ?_; rw [if_neg (by simp)]
        by_cases h3 : a[j].binds = b[j].args
        ·rw [decide_eq_true h3] at hq
         refine dw_skip ?_; refine dw_seq ?_; refine dwkD [(62, .q [.sl 2 (eTys b[j].args) none, .v (.int .i64 b[j].base)])] TTM_ok hnt fun K hK => ?_; refine And.intro (elo (eTys_len b)) ?_; refine And.intro (elv (eTys_getD b j) (eTy_eq _)) ?_; refine dcl (hq) ?_; refine hK _ _ (by kernel_rfl) ?_; clear hK K; refine dw_cond (t := false) rfl ?_; rw [if_neg (by simp)]; refine dw_skip ?_; refine dwk [(68, .v (.int .i64 (↑(j + 1))))] TTM_ok hnt fun K hK => ?_
         refine And.intro auI ?_; refine hK _ _ ?_; clear hK K
         refine ⟨⟨j + 1, take_succ_eq hj hlt hlte (hei.2 ⟨h1, h2, h3⟩)⟩, by first | omega | (dsimp only; omega), VS.toA⟩
        ·rw [decide_eq_false h3] at hq
         rw [hbad fun e => h3 (hei.1 e).2.2]
         refine dw_skip ?_; refine dw_seq ?_; refine dwkD [(62, .q [.sl 2 (eTys b[j].args) none, .v (.int .i64 b[j].base)])] TTM_ok hnt fun K hK => ?_; refine And.intro (elo (eTys_len b)) ?_; refine And.intro (elv (eTys_getD b j) (eTy_eq _)) ?_; refine dcl (hq) ?_; refine hK _ _ (by kernel_rfl) ?_; clear hK K; refine dw_cond (t := true) rfl ?_; rw [if_pos rfl]; refine dw_seq ?_; refine dwk [] TTM_ok hnt fun K hK => ?_
         refine hK _ _ ?_; clear hK K; refine dw_ret ?_
         exact reta rfl
       ·rw [hbad fun e => h2 (hei.1 e).2.1]
        refine dw_seq ?_; refine dw_seq ?_; refine dwk [(50, .v (.int .i64 (↑b.length - 1))), (52, .v (.int .i64 (↑b.length - 1 - ↑j))), (54, .v (.bool true))] TTM_ok hnt fun K hK => ?_; refine And.intro auI ?_; refine And.intro auI ?_; refine And.intro (VLe.of_eq (by congr 2; by_cases h4 : a[j].kind = 0 <;> by_cases h5 : a[j].headIx = (b.length : Int) - 1 - (j : Int) <;> simp_all)) ?_; refine hK _ _ ?_; clear hK K
        refine dw_cond (t := true) rfl ?_; rw [if_pos rfl]; refine dw_seq ?_; refine dwk [] TTM_ok hnt fun K hK => ?_; refine hK _ _ ?_; clear hK K; refine dw_ret ?_
        exact reta rfl
     ·rw [decide_eq_true (eq_of_take hj (by omega) (by rw [Ty.etas_len]; omega)), if_pos rfl, if_pos rfl]
      by_cases h : k = 0
      ·rw [if_pos h]; refine dw_seq ?_; refine dwk [(36, .v (.bool false))] TTM_ok hnt fun K hK => ?_; refine And.intro auF ?_; refine hK _ _ ?_; clear hK K; refine dw_seq ?_; refine dw_cond (t := false) rfl ?_; rw [if_neg (by simp)]; refine dw_exit ?_; refine dw_seq ?_; refine dw_seq ?_; refine dwk [(71, .v (.bool true))] TTM_ok hnt fun K hK => ?_; refine And.intro (beqT h) ?_; refine hK _ _ ?_; clear hK K
       refine dw_cond (t := true) rfl ?_; rw [if_pos rfl]; refine dwk [(75, .v (.int .i64 (i - ↑b.length)))] TTM_ok hnt fun K hK => ?_; refine And.intro auI ?_; refine hK _ _ ?_; clear hK K; refine dw_seq ?_; refine dwk [] TTM_ok hnt fun K hK => ?_; refine hK _ _ ?_; clear hK K; refine dw_ret ?_
       exact reta rfl
      ·rw [if_neg h]; refine dw_seq ?_; refine dwk [(36, .v (.bool false))] TTM_ok hnt fun K hK => ?_; refine And.intro auF ?_; refine hK _ _ ?_; clear hK K; refine dw_seq ?_; refine dw_cond (t := false) rfl ?_; rw [if_neg (by simp)]; refine dw_exit ?_; refine dw_seq ?_; refine dw_seq ?_; refine dwk [(71, .v (.bool false))] TTM_ok hnt fun K hK => ?_; refine And.intro (beqF h) ?_; refine hK _ _ ?_; clear hK K
       refine dw_cond (t := false) rfl ?_; rw [if_neg (by simp)]; refine dw_skip ?_; refine dw_seq ?_; refine dwk [] TTM_ok hnt fun K hK => ?_; refine hK _ _ ?_; clear hK K; refine dw_ret ?_
       exact reta rfl
 ·have hne : a ≠ Ty.etas b := fun e => hlen (by rw [e, Ty.etas_len])
  rw [longB_args (t := .mk b k i a) hne]
  simp only [bindsT, kindT, indexT, argsTm]
  refine calldw 0 78 [ResultVar.cell 2 38, ResultVar.tmp 3] TTM_ok Tryz.func185 rfl Tryz.ntmps185 rfl fun cx hnt hn0 => ?_
  ·skip
   refine dw_seq ?_; refine dwk [] TTM_ok hnt fun K hK => ?_; refine hK _ _ ?_; clear hK K; refine dw_seq ?_; refine dwk [(12, .v (.int .i64 (↑b.length)))] TTM_ok hnt fun K hK => ?_; refine And.intro (dintE (by rw [eTys_len])) ?_; refine hK _ _ ?_; clear hK K; refine dw_seq ?_; refine dwk [] TTM_ok hnt fun K hK => ?_; refine hK _ _ ?_; clear hK K; refine dw_seq ?_; refine dw_seq ?_; refine dwk [(17, .v (.int .i64 (↑a.length))), (19, .v (.bool true))] TTM_ok hnt fun K hK => ?_
   refine And.intro (dintE (by rw [eTms_len])) ?_; refine And.intro (bneT (by omega)) ?_; refine hK _ _ ?_; clear hK K; refine dw_cond (t := true) rfl ?_; rw [if_pos rfl]; refine dw_seq ?_; refine dwk [] TTM_ok hnt fun K hK => ?_; refine hK _ _ ?_; clear hK K; refine dw_ret ?_
   exact reta rfl
end Go.Proofs.YtflbnonbfmmchaaGreat

namespace Go.Proofs.YtflbnonbfmmchaaGreat
open Go.RowKit Go.Shelf
attribute [local go_sem] Oper.semAt_some

def looseL (n x : Int) : Int := if (if x > 1000 then 1000 else x) + 1 > n then (if x > 1000 then 1000 else x) + 1 else n

end Go.Proofs.YtflbnonbfmmchaaGreat

namespace Go.Proofs.YtflbnonbfmmchaaGreat
open Go.RowKit
def TP1_3 : TI := ⟨1, false, [Value.int IntKind.i64 0], [], none, 8, 2, none, false⟩
theorem TP1_3_ok : TypOk Tryz.prog 3 TP1_3 := by constructor <;> kernel_rfl
def TP1_59 : TI := ⟨1, false, [Value.slice none 0 0], [], some 3, 24, 5, none, false⟩
theorem TP1_59_ok : TypOk Tryz.prog 59 TP1_59 := by constructor <;> kernel_rfl
def TP1_41 : TI := ⟨4, true, [Value.slice none 0 0, Value.int IntKind.i64 0, Value.int IntKind.i64 0, Value.slice none 0 0], [(0, 1, false), (1, 2, true), (3, 1, false)], none, 64, 6, none, false⟩
theorem TP1_41_ok : TypOk Tryz.prog 41 TP1_41 := by constructor <;> kernel_rfl
def TP1_33 : TI := ⟨1, false, [Value.slice none 0 0], [], some 44, 24, 5, none, false⟩
theorem TP1_33_ok : TypOk Tryz.prog 33 TP1_33 := by constructor <;> kernel_rfl
def TP1_38 : TI := ⟨2, true, [Value.int IntKind.i64 0, Value.int IntKind.i64 0], [(0, 1, false), (1, 1, false)], none, 16, 6, none, true⟩
theorem TP1_38_ok : TypOk Tryz.prog 38 TP1_38 := by constructor <;> kernel_rfl
def TP1_192 : TI := ⟨1, false, [Value.slice none 0 0], [], some 33, 24, 5, none, false⟩
theorem TP1_192_ok : TypOk Tryz.prog 192 TP1_192 := by constructor <;> kernel_rfl
def TP1_273 : TI := ⟨1, false, [Value.map none], [], none, 8, 7, some 4, false⟩
theorem TP1_273_ok : TypOk Tryz.prog 273 TP1_273 := by constructor <;> kernel_rfl
def TP1_39 : TI := ⟨1, false, [Value.slice none 0 0], [], some 41, 24, 5, none, false⟩
theorem TP1_39_ok : TypOk Tryz.prog 39 TP1_39 := by constructor <;> kernel_rfl
def TP1_182 : TI := ⟨1, false, [Value.map none], [], none, 8, 7, some 3, false⟩
theorem TP1_182_ok : TypOk Tryz.prog 182 TP1_182 := by constructor <;> kernel_rfl
def TP1_44 : TI := ⟨2, true, [Value.slice none 0 0, Value.int IntKind.i64 0], [(0, 1, false), (1, 1, false)], none, 32, 6, none, false⟩
theorem TP1_44_ok : TypOk Tryz.prog 44 TP1_44 := by constructor <;> kernel_rfl
def TP1_4 : TI := ⟨1, false, [Value.bool false], [], none, 1, 1, none, false⟩
theorem TP1_4_ok : TypOk Tryz.prog 4 TP1_4 := by constructor <;> kernel_rfl
def TP1 : List (Nat × TI) := [(3, TP1_3), (59, TP1_59), (41, TP1_41), (33, TP1_33), (38, TP1_38), (192, TP1_192), (273, TP1_273), (39, TP1_39), (182, TP1_182), (44, TP1_44), (4, TP1_4)]
theorem TP1_ok : TabOk Tryz.prog TP1 := ((((((((((((TabOk.nil _).cons TP1_4_ok).cons TP1_44_ok).cons TP1_182_ok).cons TP1_39_ok).cons TP1_273_ok).cons TP1_192_ok).cons TP1_38_ok).cons TP1_33_ok).cons TP1_41_ok).cons TP1_59_ok).cons TP1_3_ok)

/-! ints -/
def eIs (l : List Int) : List (List D) := l.map fun i => [.v (.int .i64 i)]
theorem eIs_len (l : List Int) : (eIs l).length = l.length := List.length_map ..
theorem eIs_append (l r : List Int) : eIs (l ++ r) = eIs l ++ eIs r := List.map_append ..
theorem eIs_getD (l : List Int) (i : Nat) (h : i < l.length) : (eIs l).getD i [] = [.v (.int .i64 l[i])] := by
  rw [eIs, List.getD_eq_getElem?_getD, List.getElem?_map, List.getElem?_eq_getElem h]; rfl
@[simp] theorem eIs_ok (f g : Nat → Bool) (l : List Int) : D.okss f g (eIs l) = true := D.okss_map _ l fun _ _ => rfl
/-! slices.Clip, Clone, Concat -/
theorem clip_d (l : List Int) : PureC Tryz.prog 148 [.sl 1 (eIs l) none] (.cl 1 (eIs l)) := by
 refine calldw 0 9 [ResultVar.tmp 2] TP1_ok Tryz.func148 rfl Tryz.ntmps148 rfl fun cx hnt hn0 => ?_
 ·skip
  refine dw_seq ?_; refine dwk [] TP1_ok hnt fun K hK => ?_; refine hK _ _ ?_; clear hK K; refine dw_seq ?_; refine dwk [(8, .cl 1 (eIs l))] TP1_ok hnt fun K hK => ?_; refine And.intro (⟨by omega, rfl, by omega⟩) ?_; refine And.intro (VLe.of_eq (by simp)) ?_; refine hK _ _ ?_; clear hK K; refine dw_ret ?_
  exact reta rfl
theorem clone_nil (a : Option Addr) (c : Nat) : PureC Tryz.prog 147 [.v (.slice a 0 c)] (.sl 1 [] none) := by
 refine calldw 0 8 [ResultVar.tmp 2] TP1_ok Tryz.func147 rfl Tryz.ntmps147 rfl fun cx hnt hn0 => ?_
 ·skip
  refine dw_seq ?_; refine dwk [] TP1_ok hnt fun K hK => ?_; refine hK _ _ ?_; clear hK K
  cases a with
  | none =>
   refine dw_seq ?_; refine dw_seq ?_; refine dwk [(4, .v (.bool true))] TP1_ok hnt fun K hK => ?_; refine And.intro (VLe.refl _) ?_; refine hK _ _ ?_; clear hK K; refine dw_cond (t := true) rfl ?_; rw [if_pos rfl]; refine dw_seq ?_; refine dwk [] TP1_ok hnt fun K hK => ?_; refine hK _ _ ?_; clear hK K; refine dw_ret ?_
   exact reta rfl
  | some a =>
   refine dw_seq ?_; refine dw_seq ?_; refine dwk [(4, .v (.bool false))] TP1_ok hnt fun K hK => ?_; refine And.intro (VLe.refl _) ?_; refine hK _ _ ?_; clear hK K; refine dw_cond (t := false) rfl ?_; rw [if_neg (by simp)]; refine dw_skip ?_; refine dw_seq ?_; refine dwk [] TP1_ok hnt fun K hK => ?_; refine And.intro (⟨rfl, by decide⟩) ?_; refine hK _ _ ?_; clear hK K; refine dw_ret ?_
   exact reta rfl
theorem clone_cons (x : Int) (l : List Int) (hl : l.length ≤ 900000) : PureC Tryz.prog 147 [.sl 1 (eIs (x :: l)) none] (.sl 1 (eIs (x :: l)) none) := by
 refine calldw 0 8 [ResultVar.tmp 2] TP1_ok Tryz.func147 rfl Tryz.ntmps147 rfl fun cx hnt hn0 => ?_
 ·skip
  refine dw_seq ?_; refine dwk [] TP1_ok hnt fun K hK => ?_; refine hK _ _ ?_; clear hK K; refine dw_seq ?_; refine dw_seq ?_; refine dwk [(4, .v (.bool false))] TP1_ok hnt fun K hK => ?_; refine And.intro (VLe.refl _) ?_; refine hK _ _ ?_; clear hK K; refine dw_cond (t := false) rfl ?_; rw [if_neg (by simp)]; refine dw_skip ?_; refine dw_seq ?_; refine dwk [] TP1_ok hnt fun K hK => ?_; refine And.intro (⟨rfl, by simp [eIs_len]; omega⟩) ?_
  refine hK _ _ ?_; clear hK K; refine dw_ret ?_
  exact reta rfl
theorem clone_d (l : List Int) (hl : l.length ≤ 900000) : PureC Tryz.prog 147 [.sl 1 (eIs l) none] (.sl 1 (eIs l) none) := by
  cases l with
  | cons x l => exact clone_cons x l (by simp at hl; omega)
  | nil =>
    refine ⟨by kernel_rfl, fun cx Fr m Im w vs hm hv hR => ?_⟩
    match vs, hv with
    | [v], hv =>
      obtain ⟨a, c, bl, off, X, rfl, _⟩ := rel_sl hv.1
      exact (clone_nil a c).2 cx Fr m Im w _ hm ⟨.v _, trivial⟩ hR
end Go.Proofs.YtflbnonbfmmchaaGreat

namespace Go.Proofs.YtflbnonbfmmchaaGreat
open Go.RowKit

def eMp (l : List (Int × Value)) : List (Int × D) := l.map fun p => (p.1, .v p.2)
end Go.Proofs.YtflbnonbfmmchaaGreat

namespace Go.Proofs.YtflbnonbfmmchaaGreat
open Go.RowKit

theorem full_mem {l : List Tm} {t : Tm} (h : t ∈ l) : t.full ≤ Tm.fulls l := by
  induction l with
  | nil => cases h
  | cons u l ih =>
    simp only [Tm.fulls]
    rcases List.mem_cons.1 h with rfl | h
    · omega
    · have := ih h; omega
theorem fulls_len (l : List Tm) : l.length ≤ Tm.fulls l := by
  induction l with
  | nil => simp
  | cons u l ih => have : 1 ≤ u.full := by obtain ⟨b, k, i, a⟩ := u; rw [Tm.full_eq]; omega
                   simp only [Tm.fulls, List.length_cons]; omega
theorem full_args (t : Tm) : t.full = Ty.sizes t.binds + Tm.fulls t.args + 1 := by obtain ⟨b, k, i, a⟩ := t; exact Tm.full_eq ..
theorem fit_args {t : Tm} (h : t.Fit) : ∀ u ∈ t.args, u.Fit := by obtain ⟨b, k, i, a⟩ := t; exact (Tm.fit_iff.1 h).2.2

theorem pflex_d (t : Tm) : PureC Tryz.prog 134 [.ag (eTm t)] (.v (.bool (decide (t.kind = 2)))) := by
 rw [eTm_eq]
 refine calldw 0 7 [ResultVar.tmp 2] TP1_ok Tryz.func134 rfl Tryz.ntmps134 rfl fun cx hnt hn0 => ?_
 ·skip
  refine dw_seq ?_; refine dwk [] TP1_ok hnt fun K hK => ?_; refine hK _ _ ?_; clear hK K; refine dw_seq ?_; refine dwk [(6, .v (.bool (decide (t.kind = 2))))] TP1_ok hnt fun K hK => ?_; refine And.intro (VLe.refl _) ?_; refine hK _ _ ?_; clear hK K; refine dw_ret ?_
  exact reta rfl

namespace Pn
theorem varsL_snoc (n : Int) : ∀ (l : List Tm) (a : Tm) (acc : List Int), varsL n (l ++ [a]) acc = (varsL n l acc).bind fun r => if isVar n r a then some (r ++ [a.headIx]) else none
  | [], a, acc => by simp [varsL]
  | b :: l, a, acc => by
    rw [List.cons_append, varsL, varsL]
    split
    · exact varsL_snoc n l a _
    · rfl
theorem varsL_take (n : Int) (l : List Tm) (j : Nat) (h : j < l.length) {acc : List Int} (hv : varsL n (l.take j) [] = some acc) : varsL n (l.take (j + 1)) [] = if isVar n acc l[j] then some (acc ++ [l[j].headIx]) else none := by
  rw [List.take_add_one, List.getElem?_eq_getElem h]
  show varsL n (l.take j ++ [l[j]]) [] = _
  rw [varsL_snoc, hv]; rfl
theorem varsL_app (n : Int) : ∀ (l r : List Tm) (acc : List Int), varsL n (l ++ r) acc = (varsL n l acc).bind fun x => varsL n r x
  | [], r, acc => rfl
  | b :: l, r, acc => by
    rw [List.cons_append, varsL, varsL]
    split
    · exact varsL_app n l r _
    · rfl
theorem varsL_none (n : Int) (l : List Tm) (j : Nat) (h : varsL n (l.take j) [] = none) : varsL n l [] = none := by
  rw [← List.take_append_drop j l, varsL_app, h]; rfl
theorem varsL_len (n : Int) : ∀ (l : List Tm) (acc r : List Int), varsL n l acc = some r → r.length = acc.length + l.length
  | [], acc, r, h => by cases h; simp
  | b :: l, acc, r, h => by
    rw [varsL] at h
    split at h
    · have := varsL_len n l _ _ h
      simp at this ⊢; omega
    · cases h
end Pn
def eMet (l : List Int) : List (Int × D) := l.map fun i => (i, .v (.bool true))
theorem okm_map {f g : Nat → Bool} {α : Type} (e : α → Int × D) (l : List α) (h : ∀ x ∈ l, (e x).2.ok f g = true) : D.okm f g (l.map e) = true := by
  induction l with
  | nil => rfl
  | cons x l ih =>
    have h1 := h x (by simp)
    have h2 := ih fun y hy => h y (by simp [hy])
    simp only [List.map_cons]
    generalize e x = p at h1 ⊢
    obtain ⟨i, d⟩ := p
    simp only [D.okm, Bool.and_eq_true]; exact ⟨h1, h2⟩
@[simp] theorem eMet_ok (f g : Nat → Bool) (l : List Int) : D.okm f g (eMet l) = true := okm_map _ l fun _ _ => rfl
theorem eMet_find (l : List Int) (x : Int) : (mfind (eMet l) x).getD (.v (.bool false)) = .v (.bool (l.contains x)) := by
  induction l with
  | nil => rfl
  | cons i l ih =>
    show (if x = i then some _ else mfind (eMet l) x).getD _ = _
    by_cases h : x = i
    · simp [h]
    · rw [if_neg h, ih]; simp [h]
theorem eMet_put (l : List Int) (x : Int) (h : l.contains x = false) : mput (eMet l) x (.v (.bool true)) = eMet (l ++ [x]) := by
  induction l with
  | nil => rfl
  | cons i l ih =>
    simp at h
    show (if x = i then _ else _ :: mput (eMet l) x _) = _
    rw [if_neg h.1, ih (by simp [h.2])]; rfl
set_option maxHeartbeats 2000000 in
theorem pvars_d (t : Tm) (n : Int) (hz : t.full ≤ 700000) (hf : t.Fit) : PureC Tryz.prog 161 [.ag (eTm t), .v (.int .i64 n)] (.tu [.sl 1 (eIs (Pn.vars t n).1) none, .v (.int .i64 (Pn.vars t n).2)]) := by
 have hfl := pflex_d t
 have hz2 := full_args t
 have hz3 := fulls_len t.args
 rw [eTm_eq] at hfl ⊢
 refine calldw 0 61 [ResultVar.tmp 4, ResultVar.tmp 5] TP1_ok Tryz.func161 rfl Tryz.ntmps161 rfl fun cx hnt hn0 => ?_
 ·skip
  refine dw_seq ?_; refine dwk [] TP1_ok hnt fun K hK => ?_; refine hK _ _ ?_; clear hK K
  by_cases hk : t.kind = 2
  ·rw [decide_eq_true hk] at hfl
   by_cases hn : n < 0
   ·have hv : Pn.vars t n = ([], 1) := by unfold Pn.vars; rw [if_pos (.inr hn)]
    rw [hv]
    refine dw_seq ?_; refine dw_seq ?_; refine dwk [(17, .v (.bool true))] TP1_ok hnt fun K hK => ?_; refine dcl (hfl) ?_; refine And.intro auT ?_; refine hK _ _ ?_; clear hK K; refine dw_cond (t := true) rfl ?_; rw [if_pos rfl]; refine dw_seq ?_; refine dwk [] TP1_ok hnt fun K hK => ?_; refine hK _ _ ?_; clear hK K; refine dw_ret ?_
    exact reta rfl
   ·have hv : Pn.vars t n = match Pn.varsL n t.args [] with | some l => (l, 0) | none => ([], 6) := by unfold Pn.vars; exact if_neg (by simp [hk]; omega)
    refine dw_seq ?_; refine dw_seq ?_; refine dwk [(17, .v (.bool false))] TP1_ok hnt fun K hK => ?_; refine dcl (hfl) ?_; refine And.intro auF ?_; refine hK _ _ ?_; clear hK K; refine dw_cond (t := false) rfl ?_; rw [if_neg (by simp)]; refine dw_skip ?_; refine dw_seq ?_; refine dwk [] TP1_ok hnt fun K hK => ?_; refine hK _ _ ?_; clear hK K; refine dw_seq ?_; refine dwk [] TP1_ok hnt fun K hK => ?_; refine hK _ _ ?_; clear hK K
    refine dw_seq ?_; refine dw_seq ?_; refine dwk [(22, .v (.int .i64 (↑t.args.length)))] TP1_ok hnt fun K hK => ?_; refine And.intro (dintE (by rw [eTms_len])) ?_; refine hK _ _ ?_; clear hK K; refine dw_block ?_
    refine dw_loop (ι := { p : Nat × List Int // Pn.varsL n (t.args.take p.1) [] = some p.2 }) (fun p => [(.t 1, .v (.int .i64 n)), (.t 6, .mo 10), (.t 7, .sl 1 (eIs p.1.2) (some 17)), (.t 21, .sl 4 (eTms t.args) none), (.t 22, .v (.int .i64 ↑t.args.length)), (.t 23, .v (.int .i64 ↑p.1.1)), (.r 17, .rw 3 1 p.1.2.length), (.o 10, .mp (eMet p.1.2))]) 18 (fun p => t.args.length - p.1.1) (⟨(0, []), rfl⟩) ((VS.trans (VS.rowT (x := 7) (by rw [hnt]; decide) 3 1 rfl) VS.toA)) fun p => ?_
    obtain ⟨⟨j, acc⟩, hp⟩ := p
    dsimp only at hp ⊢
    by_cases hlt : j < t.args.length
    ·have hst := Pn.varsL_take n t.args j hlt hp
     have hal := Pn.varsL_len n _ _ _ hp
     rw [List.length_take, List.length_nil] at hal
     have hmem := List.getElem_mem hlt
     have hva := var_d t.args[j] (by have := full_mem hmem; omega) (fit_args hf _ hmem)
     unfold varV at hva
     rw [eTm_eq] at hva
     have hno : Pn.isVar n acc t.args[j] = false → Pn.vars t n = ([], 6) := fun h => by
      rw [hv, Pn.varsL_none n t.args (j + 1) (by rw [hst, h]; rfl)]
     unfold Pn.isVar at hno hst
     refine dw_seq ?_; refine dwk [(24, .v (.bool true))] TP1_ok hnt fun K hK => ?_; refine And.intro auT ?_; refine hK _ _ ?_; clear hK K; refine dw_seq ?_; refine dw_cond (t := true) rfl ?_; rw [if_pos rfl]; refine dw_skip ?_; refine dw_seq ?_; refine dw_block ?_; refine dw_seq ?_; refine dwk [(25, .q [.sl 2 (eTys t.args[j].binds) none, .v (.int .i64 t.args[j].kind), .v (.int .i64 t.args[j].index), .sl 4 (eTms t.args[j].args) none])] TP1_ok hnt fun K hK => ?_
     refine And.intro (elo (eTms_len t.args)) ?_; refine And.intro (elv (eTms_getD t.args j) (eTm_eq _)) ?_; refine hK _ _ ?_; clear hK K
     cases h1 : longB t.args[j] with
     | false =>
      rw [hno (by simp [h1])]
      rw [h1] at hva
      refine dw_seq ?_; refine dwk [] TP1_ok hnt fun K hK => ?_; refine dcl (hva) ?_; refine hK _ _ ?_; clear hK K; refine dw_seq ?_; refine dw_seq ?_; refine dwk [] TP1_ok hnt fun K hK => ?_; refine hK _ _ ?_; clear hK K; refine dw_cond (t := true) rfl ?_; rw [if_pos rfl]; refine dw_seq ?_; refine dwk [] TP1_ok hnt fun K hK => ?_; refine hK _ _ ?_; clear hK K; refine dw_ret ?_
      exact reta rfl
     | true =>
      rw [h1, if_pos rfl, if_pos rfl] at hva
      refine dw_seq ?_; refine dwk [] TP1_ok hnt fun K hK => ?_; refine dcl (hva) ?_; refine hK _ _ ?_; clear hK K
      by_cases h2 : t.args[j].kind = 0
      ·by_cases h3 : t.args[j].headIx < n
       ·have hfi := eMet_find acc t.args[j].headIx
        cases h4 : acc.contains t.args[j].headIx with
        | true =>
         rw [hno (by rw [h1, h4]; simp)]
         rw [h4] at hfi
         refine dw_seq ?_; refine dw_seq ?_; refine dwk [(37, .v (.bool false)), (43, .v (.bool false)), (49, .v (.bool true))] TP1_ok hnt fun K hK => ?_; refine And.intro auF ?_; refine And.intro auF ?_; refine And.intro (VLe.of_eq hfi) ?_; refine hK _ _ ?_; clear hK K; refine dw_cond (t := true) rfl ?_; rw [if_pos rfl]; refine dw_seq ?_; refine dwk [] TP1_ok hnt fun K hK => ?_; refine hK _ _ ?_; clear hK K
         refine dw_ret ?_
         exact reta rfl
        | false =>
         rw [h4] at hfi
         have hpu := eMet_put acc _ h4
         rw [if_pos (by simp only [h1, h2, h3, h4]; rfl)] at hst; refine dw_seq ?_; refine dw_seq ?_; refine dwk [(37, .v (.bool false)), (43, .v (.bool false)), (49, .v (.bool false))] TP1_ok hnt fun K hK => ?_; refine And.intro auF ?_; refine And.intro auF ?_; refine And.intro (VLe.of_eq hfi) ?_; refine hK _ _ ?_; clear hK K; refine dw_cond (t := false) rfl ?_; rw [if_neg (by simp)]; refine dw_skip ?_; refine dw_seq ?_
         refine dwk [] TP1_ok hnt fun K hK => ?_; refine hK _ _ ?_; clear hK K; refine dwk [(58, .sl 1 (eIs (acc ++ [t.args[j].headIx])) (some 17))] TP1_ok hnt fun K hK => ?_; refine And.intro (⟨by rw [eIs_len], by rw [eIs_len]; simp; omega⟩) ?_; refine And.intro (VLe.of_eq (by rw [eIs_append]; rfl)) ?_; refine hK _ _ ?_; clear hK K; refine dwk [(59, .v (.int .i64 (↑(j + 1))))] TP1_ok hnt fun K hK => ?_; refine And.intro auI ?_
         refine hK _ _ ?_; clear hK K
         have hl5 : (eIs acc).length = acc.length := eIs_len acc
         refine ⟨⟨(j + 1, acc ++ [t.args[j].headIx]), hst⟩, by first | omega | (dsimp only; omega), (by try simp only [List.length_append, List.length_take, List.length_cons, List.length_nil, Nat.zero_add, hpu, hl5]; exact VS.toA)⟩
       ·rw [hno (by rw [h1, h2, decide_eq_false h3]; simp)]
        refine dw_seq ?_; refine dw_seq ?_; refine dwk [(37, .v (.bool false)), (43, .v (.bool true))] TP1_ok hnt fun K hK => ?_; refine And.intro auF ?_; refine And.intro auT ?_; refine hK _ _ ?_; clear hK K; refine dw_cond (t := true) rfl ?_; rw [if_pos rfl]; refine dw_seq ?_; refine dwk [] TP1_ok hnt fun K hK => ?_; refine hK _ _ ?_; clear hK K; refine dw_ret ?_
        exact reta rfl
      ·rw [hno (by rw [h1, decide_eq_false h2]; simp)]
       refine dw_seq ?_; refine dw_seq ?_; refine dwk [(37, .v (.bool true))] TP1_ok hnt fun K hK => ?_; refine And.intro auT ?_; refine hK _ _ ?_; clear hK K; refine dw_cond (t := true) rfl ?_; rw [if_pos rfl]; refine dw_seq ?_; refine dwk [] TP1_ok hnt fun K hK => ?_; refine hK _ _ ?_; clear hK K; refine dw_ret ?_
       exact reta rfl
    ·rw [List.take_of_length_le (by omega)] at hp
     rw [hv, hp]
     refine dw_seq ?_; refine dwk [(24, .v (.bool false))] TP1_ok hnt fun K hK => ?_; refine And.intro auF ?_; refine hK _ _ ?_; clear hK K; refine dw_seq ?_; refine dw_cond (t := false) rfl ?_; rw [if_neg (by simp)]; refine dw_exit ?_; refine dw_seq ?_; refine dwk [] TP1_ok hnt fun K hK => ?_; refine hK _ _ ?_; clear hK K; refine dw_ret ?_
     exact reta rfl
  ·have hv : Pn.vars t n = ([], 1) := by unfold Pn.vars; rw [if_pos (.inl hk)]
   rw [hv]
   rw [decide_eq_false hk] at hfl
   refine dw_seq ?_; refine dw_seq ?_; refine dwk [] TP1_ok hnt fun K hK => ?_; refine dcl (hfl) ?_; refine hK _ _ ?_; clear hK K; refine dw_cond (t := true) rfl ?_; rw [if_pos rfl]; refine dw_seq ?_; refine dwk [] TP1_ok hnt fun K hK => ?_; refine hK _ _ ?_; clear hK K; refine dw_ret ?_
   exact reta rfl
end Go.Proofs.YtflbnonbfmmchaaGreat

namespace Go.Proofs.YtflbnonbfmmchaaGreat
open Go.RowKit

namespace Pn
def atL : List Int → Nat → List (Int × Value)
  | [], _ => []
  | v :: l, k => (v, .int .i64 k) :: atL l (k + 1)
end Pn
@[simp] theorem atL_ok (f g : Nat → Bool) (l : List Int) (k : Nat) : D.okm f g (eMp (Pn.atL l k)) = true := okm_map _ _ fun _ _ => rfl
end Go.Proofs.YtflbnonbfmmchaaGreat

namespace Go.Proofs.YtflbnonbfmmchaaGreat
open Go.RowKit
def TL8_27 : TI := ⟨1, false, [Value.slice none 0 0], [], some 29, 24, 5, none, false⟩
theorem TL8_27_ok : TypOk Tryz.prog 27 TL8_27 := by constructor <;> kernel_rfl
def TL8_3 : TI := ⟨1, false, [Value.int IntKind.i64 0], [], none, 8, 2, none, false⟩
theorem TL8_3_ok : TypOk Tryz.prog 3 TL8_3 := by constructor <;> kernel_rfl
def TL8_29 : TI := ⟨4, true, [Value.slice none 0 0, Value.int IntKind.i64 0, Value.int IntKind.i64 0, Value.slice none 0 0], [(0, 1, false), (1, 2, true), (3, 1, false)], none, 64, 6, none, false⟩
theorem TL8_29_ok : TypOk Tryz.prog 29 TL8_29 := by constructor <;> kernel_rfl
def TL8_26 : TI := ⟨2, true, [Value.int IntKind.i64 0, Value.int IntKind.i64 0], [(0, 1, false), (1, 1, false)], none, 16, 6, none, true⟩
theorem TL8_26_ok : TypOk Tryz.prog 26 TL8_26 := by constructor <;> kernel_rfl
def TL8 : List (Nat × TI) := [(27, TL8_27), (3, TL8_3), (29, TL8_29), (26, TL8_26)]
theorem TL8_ok : TabOk Tryz.prog TL8 := (((((TabOk.nil _).cons TL8_26_ok).cons TL8_29_ok).cons TL8_3_ok).cons TL8_27_ok)
mutual
def lowB : Tm → Bool
  | .mk _ k i a => !(decide (k = 0) && decide (900000 < i)) && lowsB a
def lowsB : List Tm → Bool
  | [] => true
  | t :: l => lowB t && lowsB l
end
theorem lowsB_all : ∀ l : List Tm, lowsB l = l.all lowB
  | [] => rfl
  | t :: l => by rw [lowsB, lowsB_all l]; rfl
theorem lowB_eq (t : Tm) : lowB t = (!(decide (t.kind = 0) && decide (900000 < t.index)) && lowsB t.args) := by cases t; rfl
theorem all_false {l : List Tm} {j : Nat} (h : j < l.length) (hf : lowB l[j] = false) : lowsB l = false := by
  rw [lowsB_all, List.all_eq_false]; exact ⟨l[j], List.getElem_mem h, by rw [hf]; simp⟩
set_option maxHeartbeats 1000000 in
theorem low_list (l : List Tm) (hl : l.length ≤ 1000000) (ih : ∀ t ∈ l, PureC Tryz.prog 78 [.sl 4 (eTms t.args) none] (.v (.bool (lowsB t.args)))) : PureC Tryz.prog 78 [.sl 4 (eTms l) none] (.v (.bool (lowsB l))) := by
 refine call_of_dw 0 35 [ResultVar.tmp 2] TL8_ok (by kernel_rfl) Tryz.func78 rfl Tryz.ntmps78 rfl (by simp) ?dwords ?dbody
 case dwords => simp [wordsOk, D.ok, D.oks, rnames, eTms_ok]
 case dbody =>
  intro cx hnt hn0
  refine dw_seq ?_; refine dwk [] TL8_ok hnt fun K hK => ?_; refine hK _ _ ?_; clear hK K; refine dw_seq (dw_seq ?_); refine dwk [] TL8_ok hnt fun K hK => ?_; refine hK _ _ ?_; clear hK K; refine dw_block ?_
  refine dw_loop (ι := { j : Nat // ∀ i (h : i < l.length), i < j → lowB l[i] = true }) (fun j => [(.t 0, .sl 4 (eTms l) none), (.t 3, .v (.int .i64 (j.1 : Int)))]) 1 (fun j => l.length - j.1) ⟨0, fun i h1 h2 => by omega⟩ VS.toA fun j => ?_
  obtain ⟨j, hj⟩ := j
  dsimp only
  refine dw_seq (dw_seq ?_)
  by_cases hlt : j < l.length
  ·have hi := ih l[j] (List.getElem_mem hlt)
   have hlo := lowB_eq l[j]
   refine dwk [(7, .v (.bool true))] TL8_ok hnt fun K hK => ?_; refine And.intro (dtrue (by rw [eTms_len]; omega)) ?_; refine hK _ _ ?_; clear hK K; refine dw_cond (t := true) rfl ?_; rw [if_pos rfl]; refine dw_skip ?_; refine dw_seq (dw_block (dw_seq ?_))
   have hq : (eTms l).getD (j : Int).toNat [] = [.sl 2 (eTys l[j].binds) none, .v (.int .i64 l[j].kind), .v (.int .i64 l[j].index), .sl 4 (eTms l[j].args) none] := by rw [Int.toNat_natCast, eTms_getD l j hlt, eTm_eq]
   have hb : (0 : Int) ≤ (j : Int) ∧ (j : Int) < ((eTms l).length : Int) := ⟨by omega, by rw [eTms_len]; omega⟩
   have hret : lowB l[j] = false → ∀ σ N, DW Tryz.prog cx (.ret) σ N (RetOk TL8 [ResultVar.tmp 2] (.v (.bool (lowsB l))) []) → True := fun _ _ _ _ => trivial
   by_cases hk : l[j].kind = 0
   ·by_cases hx : 900000 < l[j].index
    ·have hf : lowsB l = false := all_false hlt (by rw [hlo]; simp [hk, hx])
     rw [hf]
     refine dwk [(12, .q [.sl 2 (eTys l[j].binds) none, .v (.int .i64 l[j].kind), .v (.int .i64 l[j].index), .sl 4 (eTms l[j].args) none]), (16, .v (.bool true)), (20, .q [.sl 2 (eTys l[j].binds) none, .v (.int .i64 l[j].kind), .v (.int .i64 l[j].index), .sl 4 (eTms l[j].args) none]), (24, .v (.bool true))] TL8_ok hnt fun K hK => ?_; refine And.intro (hb) ?_; refine And.intro (VLe.of_eq (by rw [hq])) ?_
     refine And.intro (VLe.of_eq (by simp [hk])) ?_; refine And.intro (hb) ?_; refine And.intro (VLe.of_eq (by rw [hq])) ?_; refine And.intro (dtrue hx) ?_; refine hK _ _ ?_; clear hK K; refine dw_cond (t := true) rfl ?_; rw [if_pos rfl]; refine dw_seq ?_; refine dwk [] TL8_ok hnt fun K hK => ?_; refine hK _ _ ?_; clear hK K; refine dw_ret ?_
     exact retv (N := 0) (.inr rfl) rfl (VLe.refl _) trivial
    ·cases hla : lowsB l[j].args with
     | false =>
      have hf : lowsB l = false := all_false hlt (by rw [hlo, hla]; simp)
      rw [hf]
      rw [hla] at hi
      refine dwk [(12, .q [.sl 2 (eTys l[j].binds) none, .v (.int .i64 l[j].kind), .v (.int .i64 l[j].index), .sl 4 (eTms l[j].args) none]), (16, .v (.bool true)), (20, .q [.sl 2 (eTys l[j].binds) none, .v (.int .i64 l[j].kind), .v (.int .i64 l[j].index), .sl 4 (eTms l[j].args) none]), (24, .v (.bool false)), (29, .q [.sl 2 (eTys l[j].binds) none, .v (.int .i64 l[j].kind), .v (.int .i64 l[j].index), .sl 4 (eTms l[j].args) none])] TL8_ok hnt fun K hK => ?_
      refine And.intro (hb) ?_; refine And.intro (VLe.of_eq (by rw [hq])) ?_; refine And.intro (VLe.of_eq (by simp [hk])) ?_; refine And.intro (hb) ?_; refine And.intro (VLe.of_eq (by rw [hq])) ?_; refine And.intro (dfalse hx) ?_; refine And.intro (hb) ?_; refine And.intro (VLe.of_eq (by rw [hq])) ?_; refine dcl (hi) ?_; refine hK _ _ ?_; clear hK K; refine dw_cond (t := true) rfl ?_; rw [if_pos rfl]; refine dw_seq ?_
      refine dwk [] TL8_ok hnt fun K hK => ?_; refine hK _ _ ?_; clear hK K; refine dw_ret ?_
      exact retv (N := 0) (.inr rfl) rfl (VLe.refl _) trivial
     | true =>
      rw [hla] at hi
      refine dwk [(12, .q [.sl 2 (eTys l[j].binds) none, .v (.int .i64 l[j].kind), .v (.int .i64 l[j].index), .sl 4 (eTms l[j].args) none]), (16, .v (.bool true)), (20, .q [.sl 2 (eTys l[j].binds) none, .v (.int .i64 l[j].kind), .v (.int .i64 l[j].index), .sl 4 (eTms l[j].args) none]), (24, .v (.bool false)), (29, .q [.sl 2 (eTys l[j].binds) none, .v (.int .i64 l[j].kind), .v (.int .i64 l[j].index), .sl 4 (eTms l[j].args) none])] TL8_ok hnt fun K hK => ?_
      refine And.intro (hb) ?_; refine And.intro (VLe.of_eq (by rw [hq])) ?_; refine And.intro (VLe.of_eq (by simp [hk])) ?_; refine And.intro (hb) ?_; refine And.intro (VLe.of_eq (by rw [hq])) ?_; refine And.intro (dfalse hx) ?_; refine And.intro (hb) ?_; refine And.intro (VLe.of_eq (by rw [hq])) ?_; refine dcl (hi) ?_; refine hK _ _ ?_; clear hK K; refine dw_cond (t := false) rfl ?_; rw [if_neg (by simp)]
      refine dw_skip ?_; refine dwk [(9, .v (.int .i64 ((j + 1 : Nat) : Int)))] TL8_ok hnt fun K hK => ?_; refine And.intro (dintE (by rw [IntWalk.i64_in _ (by omega)]; omega)) ?_; refine hK _ _ ?_; clear hK K
      refine ⟨⟨j + 1, fun i h1 h2 => ?_⟩, by dsimp only; omega, VS.toA⟩
      by_cases he : i = j
      ·subst he; rw [hlo, hla]; simp [hx]
      ·exact hj i h1 (by omega)
   ·cases hla : lowsB l[j].args with
    | false =>
     have hf : lowsB l = false := all_false hlt (by rw [hlo, hla]; simp)
     rw [hf]
     rw [hla] at hi
     refine dwk [(12, .q [.sl 2 (eTys l[j].binds) none, .v (.int .i64 l[j].kind), .v (.int .i64 l[j].index), .sl 4 (eTms l[j].args) none]), (16, .v (.bool false)), (29, .q [.sl 2 (eTys l[j].binds) none, .v (.int .i64 l[j].kind), .v (.int .i64 l[j].index), .sl 4 (eTms l[j].args) none])] TL8_ok hnt fun K hK => ?_; refine And.intro (hb) ?_; refine And.intro (VLe.of_eq (by rw [hq])) ?_; refine And.intro (VLe.of_eq (by simp [hk])) ?_
     refine And.intro (hb) ?_; refine And.intro (VLe.of_eq (by rw [hq])) ?_; refine dcl (hi) ?_; refine hK _ _ ?_; clear hK K; refine dw_cond (t := true) rfl ?_; rw [if_pos rfl]; refine dw_seq ?_; refine dwk [] TL8_ok hnt fun K hK => ?_; refine hK _ _ ?_; clear hK K; refine dw_ret ?_
     exact retv (N := 0) (.inr rfl) rfl (VLe.refl _) trivial
    | true =>
     rw [hla] at hi
     refine dwk [(12, .q [.sl 2 (eTys l[j].binds) none, .v (.int .i64 l[j].kind), .v (.int .i64 l[j].index), .sl 4 (eTms l[j].args) none]), (16, .v (.bool false)), (29, .q [.sl 2 (eTys l[j].binds) none, .v (.int .i64 l[j].kind), .v (.int .i64 l[j].index), .sl 4 (eTms l[j].args) none])] TL8_ok hnt fun K hK => ?_; refine And.intro (hb) ?_; refine And.intro (VLe.of_eq (by rw [hq])) ?_; refine And.intro (VLe.of_eq (by simp [hk])) ?_
     refine And.intro (hb) ?_; refine And.intro (VLe.of_eq (by rw [hq])) ?_; refine dcl (hi) ?_; refine hK _ _ ?_; clear hK K; refine dw_cond (t := false) rfl ?_; rw [if_neg (by simp)]; refine dw_skip ?_; refine dwk [(9, .v (.int .i64 ((j + 1 : Nat) : Int)))] TL8_ok hnt fun K hK => ?_; refine And.intro (dintE (by rw [IntWalk.i64_in _ (by omega)]; omega)) ?_; refine hK _ _ ?_; clear hK K
     refine ⟨⟨j + 1, fun i h1 h2 => ?_⟩, by dsimp only; omega, VS.toA⟩
     by_cases he : i = j
     ·subst he; rw [hlo, hla]; simp [hk]
     ·exact hj i h1 (by omega)
  ·have hf : lowsB l = true := by
    rw [lowsB_all, List.all_eq_true]
    intro t ht
    obtain ⟨i, hi, rfl⟩ := List.getElem_of_mem ht
    exact hj i hi (by omega)
   rw [hf]
   refine dwk [(7, .v (.bool false))] TL8_ok hnt fun K hK => ?_; refine And.intro (dfalse (by rw [eTms_len]; omega)) ?_; refine hK _ _ ?_; clear hK K; refine dw_cond (t := false) rfl ?_; rw [if_neg (by simp)]; refine dw_exit ?_; refine dw_seq ?_; refine dwk [] TL8_ok hnt fun K hK => ?_; refine hK _ _ ?_; clear hK K; refine dw_ret ?_
   exact retv (N := 0) (.inr rfl) rfl (VLe.refl _) trivial
theorem low_args : ∀ (t : Tm), Wide t → PureC Tryz.prog 78 [.sl 4 (eTms t.args) none] (.v (.bool (lowsB t.args))) := by
  intro t
  induction t using Tm.ind with
  | h bs k i a ih =>
    intro hw
    obtain ⟨_, w2, w3⟩ := hw.inv
    exact low_list a (by omega) fun u hu => ih u hu (w3 u hu)
theorem low_d (l : List Tm) (hl : l.length ≤ 1000000) (hw : ∀ t ∈ l, Wide t) : PureC Tryz.prog 78 [.sl 4 (eTms l) none] (.v (.bool (lowsB l))) := low_list l hl fun t ht => low_args t (hw t ht)
theorem wide_full : ∀ t : Tm, t.full ≤ 100000 → Wide t := by
  intro t
  induction t using Tm.ind with
  | h bs k i a ih =>
    intro h
    rw [Tm.full_eq] at h
    have h1 := Ty.le_sizes bs
    have key : ∀ l : List Tm, l.length ≤ Tm.fulls l ∧ ∀ u ∈ l, u.full ≤ Tm.fulls l := by
      intro l
      induction l with
      | nil => exact ⟨by simp, nofun⟩
      | cons t l ihl =>
        have ht : 1 ≤ t.full := by obtain ⟨_, _, _, _⟩ := t; rw [Tm.full_eq]; omega
        simp only [Tm.fulls, List.length_cons]
        refine ⟨by omega, fun u hu => ?_⟩
        rcases List.mem_cons.1 hu with rfl | hu
        · omega
        · have := ihl.2 u hu; omega
    have h2 := key a
    exact .mk _ _ _ _ (by omega) (by omega) fun t ht => ih t ht (by have := h2.2 t ht; omega)
end Go.Proofs.YtflbnonbfmmchaaGreat

namespace Go.Proofs.YtflbnonbfmmchaaGreat
open Go.RowKit
namespace Pn
end Pn
end Go.Proofs.YtflbnonbfmmchaaGreat

namespace Go.Proofs.YtflbnonbfmmchaaGreat
open Go.RowKit

namespace Pn
end Pn
end Go.Proofs.YtflbnonbfmmchaaGreat

namespace Go.Proofs.YtflbnonbfmmchaaGreat
open Go.RowKit

def CallG (P : Program) (f : FuncId) (args : List D) (R W : List (Key × D)) (V : D) : Prop :=
  entersB P f = true ∧ ∀ cx (Fr : Nat → Prop) m Im w a σ vs, St cx Fr m Im w a σ → RelL m Im w vs args → (∀ p ∈ R, get σ p.1 = some p.2) →
    Calls P f vs.toArray w fun e w' => ∃ v m' Im', e = .returned v ∧ St cx Fr m' Im' w' a (puts (dropT R σ) W) ∧ Rel m' Im' w' v V
theorem CallG.n {P : Program} {f : FuncId} {args : List D} {R W : List (Key × D)} {V : D} (h : CallG P f args R W V) (nm : Nat) : CallN P f args R nm W V :=
  ⟨h.1, fun cx Fr m Im w a σ vs _ hs hv hR => (h.2 cx Fr m Im w a σ vs hs hv hR).mono fun e w' ⟨v, m', Im', q1, q2, q3⟩ => ⟨v, m', Im', q1, q2.less fun k hk => hk.1, q3⟩⟩
theorem CallG.vle {P : Program} {f : FuncId} {args args' : List D} {R W : List (Key × D)} {V V' : D} (h : CallG P f args R W V) (ha : VLeL args' args) (hv : VLe V V') : CallG P f args' R W V' := by
  refine ⟨h.1, fun cx Fr m Im w a σ vs hs hr hR => (h.2 cx Fr m Im w a σ vs hs ?_ hR).mono ?_⟩
  · rw [relL_iff] at hr ⊢
    refine ⟨hr.1.trans ha.1, fun i hi => ?_⟩
    have hi' : i < args'.length := by rw [ha.1]; exact hi
    exact ha.2 i hi' hi m Im w _ (hr.2 i hi')
  · rintro e w' ⟨v, m', Im', rfl, h1, h2⟩
    exact ⟨v, m', Im', rfl, h1, hv _ _ _ _ h2⟩
def rowsR (R : List (Key × D)) : List Nat := R.filterMap fun p => match p.1 with | .r g => some g | _ => none
def rowN (R : List (Key × D)) : Nat → Bool := fun g => (rowsR R).contains g
theorem mem_rowsR {R : List (Key × D)} {g : Nat} {d : D} (h : (Key.r g, d) ∈ R) : rowN R g = true := by
  unfold rowN; rw [List.contains_iff_mem]; exact List.mem_filterMap.2 ⟨_, h, rfl⟩
theorem of_rowsR {R : List (Key × D)} {g : Nat} (h : rowN R g = true) : ∃ d, (Key.r g, d) ∈ R := by
  unfold rowN at h; rw [List.contains_iff_mem] at h
  obtain ⟨p, hp, e⟩ := List.mem_filterMap.1 h
  obtain ⟨key, d⟩ := p
  cases key with
  | r g' => simp at e; subst e; exact ⟨d, hp⟩
  | _ => cases e
def gkey : Key → Bool
  | .c _ _ => true
  | .o _ => true
  | .r _ => true
  | _ => false
def wordsG (args : List D) (R W : List (Key × D)) (V : D) (N0 : Nat) : Bool :=
  args.all (fun d => d.ok (inN R) (rowN R)) && R.all (fun p => p.2.ok (inN R) (rowN R) && gkey p.1) && W.all (fun p => p.2.ok (inN R) (rowN R) && (match p.1 with | .c k _ => inN R k | .o k => inN R k | .r g => rowN R g | _ => false)) && V.ok (inN R) (rowN R) && (rnames R).all (fun k => decide (k < N0)) && (rowsR R).all (fun g => decide (g < N0) && W.any fun p => Key.eq p.1 (.r g))
set_option maxHeartbeats 2000000 in
theorem callG_of_dw {P : Program} {T : List (Nat × TI)} {f : FuncId} {fn : Func} {c : Code} {args : List D} {R W : List (Key × D)} {V : D} (N0 nt : Nat) (rs : List ResultVar) (hT : TabOk P T) (hen : entersB P f = true) (hf : P.funcs[f]? = some fn) (hb : fn.body = some c) (hnt : fn.ntmps = nt) (hrs : fn.results.toList = rs)
    (hal : args.length ≤ nt) (hw : wordsG args R W V N0 = true) (h : ∀ cx : Cx, cx.nt = nt → cx.n0 = N0 → DW P cx c (argsT 0 args R) N0 (RetOk T rs V W)) : CallG P f args R W V := by
  refine ⟨hen, fun cx Fr m Im w a σ vs hs0 hargs hR => ?_⟩
  have hmem := hs0.mem
  simp only [wordsG, Bool.and_eq_true, List.all_eq_true, decide_eq_true_eq] at hw
  obtain ⟨⟨⟨⟨⟨w1, w2⟩, w3⟩, w4⟩, w5⟩, w6⟩ := hw
  have hRc : ∀ k off d, (Key.c k off, d) ∈ R → ∃ b v, m.blk k = some b ∧ w.cell? ⟨b, off, none⟩ = some v ∧ Rel m Im w v d := fun k off d hm => hs0.ce k off d (hR _ hm)
  have hRo : ∀ k d, (Key.o k, d) ∈ R → ∃ b, m.obj k = some b ∧ ObOk m Im w b d := fun k d hm => hs0.ok k d (hR _ hm)
  have hRr : ∀ g d, (Key.r g, d) ∈ R → ∃ Rw, m.row g = some Rw ∧ RoOk m Im w Rw d := fun g d hm => hs0.ro g d (hR _ hm)
  let RB : Nat → Prop := fun b => ∃ g Rw, rowN R g = true ∧ m.row g = some Rw ∧ Rw.hv.ownBlock = some b
  have hnoj : ∀ X J, (Key.j, D.j X J) ∉ R := fun X J hm => by have := (w2 _ hm).2; cases this
  have hin : ∀ k b, inN R k = true → m.blk k = some b → Tch m R b := fun k b hk hb => by
    rcases of_rnames hk with ⟨off, d, hm⟩ | ⟨d, hm⟩
    · exact .inl ⟨k, off, d, hm, hb⟩
    · obtain ⟨b', q1, _⟩ := hRo _ _ hm
      have := hmem.dis k b hb
      rw [this] at q1; cases q1
  have hino : ∀ k b, inN R k = true → m.obj k = some b → Tch m R b := fun k b hk hb => by
    rcases of_rnames hk with ⟨off, d, hm⟩ | ⟨d, hm⟩
    · obtain ⟨b', v, q1, _⟩ := hRc _ _ _ hm
      have := hmem.dis k b' q1
      rw [this] at hb; cases hb
    · exact .inr (.inr ⟨k, d, hm, hb⟩)
  have hlt : ∀ k, inN R k = true → k < N0 := fun k hk => w5 k (by unfold inN at hk; rwa [List.contains_iff_mem] at hk)
  have hltr : ∀ g, rowN R g = true → g < N0 := fun g hg => (w6 g (by unfold rowN at hg; rwa [List.contains_iff_mem] at hg)).1
  have hTb : ∀ b k, Tch m R b → m.blk k = some b → inN R k = true := fun b k ht hk => by
    rcases ht with ⟨k', off, d, hm, hb⟩ | ⟨X, J, hm, _⟩ | ⟨k', d, hm, hb⟩
    · have := hmem.inj k k' b hk hb; subst this; exact mem_rnames hm
    · exact absurd hm (hnoj X J)
    · exact absurd hk (hmem.oblk k' k b hb)
  have hTo : ∀ b k, Tch m R b → m.obj k = some b → inN R k = true := fun b k ht hk => by
    rcases ht with ⟨k', off, d, hm, hb⟩ | ⟨X, J, hm, _⟩ | ⟨k', d, hm, hb⟩
    · exact absurd hb (hmem.oblk k k' b hk)
    · exact absurd hm (hnoj X J)
    · have := hmem.oinj k k' b hk hb; subst this; exact mem_rnamesO hm
  have hTr : ∀ b g Rw, Tch m R b → m.row g = some Rw → Rw.hv.ownBlock ≠ some b := fun b g Rw ht hg e => by
    rcases ht with ⟨k', off, d, hm, hb⟩ | ⟨X, J, hm, _⟩ | ⟨k', d, hm, hb⟩
    · exact hmem.rblk g Rw b k' hg e hb
    · exact absurd hm (hnoj X J)
    · exact hmem.orow k' g Rw b hb hg e
  have hTown : ∀ b, Tch m R b → cx.C b ∨ cx.w0.heap.size ≤ b := fun b ht => by
    rcases ht with ⟨k', off, d, hm, hb⟩ | ⟨X, J, hm, _⟩ | ⟨k', d, hm, hb⟩
    · exact hmem.own k' b hb
    · exact absurd hm (hnoj X J)
    · exact hmem.oown k' b hb
  have hTim : ∀ b o, Tch m R b → ¬ Im b o := fun b o ht => by
    rcases ht with ⟨k', off, d, hm, hb⟩ | ⟨X, J, hm, _⟩ | ⟨k', d, hm, hb⟩
    · exact hmem.nim k' b o hb
    · exact absurd hm (hnoj X J)
    · exact hmem.onim k' b o hb
  have hTX : ∀ b X J, Tch m R b → XOk cx m Im w X J → ¬ X b := fun b X J ht hX hb => by
    rcases ht with ⟨k', off, d, hm, hb'⟩ | ⟨X', J', hm, _⟩ | ⟨k', d, hm, hb'⟩
    · exact hX.blk b k' hb hb'
    · exact hnoj X' J' hm
    · exact hX.obj b k' hb hb'
  refine calls_of_wp hf hb ?_
  let cx' : Cx := { w0 := w, C := fun b => Tch m R b ∨ RB b, Im0 := Im, m0 := m.cut (inN R) (rowN R), nt := nt, n0 := N0, h0 := fun k b hk => hlt k (Mp.cut_blk hk).1, h0o := fun k b hk => hlt k (Mp.cut_obj hk).1, CR := RB, hCR := fun b h => .inr h, h0r := fun g Rw hg => hltr g (Mp.cut_row hg).1 }
  have hst : St cx' (fun k => N0 ≤ k) (m.cut (inN R) (rowN R)) Im w { tmps := vs.toArray ++ Array.replicate (fn.ntmps - vs.toArray.size) undef, defers := [] } (argsT 0 args R) := by
    have hvl : vs.length = args.length := (relL_iff.1 hargs).1
    refine ⟨{
      off := Off.refl _ _, im := hmem.im, imb := fun b o h => .inl h, im0 := fun b o h => h
      own := fun k b hk => .inl (.inl (hin k b (Mp.cut_blk hk).1 (Mp.cut_blk hk).2))
      lt := fun k b hk => hmem.lt k b (Mp.cut_blk hk).2
      free := fun k b o hk => hmem.free k b o (Mp.cut_blk hk).2
      nim := fun k b o hk => hmem.nim k b o (Mp.cut_blk hk).2
      inj := fun k k' b hk hk' => hmem.inj k k' b (Mp.cut_blk hk).2 (Mp.cut_blk hk').2
      row := fun g R hg => hmem.row g R (Mp.cut_row hg).2
      rIm := fun g R b o hg => hmem.rIm g R b o (Mp.cut_row hg).2
      rblk := fun g R b k hg hb hk => hmem.rblk g R b k (Mp.cut_row hg).2 hb (Mp.cut_blk hk).2
      rinj := fun g g' R R' b hg hg' => hmem.rinj g g' R R' b (Mp.cut_row hg).2 (Mp.cut_row hg').2
      fr := fun k hk => ⟨?f1, ?f2, ?f3⟩
      m0 := fun k b hk => hk
      m0o := fun k b hk => hk
      oown := fun k b hk => .inl (.inl (hino k b (Mp.cut_obj hk).1 (Mp.cut_obj hk).2))
      olt := fun k b hk => hmem.olt k b (Mp.cut_obj hk).2
      onim := fun k b o hk => hmem.onim k b o (Mp.cut_obj hk).2
      oinj := fun k k' b hk hk' => hmem.oinj k k' b (Mp.cut_obj hk).2 (Mp.cut_obj hk').2
      oblk := fun k k' b hk hk' => hmem.oblk k k' b (Mp.cut_obj hk).2 (Mp.cut_blk hk').2
      orow := fun k g R b hk hg => hmem.orow k g R b (Mp.cut_obj hk).2 (Mp.cut_row hg).2
      dis := fun k b hk => ?dis
      k0 := KeepI.refl _ _
      rown := fun g Rw b hg hb => .inr ⟨g, Rw, (Mp.cut_row hg).1, (Mp.cut_row hg).2, hb⟩
      m0r := fun g Rw hg => ⟨Rw, hg, Nat.le_refl _, fun _ => rfl⟩ }, rfl, ?sz, fun x d hx => ?tm, fun k off d hx => ?ce, fun g d hx => ?ro, fun d hx => ?jk, fun k d hx => ?okk⟩
    case f1 =>
      by_cases hk2 : inN R k = true
      · have := hlt k hk2; omega
      · simp [Mp.cut, hk2]
    case f2 =>
      by_cases hk2 : rowN R k = true
      · have := hltr k hk2; omega
      · simp [Mp.cut, hk2]
    case f3 =>
      by_cases hk2 : inN R k = true
      · have := hlt k hk2; omega
      · simp [Mp.cut, hk2]
    case dis =>
      have := hmem.dis k b (Mp.cut_blk hk).2
      show (if _ then m.obj k else none) = none
      rw [this]; simp
    case sz => simp [cx', hvl, hnt]; omega
    case tm =>
      rcases get_argsT args 0 x hx with ⟨j, h1, h2⟩ | hx
      · have hj : j < args.length := by
          rcases Nat.lt_or_ge j args.length with h' | h'
          · exact h'
          · rw [List.getElem?_eq_none h'] at h2; cases h2
        rw [List.getElem?_eq_getElem hj] at h2
        cases h2
        have hr := (relL_iff.1 hargs).2 j hj
        have hx' : x = j := by omega
        subst hx'
        have : (vs.toArray ++ Array.replicate (fn.ntmps - vs.toArray.size) undef).getD x undef = vs.getD x undef := by
          have hx2 : x < vs.length := by omega
          rw [Array.getD_eq_getD_getElem?, Array.getElem?_append_left (by simpa using hx2), List.getD_eq_getElem?_getD]
          simp
        show Rel _ _ _ ((vs.toArray ++ Array.replicate (fn.ntmps - vs.toArray.size) undef).getD x undef) _
        rw [this]
        exact hr.cut (w1 _ (List.getElem_mem hj))
      · have := (w2 _ (mem_of_get hx)).2
        cases this
    case ce =>
      rw [get_argsN (fun x => by simp) args 0] at hx
      have hm := mem_of_get hx
      obtain ⟨b, v, q1, q2, q3⟩ := hRc _ _ _ hm
      exact ⟨b, v, by simp only [Mp.cut, mem_rnames hm, if_true]; exact q1, q2, q3.cut (w2 _ hm).1⟩
    case ro =>
      rw [get_argsN (fun x => by simp) args 0] at hx
      have hm := mem_of_get hx
      obtain ⟨Rw, q1, q2⟩ := hRr _ _ hm
      exact ⟨Rw, by simp only [Mp.cut, mem_rowsR hm, if_true]; exact q1, q2.cut (w2 _ hm).1⟩
    case jk =>
      rw [get_argsN (fun x => by simp) args 0] at hx
      have := (w2 _ (mem_of_get hx)).2
      cases this
    case okk =>
      rw [get_argsN (fun x => by simp) args 0] at hx
      have hm := mem_of_get hx
      obtain ⟨b, q1, q2⟩ := hRo _ _ hm
      exact ⟨b, by simp only [Mp.cut, mem_rnamesO hm, if_true]; exact q1, q2.cut (w2 _ hm).1⟩
  refine Code.wp_mono (fun e a' w' ⟨σ', N', m', Im', ⟨hq1, ⟨V', hq2, hq3⟩, hq4⟩, hs⟩ => ?_) (h cx' rfl rfl _ Im w _ hst)
  obtain ⟨v, r1, r2⟩ := resD_run (P := P) (fn := fn) hT hs (by rw [hrs]; exact hq2)
  have hmem' := hs.mem
  have hoff : Off (fun b => Tch m R b ∨ RB b) w w' := hmem'.off
  have hki : KeepI Im w w' := hmem'.k0
  have hi : ∀ b o, Im b o → Im' b o := hmem'.im0
  have hib : ∀ b o, Im' b o → Im b o ∨ w.heap.size ≤ b ∨ RB b := hmem'.imb
  have hrown : ∀ g Rw b, m'.row g = some Rw → Rw.hv.ownBlock = some b → w.heap.size ≤ b ∨ RB b := hmem'.rown
  have hsame : ∀ b, b < w.heap.size → ¬ Tch m R b → ¬ RB b → w'.heap[b]? = w.heap[b]? := fun b hb h1 h2 => hoff.block b hb fun h => h.elim h1 h2
  have hmb : ∀ k b, inN R k = true → m.blk k = some b → m'.blk k = some b := fun k b hk hb => hmem'.m0 k b (by show (m.cut (inN R) (rowN R)).blk k = some b; simp [Mp.cut, hk, hb])
  have hmo : ∀ k b, inN R k = true → m.obj k = some b → m'.obj k = some b := fun k b hk hb => hmem'.m0o k b (by show (m.cut (inN R) (rowN R)).obj k = some b; simp [Mp.cut, hk, hb])
  have hm' : ∀ k b, inN R k = true → m'.blk k = some b → m.blk k = some b := fun k b hk hb => by
    rcases of_rnames hk with ⟨off, d, hm⟩ | ⟨d, hm⟩
    · obtain ⟨b', _, q1, _⟩ := hRc _ _ _ hm
      have := hmb k b' hk q1
      rw [this] at hb; cases hb; exact q1
    · obtain ⟨b', q1, _⟩ := hRo _ _ hm
      have := hmo k b' hk q1
      rw [hmem'.dis k b hb] at this; cases this
  have hmo' : ∀ k b, inN R k = true → m'.obj k = some b → m.obj k = some b := fun k b hk hb => by
    rcases of_rnames hk with ⟨off, d, hm⟩ | ⟨d, hm⟩
    · obtain ⟨b', _, q1, _⟩ := hRc _ _ _ hm
      have := hmb k b' hk q1
      rw [hmem'.dis k b' this] at hb; cases hb
    · obtain ⟨b', q1, _⟩ := hRo _ _ hm
      have := hmo k b' hk q1
      rw [this] at hb; cases hb; exact q1
  let m2 : Mp := ⟨m.blk, fun g => if rowN R g then m'.row g else m.row g, m.obj⟩
  have h2r : ∀ {g Rw}, m2.row g = some Rw → (rowN R g = true ∧ m'.row g = some Rw) ∨ (rowN R g = false ∧ m.row g = some Rw) := fun {g Rw} hg => by
    cases hr : rowN R g with
    | true => left; simp [m2, hr] at hg; exact ⟨rfl, hg⟩
    | false => right; simp [m2, hr] at hg; exact ⟨rfl, hg⟩
  have hRBr : ∀ b g Rw, RB b → m.row g = some Rw → Rw.hv.ownBlock = some b → rowN R g = true := fun b g Rw ⟨g2, R2, q1, q2, q3⟩ hg ho => by
    have := hmem.rinj g2 g R2 Rw b q2 hg q3 ho
    subst this; exact q1
  have hRBb : ∀ b k, RB b → m.blk k ≠ some b := fun b k ⟨g2, R2, q1, q2, q3⟩ => hmem.rblk g2 R2 b k q2 q3
  have hRBo : ∀ b k, RB b → m.obj k ≠ some b := fun b k ⟨g2, R2, q1, q2, q3⟩ hk => hmem.orow k g2 R2 b hk q2 q3
  have hRBw : ∀ b, RB b → cx.w0.heap.size ≤ b ∨ cx.CR b := fun b ⟨g2, R2, q1, q2, q3⟩ => hmem.rown g2 R2 b q2 q3
  have hrlt : ∀ g Rw b, m.row g = some Rw → Rw.hv.ownBlock = some b → b < w.heap.size := fun g Rw b hg ho => by
    obtain ⟨xs, hx⟩ := hmem.row g Rw hg
    exact (row_lt hx ho).2
  have hle : m.le m2 := ⟨fun _ _ h => h, fun g Rw hg => by
    cases hr : rowN R g with
    | true =>
      obtain ⟨R', q1, q2⟩ := hmem'.m0r g Rw (by show (m.cut (inN R) (rowN R)).row g = some Rw; simp [Mp.cut, hr, hg])
      exact ⟨R', by simp [m2, hr, q1], q2⟩
    | false => exact ⟨Rw, by simp [m2, hr, hg], Nat.le_refl _, fun _ => rfl⟩, fun _ _ h => h⟩
  have hcutle : (m'.cut (inN R) (rowN R)).le m2 := ⟨fun k b hk => hm' k b (Mp.cut_blk hk).1 (Mp.cut_blk hk).2, fun g Rw hg => ⟨Rw, by simp [m2, (Mp.cut_row hg).1, (Mp.cut_row hg).2], Nat.le_refl _, fun _ => rfl⟩, fun k b hk => hmo' k b (Mp.cut_obj hk).1 (Mp.cut_obj hk).2⟩
  have hrel : ∀ {x d}, Rel m' Im' w' x d → d.ok (inN R) (rowN R) = true → Rel m2 Im' w' x d := fun hx hd => (hx.cut hd).mono hcutle (KeepI.refl _ _) fun _ _ h => h
  have hmono : ∀ {x d}, Rel m Im w x d → Rel m2 Im' w' x d := fun hx => hx.mono hle hki hi
  have hmem2 : MemOk cx Fr m2 Im' w' := {
    off := ⟨hoff.os.trans hmem.off.os, hoff.tape.trans hmem.off.tape, hoff.output.trans hmem.off.output, Nat.le_trans hmem.off.size hoff.size, fun b hb hC => (hsame b (Nat.lt_of_lt_of_le hb hmem.off.size) (fun h => (hTown b h).elim hC fun h => Nat.lt_irrefl _ (Nat.lt_of_lt_of_le hb h)) (fun h => (hRBw b h).elim (fun h => Nat.lt_irrefl _ (Nat.lt_of_lt_of_le hb h)) fun h => hC (cx.hCR b h))).trans (hmem.off.block b hb hC)⟩
    im := hmem'.im
    imb := fun b o hh => by
      rcases hib b o hh with h1 | h1 | h1
      · exact hmem.imb b o h1
      · exact .inr (.inl (Nat.le_trans hmem.off.size h1))
      · exact .inr (hRBw b h1)
    im0 := fun b o hh => hi b o (hmem.im0 b o hh)
    own := hmem.own
    lt := fun k b hk => Nat.lt_of_lt_of_le (hmem.lt k b hk) hoff.size
    free := fun k b o hk => by
      cases hn : inN R k with
      | true => exact hmem'.free k b o (hmb k b hn hk)
      | false => exact (World.frozen?_of_block (a := ⟨b, o, none⟩) (hsame b (hmem.lt k b hk) (fun h => by rw [hTb b k h hk] at hn; cases hn) fun h => hRBb b k h hk)).trans (hmem.free k b o hk)
    nim := fun k b o hk hh => by
      cases hn : inN R k with
      | true => exact hmem'.nim k b o (hmb k b hn hk) hh
      | false =>
        rcases hib b o hh with h1 | h1 | h1
        · exact hmem.nim k b o hk h1
        · have := hmem.lt k b hk; omega
        · exact hRBb b k h1 hk
    inj := hmem.inj
    row := fun g Rw hg => by
      rcases h2r hg with ⟨_, hg⟩ | ⟨hn, hg⟩
      · exact hmem'.row g Rw hg
      · obtain ⟨xs, hx⟩ := hmem.row g Rw hg
        refine ⟨xs, hx.1, ?_⟩
        rcases hx.2 with h0 | ⟨g', cap, cur, e, h1, h2, h3⟩
        · exact .inl h0
        · refine .inr ⟨g', cap, cur, e, h1, ?_, h3⟩
          have ho : Rw.hv.ownBlock = some g' := by rw [e]; rfl
          rw [hsame g' (lt_of_block h2) (fun ht => hTr g' g Rw ht hg ho) fun ht => by rw [hRBr g' g Rw ht hg ho] at hn; cases hn]; exact h2
    rIm := fun g Rw b o hg ho hh => by
      rcases h2r hg with ⟨_, hg⟩ | ⟨hn, hg⟩
      · exact hmem'.rIm g Rw b o hg ho hh
      · rcases hib b o hh with h1 | h1 | h1
        · exact hmem.rIm g Rw b o hg ho h1
        · have := hrlt g Rw b hg ho; omega
        · rw [hRBr b g Rw h1 hg ho] at hn; cases hn
    rblk := fun g Rw b k hg ho hk => by
      rcases h2r hg with ⟨_, hg⟩ | ⟨hn, hg⟩
      · rcases hrown g Rw b hg ho with h1 | h1
        · have := hmem.lt k b hk; omega
        · exact hRBb b k h1 hk
      · exact hmem.rblk g Rw b k hg ho hk
    rinj := fun g g' Rw Rw' b hg hg' ho ho' => by
      rcases h2r hg with ⟨hn, hg⟩ | ⟨hn, hg⟩ <;> rcases h2r hg' with ⟨hn', hg'⟩ | ⟨hn', hg'⟩
      · exact hmem'.rinj g g' Rw Rw' b hg hg' ho ho'
      · rcases hrown g Rw b hg ho with h1 | h1
        · have := hrlt g' Rw' b hg' ho'; omega
        · rw [hRBr b g' Rw' h1 hg' ho'] at hn'; cases hn'
      · rcases hrown g' Rw' b hg' ho' with h1 | h1
        · have := hrlt g Rw b hg ho; omega
        · rw [hRBr b g Rw h1 hg ho] at hn; cases hn
      · exact hmem.rinj g g' Rw Rw' b hg hg' ho ho'
    fr := fun k hk => ⟨(hmem.fr k hk).1, by
      cases hn : rowN R k with
      | true =>
        obtain ⟨d, hm⟩ := of_rowsR hn
        obtain ⟨Rw, q1, _⟩ := hRr _ _ hm
        rw [(hmem.fr k hk).2.1] at q1; cases q1
      | false => simp [m2, hn, (hmem.fr k hk).2.1], (hmem.fr k hk).2.2⟩
    m0 := hmem.m0
    m0o := hmem.m0o
    oown := hmem.oown
    olt := fun k b hk => Nat.lt_of_lt_of_le (hmem.olt k b hk) hoff.size
    onim := fun k b o hk hh => by
      cases hn : inN R k with
      | true => exact hmem'.onim k b o (hmo k b hn hk) hh
      | false =>
        rcases hib b o hh with h1 | h1 | h1
        · exact hmem.onim k b o hk h1
        · have := hmem.olt k b hk; omega
        · exact hRBo b k h1 hk
    oinj := hmem.oinj
    oblk := hmem.oblk
    orow := fun k g Rw b hk hg ho => by
      rcases h2r hg with ⟨_, hg⟩ | ⟨hn, hg⟩
      · rcases hrown g Rw b hg ho with h1 | h1
        · have := hmem.olt k b hk; omega
        · exact hRBo b k h1 hk
      · exact hmem.orow k g Rw b hk hg ho
    dis := hmem.dis
    k0 := hmem.k0.trans (hki.weaken hmem.im0)
    rown := fun g Rw b hg ho => by
      rcases h2r hg with ⟨_, hg⟩ | ⟨hn, hg⟩
      · rcases hrown g Rw b hg ho with h1 | h1
        · exact .inl (Nat.le_trans hmem.off.size h1)
        · exact hRBw b h1
      · exact hmem.rown g Rw b hg ho
    m0r := hmem.m0r_le hle }
  have hg0 : ∀ k, get (dropT R σ) k = if touches R k then none else get σ k := fun k => by
    unfold dropT
    rw [get_filter (fun k => !touches R k)]
    cases touches R k <;> rfl
  let keep : Key → Bool := fun k => match k with | .r g => !rowN R g | _ => true
  have hg1 : ∀ k, get ((dropT R σ).filter fun p => keep p.1) k = if keep k then get (dropT R σ) k else none := fun k => get_filter keep _ k
  have hst1 : St cx Fr m2 Im' w' a ((dropT R σ).filter fun p => keep p.1) := by
    refine ⟨hmem2, hs0.df, hs0.nt, fun x d hx => ?_, fun k off d hx => ?_, fun g d hx => ?_, fun d hx => ?_, fun k d hx => ?_⟩
    · rw [hg1, if_pos rfl, hg0] at hx; simp only [touches] at hx; exact hmono (hs0.tm x d hx)
    · rw [hg1, if_pos rfl, hg0] at hx
      by_cases ht : touches R (.c k off) = true
      · rw [if_pos ht] at hx; cases hx
      · rw [if_neg ht] at hx
        obtain ⟨b, u, q1, q2, q3⟩ := hs0.ce k off d hx
        refine ⟨b, u, q1, ?_, hmono q3⟩
        refine (World.cell?_of_block (a := ⟨b, off, none⟩) (hsame b (ltOfCell q2) (fun hb => ?_) fun hb => hRBb b k hb q1)).trans q2
        rcases hb with ⟨k', off', d', hm, hb⟩ | ⟨X, J, hm, hb⟩ | ⟨k', d', hm, hb⟩
        · have := hmem.inj k k' b q1 hb
          subst this
          exact ht (by simp only [touches, List.any_eq_true]; exact ⟨_, hm, by simp⟩)
        · exact absurd hm (hnoj X J)
        · exact hmem.oblk k' k b hb q1
    · rw [hg1] at hx
      cases hn : rowN R g with
      | true => simp [keep, hn] at hx
      | false =>
        rw [if_pos (by simp [keep, hn]), hg0] at hx; simp only [touches] at hx
        obtain ⟨Rw, q1, q2⟩ := hs0.ro g d hx
        exact ⟨Rw, by simp [m2, hn, q1], q2.mono (fun b hb => hsame b (hmem.rlt q1 hb) (fun ht => hTr b g Rw ht q1 hb) fun ht => by rw [hRBr b g Rw ht q1 hb] at hn; cases hn) hle hki hi fun b o hb hh => (hib b o hh).elim id fun h2 => h2.elim (fun h2 => absurd (hmem.rlt q1 hb) (Nat.not_lt.2 h2)) fun ht => by rw [hRBr b g Rw ht q1 hb] at hn; cases hn⟩
    · rw [hg1, if_pos rfl, hg0] at hx
      have ht : touches R .j = false := by
        cases ht : touches R .j with
        | false => rfl
        | true =>
          simp only [touches, List.any_eq_true] at ht
          obtain ⟨⟨k, d'⟩, hp, hj⟩ := ht
          cases k <;> simp [isJ] at hj
          have := (w2 _ hp).2; cases this
      rw [ht] at hx
      obtain ⟨X, J, e, hX⟩ := hs0.jk d hx
      have hRX : ∀ b, X b → ¬ RB b := fun b hb ⟨g2, R2, q1, q2, q3⟩ => hX.row b g2 R2 hb q2 q3
      have hxs : ∀ b, X b → w'.heap[b]? = w.heap[b]? := fun b hb => hsame b (hX.lt b hb) (fun ht => hTX b X J ht hX hb) (hRX b hb)
      refine ⟨X, J, e, hX.stable _ hoff.size hxs, fun w2 hs2 hx2 => hX.stable w2 (Nat.le_trans hoff.size hs2) fun b hb => (hx2 b hb).trans (hxs b hb), fun b hb => Nat.lt_of_lt_of_le (hX.lt b hb) hoff.size, hX.own, fun b o hb hh => ?_, hX.blk, fun b g Rw hb hg ho => ?_, hX.obj⟩
      · rcases hib b o hh with h1 | h1 | h1
        · exact hX.nim b o hb h1
        · have := hX.lt b hb; omega
        · exact hRX b hb h1
      · rcases h2r hg with ⟨_, hg⟩ | ⟨hn, hg⟩
        · rcases hrown g Rw b hg ho with h1 | h1
          · have := hX.lt b hb; omega
          · exact hRX b hb h1
        · exact hX.row b g Rw hb hg ho
    · rw [hg1, if_pos rfl, hg0] at hx
      by_cases ht : touches R (.o k) = true
      · rw [if_pos ht] at hx; cases hx
      · rw [if_neg ht] at hx
        obtain ⟨b, q1, q2⟩ := hs0.ok k d hx
        refine ⟨b, q1, q2.mono (hsame b (hmem.olt k b q1) (fun hT => ?_) fun hb => hRBo b k hb q1) hle hki hi⟩
        rcases hT with ⟨k', off', d', hm, hb'⟩ | ⟨X', J', hm, hb'⟩ | ⟨k', d', hm, hb'⟩
        · exact hmem.oblk k k' b q1 hb'
        · exact hnoj X' J' hm
        · have := hmem.oinj k k' b q1 hb'
          subst this
          exact ht (by simp only [touches, List.any_eq_true]; exact ⟨_, hm, by simp⟩)
  have hW : Holds cx m2 Im' w' W := fun p hp => by
    have hok := w3 p hp
    have hg := hq4 p hp
    obtain ⟨key, d⟩ := p
    cases key with
    | c k off =>
      have hk : inN R k = true := hok.2
      rcases hg with hg | ⟨d', hg, e, _⟩
      · obtain ⟨b, x, q1, q2, q3⟩ := hs.ce k off d hg
        exact ⟨b, x, hm' k b hk q1, q2, hrel q3 hok.1⟩
      · obtain ⟨b, x, q1, q2, q3⟩ := hs.ce k off d' hg
        exact ⟨b, x, hm' k b hk q1, q2, hrel (e _ _ _ _ q3) hok.1⟩
    | o k =>
      have hk : inN R k = true := hok.2
      rcases hg with hg | ⟨d', hg, e, hf⟩
      · obtain ⟨b, q1, q2⟩ := hs.ok k d hg
        exact ⟨b, hmo' k b hk q1, (q2.cut hok.1).mono rfl hcutle (KeepI.refl _ _) fun _ _ h => h⟩
      · exact hf.elim
    | r g =>
      have hk : rowN R g = true := hok.2
      rcases hg with hg | ⟨d', hg, e, hf⟩
      · obtain ⟨Rw, q1, q2⟩ := hs.ro g d hg
        exact ⟨Rw, by simp [m2, hk, q1], (q2.cut hok.1).mono (fun _ _ => rfl) hcutle (KeepI.refl _ _) (fun _ _ h => h) fun _ _ _ h => h⟩
      · exact hf.elim
    | j => cases hok.2
    | t x => cases hok.2
  have hst2 := (hst1.putHolds hW).sub (σ' := puts (dropT R σ) W) fun k d hk => by
    by_cases hW : ∃ p ∈ W, p.1 = k
    · rw [← hk]; exact get_puts_in W _ _ k hW
    · have hW' : ∀ p ∈ W, p.1 ≠ k := fun p hp e => hW ⟨p, hp, e⟩
      rw [get_puts_not W _ _ hW'] at hk ⊢
      rw [hg1, if_pos]
      · exact hk
      · cases k with
        | r g =>
          show (!rowN R g) = true
          cases hn : rowN R g with
          | false => rfl
          | true =>
            have := (w6 g (by unfold rowN at hn; rwa [List.contains_iff_mem] at hn)).2
            simp only [List.any_eq_true] at this
            obtain ⟨p, hp, e⟩ := this
            exact absurd (Key.eq_iff.1 e) (hW' p hp)
        | _ => rfl
  have hfin : ∃ v' m2 Im2, Ending.returned v = .returned v' ∧ St cx Fr m2 Im2 w' a (puts (dropT R σ) W) ∧ Rel m2 Im2 w' v' V :=
    ⟨v, m2, Im', rfl, hst2, hrel (hq3 _ _ _ _ r2) w4⟩
  rcases hq1 with rfl | rfl
  · exact ⟨hs.df, v, r1, hfin⟩
  · exact ⟨hs.df, v, r1, hfin⟩
end Go.Proofs.YtflbnonbfmmchaaGreat

namespace Go.Proofs.YtflbnonbfmmchaaGreat
open Go.RowKit
def TP3_41 : TI := ⟨4, true, [Value.slice none 0 0, Value.int IntKind.i64 0, Value.int IntKind.i64 0, Value.slice none 0 0], [(0, 1, false), (1, 2, true), (3, 1, false)], none, 64, 6, none, false⟩
theorem TP3_41_ok : TypOk Tryz.prog 41 TP3_41 := by constructor <;> kernel_rfl
def TP3_59 : TI := ⟨1, false, [Value.slice none 0 0], [], some 3, 24, 5, none, false⟩
theorem TP3_59_ok : TypOk Tryz.prog 59 TP3_59 := by constructor <;> kernel_rfl
def TP3_33 : TI := ⟨1, false, [Value.slice none 0 0], [], some 44, 24, 5, none, false⟩
theorem TP3_33_ok : TypOk Tryz.prog 33 TP3_33 := by constructor <;> kernel_rfl
def TP3_171 : TI := ⟨1, false, [Value.slice none 0 0], [], some 250, 24, 5, none, false⟩
theorem TP3_171_ok : TypOk Tryz.prog 171 TP3_171 := by constructor <;> kernel_rfl
def TP3_3 : TI := ⟨1, false, [Value.int IntKind.i64 0], [], none, 8, 2, none, false⟩
theorem TP3_3_ok : TypOk Tryz.prog 3 TP3_3 := by constructor <;> kernel_rfl
def TP3_44 : TI := ⟨2, true, [Value.slice none 0 0, Value.int IntKind.i64 0], [(0, 1, false), (1, 1, false)], none, 32, 6, none, false⟩
theorem TP3_44_ok : TypOk Tryz.prog 44 TP3_44 := by constructor <;> kernel_rfl
def TP3_39 : TI := ⟨1, false, [Value.slice none 0 0], [], some 41, 24, 5, none, false⟩
theorem TP3_39_ok : TypOk Tryz.prog 39 TP3_39 := by constructor <;> kernel_rfl
def TP3_45 : TI := ⟨1, false, [Value.int IntKind.i64 0], [], none, 8, 2, none, false⟩
theorem TP3_45_ok : TypOk Tryz.prog 45 TP3_45 := by constructor <;> kernel_rfl
def TP3_192 : TI := ⟨1, false, [Value.slice none 0 0], [], some 33, 24, 5, none, false⟩
theorem TP3_192_ok : TypOk Tryz.prog 192 TP3_192 := by constructor <;> kernel_rfl
def TP3_38 : TI := ⟨2, true, [Value.int IntKind.i64 0, Value.int IntKind.i64 0], [(0, 1, false), (1, 1, false)], none, 16, 6, none, true⟩
theorem TP3_38_ok : TypOk Tryz.prog 38 TP3_38 := by constructor <;> kernel_rfl
def TP3_250 : TI := ⟨4, true, [Value.int IntKind.i64 0, Value.slice none 0 0, Value.slice none 0 0, Value.slice none 0 0], [(0, 1, false), (1, 1, false), (2, 1, false), (3, 1, false)], none, 80, 6, none, false⟩
theorem TP3_250_ok : TypOk Tryz.prog 250 TP3_250 := by constructor <;> kernel_rfl
def TP3 : List (Nat × TI) := [(41, TP3_41), (59, TP3_59), (33, TP3_33), (171, TP3_171), (3, TP3_3), (44, TP3_44), (39, TP3_39), (45, TP3_45), (192, TP3_192), (38, TP3_38), (250, TP3_250)]
theorem TP3_ok : TabOk Tryz.prog TP3 := ((((((((((((TabOk.nil _).cons TP3_250_ok).cons TP3_38_ok).cons TP3_192_ok).cons TP3_45_ok).cons TP3_39_ok).cons TP3_44_ok).cons TP3_3_ok).cons TP3_171_ok).cons TP3_33_ok).cons TP3_59_ok).cons TP3_41_ok)

def eUse (u : Pn.Use) : List D := [.v (.int .i64 u.mt), .sl 1 (eIs u.vars) none, .sl 2 (eTys u.binds) none, .sl 1 (eIs u.path) none]
def eUses (l : List Pn.Use) : List (List D) := l.map eUse
theorem eUses_len (l : List Pn.Use) : (eUses l).length = l.length := List.length_map ..
theorem eUses_append (l r : List Pn.Use) : eUses (l ++ r) = eUses l ++ eUses r := List.map_append ..
@[simp] theorem eUses_ok (f g : Nat → Bool) (l : List Pn.Use) : D.okss f g (eUses l) = true := D.okss_map _ l fun u _ => by simp [eUse, D.oks, D.ok, eIs_ok, eTys_ok]
namespace Pn
theorem usess_app (ar : List Ty) (p : List Int) : ∀ (l r : List Tm) (k : Nat), usess (l ++ r) ar p k = if (usess l ar p k).2 then ((usess l ar p k).1 ++ (usess r ar p (k + l.length)).1, (usess r ar p (k + l.length)).2) else ((usess l ar p k).1, false)
  | [], r, k => by simp [usess]
  | t :: l, r, k => by
    simp only [List.cons_append, usess]
    rw [usess_app ar p l r (k + 1), show k + 1 + l.length = k + (t :: l).length by simp; omega]
    by_cases h : (uses t ar (p ++ [(k : Int)])).2 = true
    · simp only [h, if_true]
      by_cases h2 : (usess l ar p (k + 1)).2 = true
      · simp [h2]
      · simp [h2]
    · simp [h]
theorem usess_take (ar : List Ty) (p : List Int) (a : List Tm) (j : Nat) (hj : j < a.length) (h : (usess (a.take j) ar p 0).2 = true) :
    usess (a.take (j + 1)) ar p 0 = ((usess (a.take j) ar p 0).1 ++ (uses a[j] ar (p ++ [(j : Int)])).1, (uses a[j] ar (p ++ [(j : Int)])).2) := by
  rw [List.take_add_one, List.getElem?_eq_getElem hj]
  show usess (a.take j ++ [a[j]]) ar p 0 = _
  rw [usess_app, if_pos h, List.length_take, Nat.min_eq_left (by omega), Nat.zero_add]
  simp only [usess]
  by_cases h2 : (uses a[j] ar (p ++ [(j : Int)])).2 = true
  · simp [h2]
  · simp [h2]
theorem usess_stop (ar : List Ty) (p : List Int) (a : List Tm) (j : Nat) (h : (usess (a.take j) ar p 0).2 = false) : usess a ar p 0 = usess (a.take j) ar p 0 := by
  have h1 : usess a ar p 0 = usess (a.take j ++ a.drop j) ar p 0 := by rw [List.take_append_drop]
  rw [h1, usess_app, if_neg (by simp [h])]
  rw [← h]
theorem usess_len (ar : List Ty) (p : List Int) : ∀ (a : List Tm) (k : Nat) (_ : ∀ t ∈ a, ∀ p, (uses t ar p).1.length ≤ t.full), (usess a ar p k).1.length ≤ Tm.fulls a
  | [], k, _ => by simp [usess, Tm.fulls]
  | t :: l, k, h => by
    have h1 := h t (by simp) (p ++ [(k : Int)])
    have h2 := usess_len ar p l (k + 1) fun t ht => h t (by simp [ht])
    rw [usess, Tm.fulls]
    split
    · simp; omega
    · dsimp only; omega
theorem uses_len (t : Tm) : ∀ (ar : List Ty) (p : List Int), (uses t ar p).1.length ≤ t.full := by
  induction t using Tm.ind with
  | h bs k i a ih =>
    intro ar p
    rw [uses_eq, Tm.full_eq]
    split
    · split <;> simp
    · have := usess_len (ar ++ bs) p a 0 fun t ht p => ih t ht _ p
      omega
end Pn
def usesV (l : List Pn.Use) (r : List Pn.Use × Bool) : D := if r.2 then .tu [.sl 4 (eUses (l ++ r.1)) (some 0), .v (.int .i64 0)] else .tu [.v (.slice none 0 0), .v (.int .i64 6)]
def UsesC (t : Tm) : Prop := ∀ (ar : List Ty) (p : List Int) (l : List Pn.Use), Ty.sizes ar + t.full ≤ 700000 → p.length + t.full ≤ 700000 → l.length + t.full ≤ 800000 → t.Fit →
  CallG Tryz.prog 130 [.sl 4 (eUses l) (some 0), .ag (eTm t), .sl 2 (eTys ar) none, .sl 1 (eIs p) none] [(.r 0, .rw 250 4 l.length)] [(.r 0, .rw 250 4 (l ++ (Pn.uses t ar p).1).length)] (usesV l (Pn.uses t ar p))
set_option maxHeartbeats 4000000 in
theorem uses_body (t : Tm) (ih : ∀ u ∈ t.args, UsesC u) (ar : List Ty) (p : List Int) (l : List Pn.Use) (h1 : Ty.sizes ar + t.full ≤ 700000) (h2 : p.length + t.full ≤ 700000) (h3 : l.length + t.full ≤ 800000) (hf : t.Fit) (c : Code) (hc : Tryz.f130.body = some c)
  (cx : Cx) (hnt : cx.nt = 71) (hn0 : cx.n0 ≤ 1) : DW Tryz.prog cx c (argsT 0 [.sl 4 (eUses l) (some 0), .ag (eTm t), .sl 2 (eTys ar) none, .sl 1 (eIs p) none] [(.r 0, .rw 250 4 l.length)]) 1 (RetOk TP3 [ResultVar.tmp 8, ResultVar.tmp 9] (usesV l (Pn.uses t ar p)) [(.r 0, .rw 250 4 (l ++ (Pn.uses t ar p).1).length)]) := by
 cases hc
 have hfl := pflex_d t
 have hfu := full_args t
 have hal := fulls_len t.args
 have hbl := Ty.le_sizes t.binds
 have har := Ty.le_sizes ar
 have hcat := concat_d [ar, t.binds] (by simp [lens]; omega) (by simp)
 simp only [List.flatten_cons, List.flatten_nil, List.append_nil] at hcat
 have hva := pvars_d t ((ar ++ t.binds).length : Nat) (by omega) hf
 have hue : Pn.uses t ar p = if t.kind = 2 then (match Pn.varsL ((ar ++ t.binds).length : Nat) t.args [] with | some v => ([⟨t.index, v, ar ++ t.binds, p⟩], true) | none => ([], false)) else Pn.usess t.args (ar ++ t.binds) p 0 := by obtain ⟨b, k, i, a⟩ := t; exact Pn.uses_eq ..
 have hs1 : (Ty.mk [] 0).size = 1 := by simp [Ty.size, Ty.sizes]
 have harr := arrow_d (.mk [] 0) (ar ++ t.binds) (by rw [Ty.sizes_append]; omega)
 have hclo := clone_d p (by omega)
 have hcli := clip_d p
 dsimp only [Ty.args, Ty.base] at harr
 rw [List.append_nil] at harr
 rw [eTm_eq] at hfl hva ⊢
 rw [eTy_eq, eTy_eq] at harr
 dsimp only [Ty.args, Ty.base, eTys] at harr
 refine dw_seq ?_; refine dwk [] TP3_ok hnt fun K hK => ?_; refine hK _ _ ?_; clear hK K; refine dw_seq ?_; refine dwk [(18, .sl 1 (eTyss [ar, t.binds]) none)] TP3_ok hnt fun K hK => ?_; refine And.intro (VLe.untag _ _ _) ?_; refine dcl (hcat) ?_; refine hK _ _ ?_; clear hK K
 by_cases hk : t.kind = 2
 ·rw [decide_eq_true hk] at hfl
  rw [if_pos hk] at hue; refine dw_seq ?_; refine dw_seq ?_; refine dwk [] TP3_ok hnt fun K hK => ?_; refine dcl (hfl) ?_; refine hK _ _ ?_; clear hK K; refine dw_cond (t := true) rfl ?_; rw [if_pos rfl]
  have hvv : Pn.vars t ((ar ++ t.binds).length : Nat) = match Pn.varsL ((ar ++ t.binds).length : Nat) t.args [] with | some l => (l, 0) | none => ([], 6) := by unfold Pn.vars; exact if_neg (by simp [hk]; omega)
  rw [hvv] at hva
  cases hvl : Pn.varsL ((ar ++ t.binds).length : Nat) t.args [] with
  | none =>
   rw [hvl] at hva hue
   rw [hue]
   refine dw_seq ?_; refine dwk [(25, .v (.int .i64 (↑(ar ++ t.binds).length)))] TP3_ok hnt fun K hK => ?_; refine And.intro (dintE (by rw [eTys_len])) ?_; refine dcl (hva) ?_; refine hK _ _ ?_; clear hK K; refine dw_seq ?_; refine dw_seq ?_; refine dwk [(30, .v (.bool true))] TP3_ok hnt fun K hK => ?_; refine And.intro auT ?_; refine hK _ _ ?_; clear hK K; refine dw_cond (t := true) rfl ?_; rw [if_pos rfl]
   refine dw_seq ?_; refine dwk [] TP3_ok hnt fun K hK => ?_; refine hK _ _ ?_; clear hK K; refine dw_ret ?_
   exact reta rfl ((by refine And.intro ?_ trivial; simp [get, Key.eq, argsT]))
  | some v =>
   rw [hvl] at hva hue
   rw [hue]
   have hvlen := Pn.varsL_len _ _ _ _ hvl
   refine dw_seq ?_; refine dwk [(25, .v (.int .i64 (↑(ar ++ t.binds).length)))] TP3_ok hnt fun K hK => ?_; refine And.intro (dintE (by rw [eTys_len])) ?_; refine dcl (hva) ?_; refine hK _ _ ?_; clear hK K; refine dw_seq ?_; refine dw_seq ?_; refine dwk [(30, .v (.bool false))] TP3_ok hnt fun K hK => ?_; refine And.intro auF ?_; refine hK _ _ ?_; clear hK K; refine dw_cond (t := false) rfl ?_; rw [if_neg (by simp)]
   refine dw_skip ?_; refine dw_seq ?_; refine dwkD [(37, .ag [.sl 2 [] none, .v (.int .i64 0)]), (45, .sl 4 (eUses (l ++ [⟨t.index, v, ar ++ t.binds, p⟩])) (some 0))] TP3_ok hnt fun K hK => ?_; refine And.intro (auV) ?_; refine dcl (harr) ?_; refine dcl (hclo) ?_; refine And.intro (⟨by rw [eUses_len], by rw [eUses_len]; simp; omega⟩) ?_; refine And.intro (VLe.of_eq (by rw [eUses_append]; rfl)) ?_; refine hK _ _ (by kernel_rfl) ?_; clear hK K
   refine dw_ret ?_
   exact reta rfl ((by refine And.intro ?_ trivial; simp [get, Key.eq, eUses_len]))
 ·rw [decide_eq_false hk] at hfl
  rw [if_neg hk] at hue; refine dw_seq ?_; refine dw_seq ?_; refine dwk [] TP3_ok hnt fun K hK => ?_; refine dcl (hfl) ?_; refine hK _ _ ?_; clear hK K; refine dw_cond (t := false) rfl ?_; rw [if_neg (by simp)]; refine dw_skip ?_; refine dw_seq ?_; refine dw_seq ?_; refine dwk [(48, .v (.int .i64 (↑t.args.length)))] TP3_ok hnt fun K hK => ?_; refine And.intro (dintE (by rw [eTms_len])) ?_; refine hK _ _ ?_; clear hK K
  refine dw_block ?_
  refine dw_loop (ι := { j : Nat // (Pn.usess (t.args.take j) (ar ++ t.binds) p 0).2 = true }) (fun j => [(.t 0, .sl 4 (eUses (l ++ (Pn.usess (t.args.take j.1) (ar ++ t.binds) p 0).1)) (some 0)), (.r 0, .rw 250 4 (l ++ (Pn.usess (t.args.take j.1) (ar ++ t.binds) p 0).1).length), (.t 2, .sl 2 (eTys (ar ++ t.binds)) none), (.t 3, .sl 1 (eIs p) none), (.t 47, .sl 4 (eTms t.args) none), (.t 48, .v (.int .i64 ↑t.args.length)), (.t 49, .v (.int .i64 ↑j.1))]) 1 (fun j => t.args.length - j.1) (⟨0, rfl⟩) ((by simp only [List.take_zero, Pn.usess, List.append_nil]; exact VS.toA)) fun j => ?_
  obtain ⟨j, hj⟩ := j
  dsimp only
  by_cases hlt : j < t.args.length
  ·have hst := Pn.usess_take (ar ++ t.binds) p t.args j hlt hj
   have hmem := List.getElem_mem hlt
   have hfm := full_mem hmem
   have hdl := Pn.usess_len (ar ++ t.binds) p (t.args.take j) 0 fun t _ p => Pn.uses_len t _ p
   have hft := Tm.fulls_take t.args j hlt
   have hfj := Tm.fulls_take_le t.args (j + 1)
   obtain ⟨done, hdone⟩ : ∃ d, (Pn.usess (t.args.take j) (ar ++ t.binds) p 0).1 = d := ⟨_, rfl⟩
   have hih := ih _ hmem (ar ++ t.binds) (p ++ [(j : Int)]) (l ++ done) (by rw [Ty.sizes_append]; omega) (by simp; omega) (by rw [← hdone]; simp; omega) (fit_args hf _ hmem)
   obtain ⟨p2, hp2⟩ : ∃ q, p ++ [(j : Int)] = q := ⟨_, rfl⟩
   rw [hp2] at hst hih
   rw [hdone] at hst ⊢
   obtain ⟨r, hr⟩ : ∃ r, Pn.uses t.args[j] (ar ++ t.binds) p2 = r := ⟨_, rfl⟩
   rw [hr] at hst hih
   obtain ⟨us, ok⟩ := r
   rw [eTm_eq] at hih
   unfold usesV at hih
   dsimp only at hst hih
   refine dw_seq ?_; refine dwk [(50, .v (.bool true))] TP3_ok hnt fun K hK => ?_; refine And.intro auT ?_; refine hK _ _ ?_; clear hK K; refine dw_seq ?_; refine dw_cond (t := true) rfl ?_; rw [if_pos rfl]; refine dw_skip ?_; refine dw_seq ?_; refine dw_block ?_; refine dw_seq ?_; refine dwk [(52, .q [.sl 2 (eTys t.args[j].binds) none, .v (.int .i64 t.args[j].kind), .v (.int .i64 t.args[j].index), .sl 4 (eTms t.args[j].args) none])] TP3_ok hnt fun K hK => ?_
   refine And.intro (elo (eTms_len t.args)) ?_; refine And.intro (elv (eTms_getD t.args j) (eTm_eq _)) ?_; refine hK _ _ ?_; clear hK K; refine dw_seq ?_; refine dwk [] TP3_ok hnt fun K hK => ?_; refine hK _ _ ?_; clear hK K
   cases ok with
   | true =>
    rw [if_pos rfl] at hih; refine dw_seq ?_; refine dwkD [(62, .sl 1 (eIs p2) none)] TP3_ok hnt fun K hK => ?_; refine dcl (hcli) ?_; refine And.intro (⟨Nat.one_pos, by rw [eIs_len]; simp; omega⟩) ?_; refine And.intro ((by rw [← hp2, eIs_append]; exact VLe.untag _ _ _)) ?_; refine dcn (CallG.n (hih) _) ?_; refine hK _ _ (by kernel_rfl) ?_; clear hK K; refine dw_seq ?_; refine dwk [(67, .v (.bool false))] TP3_ok hnt fun K hK => ?_
    refine And.intro auF ?_; refine hK _ _ ?_; clear hK K; refine dw_cond (t := false) rfl ?_; rw [if_neg (by simp)]; refine dw_skip ?_; refine dwk [(69, .v (.int .i64 (↑(j + 1))))] TP3_ok hnt fun K hK => ?_; refine And.intro auI ?_; refine hK _ _ ?_; clear hK K
    have hd2 : (Pn.usess (t.args.take (j + 1)) (ar ++ t.binds) p 0).1 = done ++ us := by rw [hst]
    have hd3 : l ++ done ++ us = l ++ (Pn.usess (t.args.take (j + 1)) (ar ++ t.binds) p 0).1 := by rw [hd2, List.append_assoc]
    rw [hd3]
    refine ⟨⟨j + 1, by rw [hst]⟩, by first | omega | (dsimp only; omega), VS.toA⟩
   | false =>
    rw [if_neg (by simp)] at hih
    have hwh := Pn.usess_stop (ar ++ t.binds) p t.args (j + 1) (by rw [hst])
    rw [hue, hwh, hst]
    refine dw_seq ?_; refine dwkD [(62, .sl 1 (eIs p2) none)] TP3_ok hnt fun K hK => ?_; refine dcl (hcli) ?_; refine And.intro (⟨Nat.one_pos, by rw [eIs_len]; simp; omega⟩) ?_; refine And.intro ((by rw [← hp2, eIs_append]; exact VLe.untag _ _ _)) ?_; refine dcn (CallG.n (hih) _) ?_; refine hK _ _ (by kernel_rfl) ?_; clear hK K; refine dw_seq ?_; refine dwk [(67, .v (.bool true))] TP3_ok hnt fun K hK => ?_
    refine And.intro auT ?_; refine hK _ _ ?_; clear hK K; refine dw_cond (t := true) rfl ?_; rw [if_pos rfl]; refine dw_seq ?_; refine dwk [] TP3_ok hnt fun K hK => ?_; refine hK _ _ ?_; clear hK K; refine dw_ret ?_
    exact reta rfl ((by refine And.intro ?_ trivial; simp [get, Key.eq, List.append_assoc]))
  ·rw [List.take_of_length_le (by omega)] at hj ⊢
   rw [hue]
   unfold usesV
   rw [if_pos hj]; refine dw_seq ?_; refine dwk [(50, .v (.bool false))] TP3_ok hnt fun K hK => ?_; refine And.intro auF ?_; refine hK _ _ ?_; clear hK K; refine dw_seq ?_; refine dw_cond (t := false) rfl ?_; rw [if_neg (by simp)]; refine dw_exit ?_; refine dw_seq ?_; refine dwk [] TP3_ok hnt fun K hK => ?_; refine hK _ _ ?_; clear hK K; refine dw_ret ?_
   exact reta rfl
theorem uses_g : ∀ t : Tm, UsesC t := by
  intro t
  induction t using Tm.ind with
  | h bs k i a ih =>
    intro ar p l h1 h2 h3 hf
    refine callG_of_dw 1 71 [ResultVar.tmp 8, ResultVar.tmp 9] TP3_ok (by kernel_rfl) Tryz.func130 rfl Tryz.ntmps130 rfl (by simp) ?_ fun cx hnt hn0 => uses_body (.mk bs k i a) (fun u hu => ih u hu) ar p l h1 h2 h3 hf _ rfl cx hnt (by omega)
    unfold usesV
    split <;> simp [wordsG, rowN, rowsR, gkey, Key.eq, D.ok, D.oks, D.okss, rnames, inN, eUses_ok, eTm_ok, eTys_ok, eIs_ok]
theorem uses_nil (t : Tm) (h1 : t.full ≤ 700000) (hf : t.Fit) : PureC Tryz.prog 130 [.v (.slice none 0 0), .ag (eTm t), .v (.slice none 0 0), .v (.slice none 0 0)] (.tu [.sl 4 (if (Pn.uses t [] []).2 then eUses (Pn.uses t [] []).1 else []) none, .v (.int .i64 (if (Pn.uses t [] []).2 then 0 else 6))]) := by
  refine CallC.vle (args := [.v (.slice none 0 0), .ag (eTm t), .sl 2 (eTys []) none, .sl 1 (eIs []) none]) ?_ (.cons (VLe.refl _) (.cons (VLe.refl _) (.cons (VLe.nil _) (.cons (VLe.nil _) .nil)))) (VLe.refl _)
  refine call_of_dw 0 71 [ResultVar.tmp 8, ResultVar.tmp 9] TP3_ok (by kernel_rfl) Tryz.func130 rfl Tryz.ntmps130 rfl (by simp) ?_ fun cx hnt hn0 => ?_
  · split <;> simp [wordsOk, D.ok, D.oks, D.okss, rnames, inN, ckey, eUses_ok, eTm_ok, eTys_ok, eIs_ok]
  · have hb := uses_body t (fun u _ => uses_g u) [] [] [] (by simp [Ty.sizes]; omega) (by simp; omega) (by simp; omega) hf _ rfl cx hnt (by omega)
    refine DW.vs (VS.trans (VS.rowT (x := 0) (by rw [hnt]; decide) 250 4 rfl) ?_) (DW.mono hb fun e σ N' h => ⟨h.1, ?_, nofun⟩)
    · exact (VS.toK (by omega) (by repeat first | exact trivial | refine And.intro (And.intro (by first | rfl | simp [D.ok, D.oks, D.okss, D.okm, upto, keyOk, eUses]) (by first | exact Or.inl rfl | exact Or.inr ⟨_, rfl, (by repeat first | exact VLe.refl _ | exact VLe.nil _ | exact VLe.untag _ _ _ | refine VLe.ag ?_ | refine VLe.tu ?_ | refine VLeL.cons ?_ ?_ | exact VLeL.nil), trivial⟩ | simp [get, Key.eq, eUses])) ?_))
    · obtain ⟨V', q1, q2⟩ := h.2.1
      refine ⟨V', q1, q2.trans ?_⟩
      unfold usesV
      split
      · exact VLe.tu (.cons (VLe.untag _ _ _) (.cons (VLe.refl _) .nil))
      · exact VLe.tu (.cons (VLe.nil _) (.cons (VLe.refl _) .nil))
theorem is_d (t : Tm) (h1 : t.full ≤ 700000) (hf : t.Fit) : PureC Tryz.prog 32 [.ag (eTm t)] (.v (.bool (Pn.uses t [] []).2)) := by
 have hu := uses_nil t h1 hf
 have hU : PureC Tryz.prog 91 [.ag (eTm t)] (.tu [.sl 4 (if (Pn.uses t [] []).2 then eUses (Pn.uses t [] []).1 else []) none, .v (.int .i64 (if (Pn.uses t [] []).2 then 0 else 6))]) := by
  rw [eTm_eq] at hu ⊢
  refine call_of_dw 0 8 [ResultVar.tmp 2, ResultVar.tmp 3] TP3_ok (by kernel_rfl) Tryz.func91 rfl Tryz.ntmps91 rfl (by simp) ?dwords ?dbody
  case dwords => simp [wordsOk, D.ok, D.oks, D.okss, rnames, inN, ckey, eUses_ok, eTms_ok, eTys_ok, apply_ite]
  case dbody =>
   intro cx hnt hn0
   refine dw_seq ?_; refine dwk [] TP3_ok hnt fun K hK => ?_; refine hK _ _ ?_; clear hK K; refine dw_seq ?_; refine dwk [] TP3_ok hnt fun K hK => ?_; refine dcl (hu) ?_; refine hK _ _ ?_; clear hK K; refine dw_ret ?_
   exact reta rfl
 rw [eTm_eq] at hU ⊢
 cases h : (Pn.uses t [] []).2 with
 | true =>
  rw [h] at hU
  refine calldw 0 12 [ResultVar.tmp 2] TP3_ok Tryz.func32 rfl Tryz.ntmps32 rfl fun cx hnt hn0 => ?_
  ·skip
   refine dw_seq ?_; refine dwk [] TP3_ok hnt fun K hK => ?_; refine hK _ _ ?_; clear hK K; refine dw_seq ?_; refine dwk [] TP3_ok hnt fun K hK => ?_; refine dcl (hU) ?_; refine hK _ _ ?_; clear hK K; refine dw_seq ?_; refine dwk [(11, .v (.bool true))] TP3_ok hnt fun K hK => ?_; refine And.intro auT ?_; refine hK _ _ ?_; clear hK K; refine dw_ret ?_
   exact reta rfl
 | false =>
  rw [h] at hU
  refine calldw 0 12 [ResultVar.tmp 2] TP3_ok Tryz.func32 rfl Tryz.ntmps32 rfl fun cx hnt hn0 => ?_
  ·skip
   refine dw_seq ?_; refine dwk [] TP3_ok hnt fun K hK => ?_; refine hK _ _ ?_; clear hK K; refine dw_seq ?_; refine dwk [] TP3_ok hnt fun K hK => ?_; refine dcl (hU) ?_; refine hK _ _ ?_; clear hK K; refine dw_seq ?_; refine dwk [(11, .v (.bool false))] TP3_ok hnt fun K hK => ?_; refine And.intro auF ?_; refine hK _ _ ?_; clear hK K; refine dw_ret ?_
   exact reta rfl
end Go.Proofs.YtflbnonbfmmchaaGreat

namespace Go.Proofs.YtflbnonbfmmchaaGreat
open Go.RowKit

section
variable {P : Program} {T : List (Nat × TI)} {cx : Cx} {Fr Fr' : Nat → Prop} {m m' : Mp} {Im Im' : Nat → Nat → Prop} {w w' : World} {a : Act} {σ σ' τ : List (Key × D)} {N N' : Nat} {Q : Exit → List (Key × D) → Nat → Prop}
end
end Go.Proofs.YtflbnonbfmmchaaGreat

namespace Go.Proofs.YtflbnonbfmmchaaGreat
open Go.RowKit
namespace So
variable {α : Type} {l l' r r' : List (Int × α)}
def Srt (l : List (Int × α)) : Prop := l.Pairwise fun a b => a.1 ≤ b.1
def ins (x : Int × α) : List (Int × α) → List (Int × α)
  | [] => [x]
  | y :: l => if y.1 ≤ x.1 then y :: ins x l else x :: y :: l
def ssr : List (Int × α) → List (Int × α)
  | [] => []
  | x :: l => ins x (ssr l)
def ss (l : List (Int × α)) : List (Int × α) := ssr l.reverse
inductive Ch (s : Nat) : List (Int × α) → Prop where
  | last (l : List (Int × α)) (h : l.length ≤ s) (hs : Srt l) : Ch s l
  | cons (c l : List (Int × α)) (hc : c.length = s) (hs : Srt c) (h : Ch s l) : Ch s (c ++ l)
inductive Fu (s : Nat) : List (Int × α) → Prop where
  | nil : Fu s []
  | cons (c l : List (Int × α)) (hc : c.length = s) (hs : Srt c) (h : Fu s l) : Fu s (c ++ l)
theorem Fu.ch {s : Nat} {P Q : List (Int × α)} (h : Fu s P) (hQ : Ch s Q) : Ch s (P ++ Q) := by
  induction h with
  | nil => exact hQ
  | cons d l hd hsd h ih => rw [List.append_assoc]; exact .cons d _ hd hsd ih
theorem Ch.more {s : Nat} {Q : List (Int × α)} (h : Ch s Q) (hl : s < Q.length) : ∃ c l, Q = c ++ l ∧ c.length = s ∧ Srt c ∧ Ch s l := by
  cases h with
  | last l h hs => omega
  | cons c l hc hs h => exact ⟨c, l, rfl, hc, hs, h⟩
theorem Ch.one {s : Nat} {Q : List (Int × α)} (h : Ch s Q) (hl : Q.length ≤ s) (hs : 0 < s) : Srt Q := by
  cases h with
  | last l h hs => exact hs
  | cons c l hc hsc h =>
    have : l = [] := List.length_eq_zero_iff.1 (by simp at hl; omega)
    subst this; simpa using hsc
end So
end Go.Proofs.YtflbnonbfmmchaaGreat

namespace Go.Proofs.YtflbnonbfmmchaaGreat
open Go.RowKit

namespace Pn
abbrev Spot := Tm × List Ty × List Int
mutual
def subs : Tm → List Ty → List Int → List Spot
  | .mk bs k i a, ar, p => (.mk bs k i a, ar ++ bs, p) :: subss a (ar ++ bs) p 0
def subss : List Tm → List Ty → List Int → Nat → List Spot
  | [], _, _, _ => []
  | t :: l, ar, p, j => subs t ar (p ++ [(j : Int)]) ++ subss l ar p (j + 1)
end
mutual
def rigB : Tm → Tm → Bool
  | .mk bs k i a, t => decide (bs = t.binds) && (decide (k = 2) || ((decide (k = t.kind) && decide (i = t.index)) && (decide (a.length = t.args.length) && rigBs a t.args)))
def rigBs : List Tm → List Tm → Bool
  | [], _ => true
  | p :: l, ts => rigB p (ts.headD Tm.zero) && rigBs l ts.tail
end
end Pn
end Go.Proofs.YtflbnonbfmmchaaGreat

namespace Go.Proofs.YtflbnonbfmmchaaGreat
open Go.RowKit
end Go.Proofs.YtflbnonbfmmchaaGreat

namespace Go.Proofs.YtflbnonbfmmchaaGreat
open Go.RowKit

namespace So
end So
end Go.Proofs.YtflbnonbfmmchaaGreat

namespace Go.Proofs.YtflbnonbfmmchaaGreat
open Go.RowKit

end Go.Proofs.YtflbnonbfmmchaaGreat

namespace Go.Proofs.YtflbnonbfmmchaaGreat
open Go.RowKit
namespace So
end So
end Go.Proofs.YtflbnonbfmmchaaGreat

namespace Go.Proofs.YtflbnonbfmmchaaGreat
open Go.RowKit
def TSL_51 : TI := ⟨1, false, [Value.slice none 0 0], [], some 79, 24, 5, none, false⟩
theorem TSL_51_ok : TypOk Tryz.prog 51 TSL_51 := by constructor <;> kernel_rfl
def TSL_79 : TI := ⟨5, true, [Value.int IntKind.i64 0, Value.slice none 0 0, Value.int IntKind.i64 0, Value.int IntKind.i64 0, Value.slice none 0 0], [(0, 1, false), (1, 4, true)], none, 72, 6, none, false⟩
theorem TSL_79_ok : TypOk Tryz.prog 79 TSL_79 := by constructor <;> kernel_rfl
def TSL_3 : TI := ⟨1, false, [Value.int IntKind.i64 0], [], none, 8, 2, none, false⟩
theorem TSL_3_ok : TypOk Tryz.prog 3 TSL_3 := by constructor <;> kernel_rfl
def TSL_59 : TI := ⟨1, false, [Value.slice none 0 0], [], some 3, 24, 5, none, false⟩
theorem TSL_59_ok : TypOk Tryz.prog 59 TSL_59 := by constructor <;> kernel_rfl
def TSL_41 : TI := ⟨4, true, [Value.slice none 0 0, Value.int IntKind.i64 0, Value.int IntKind.i64 0, Value.slice none 0 0], [(0, 1, false), (1, 2, true), (3, 1, false)], none, 64, 6, none, false⟩
theorem TSL_41_ok : TypOk Tryz.prog 41 TSL_41 := by constructor <;> kernel_rfl
def TSL_50 : TI := ⟨1, false, [Value.slice none 0 0], [], some 79, 24, 5, none, false⟩
theorem TSL_50_ok : TypOk Tryz.prog 50 TSL_50 := by constructor <;> kernel_rfl
def TSL_163 : TI := ⟨1, false, [Value.nilFunc], [], none, 8, 8, none, false⟩
theorem TSL_163_ok : TypOk Tryz.prog 163 TSL_163 := by constructor <;> kernel_rfl
def TSL_204 : TI := ⟨1, false, [Value.nilFunc], [], none, 8, 8, none, false⟩
theorem TSL_204_ok : TypOk Tryz.prog 204 TSL_204 := by constructor <;> kernel_rfl
def TSL_174 : TI := ⟨1, false, [Value.pointer none], [], none, 8, 4, none, false⟩
theorem TSL_174_ok : TypOk Tryz.prog 174 TSL_174 := by constructor <;> kernel_rfl
def TSL : List (Nat × TI) := [(51, TSL_51), (79, TSL_79), (3, TSL_3), (59, TSL_59), (41, TSL_41), (50, TSL_50), (163, TSL_163), (204, TSL_204), (174, TSL_174)]
theorem TSL_ok : TabOk Tryz.prog TSL := ((((((((((TabOk.nil _).cons TSL_174_ok).cons TSL_204_ok).cons TSL_163_ok).cons TSL_50_ok).cons TSL_41_ok).cons TSL_59_ok).cons TSL_3_ok).cons TSL_79_ok).cons TSL_51_ok)

namespace So
def ixB {α : Type} (f : α → Bool) : List α → Nat → Int
  | [], _ => -1
  | x :: l, k => if f x then k else ixB f l (k + 1)
variable {α : Type} {f : α → Bool} {l : List α} {j : Nat}
theorem ixB_miss (h : j < l.length) (hf : f l[j] = false) : ixB f (l.drop j) j = ixB f (l.drop (j + 1)) (j + 1) := by rw [List.drop_eq_getElem_cons h, ixB, if_neg (by simp [hf])]
theorem ixB_hit (h : j < l.length) (hf : f l[j] = true) : ixB f (l.drop j) j = j := by rw [List.drop_eq_getElem_cons h, ixB, if_pos hf]
theorem ixB_end (h : l.length ≤ j) : ixB f (l.drop j) j = -1 := by rw [List.drop_of_length_le h]; rfl
theorem ixB_ge : ∀ (l : List α) (k : Nat), 0 ≤ ixB f l k ↔ l.any f = true
  | [], k => by simp [ixB]
  | x :: l, k => by
    rw [ixB, List.any_cons]
    by_cases h : f x = true
    · simp [h]
    · simp only [h, if_false, Bool.false_or]
      exact ixB_ge l (k + 1)
end So
theorem index_d (v : Int) (l : List Int) (hl : l.length ≤ 1000000) : PureC Tryz.prog 125 [.sl 1 (eIs l) none, .v (.int .i64 v)] (.v (.int .i64 (So.ixB (fun x => decide (x = v)) l 0))) := by
 obtain ⟨f, hf⟩ : ∃ f : Int → Bool, f = fun x => decide (x = v) := ⟨_, rfl⟩
 rw [← hf]
 refine calldw 0 19 [ResultVar.tmp 4] TSL_ok Tryz.func125 rfl Tryz.ntmps125 rfl fun cx hnt hn0 => ?_
 ·skip
  refine dw_seq ?_; refine dwk [] TSL_ok hnt fun K hK => ?_; refine hK _ _ ?_; clear hK K; refine dw_seq ?_; refine dw_seq ?_; refine dwk [(7, .v (.int .i64 (↑l.length)))] TSL_ok hnt fun K hK => ?_; refine And.intro (dintE (by rw [eIs_len])) ?_; refine hK _ _ ?_; clear hK K; refine dw_block ?_
  refine dw_loop (ι := { j : Nat // So.ixB f l 0 = So.ixB f (l.drop j) j }) (fun j => [(.t 0, .sl 1 (eIs l) none), (.t 1, .v (.int .i64 v)), (.t 7, .v (.int .i64 ↑l.length)), (.t 8, .v (.int .i64 ↑j.1))]) 0 (fun j => l.length - j.1) (⟨0, rfl⟩) ((VS.toK (by omega) (by repeat first | exact trivial | refine And.intro (And.intro (by first | rfl | simp [D.ok, D.oks, D.okss, D.okm, upto, keyOk, argsT]) (by first | exact Or.inl rfl | exact Or.inr ⟨_, rfl, (by repeat first | exact VLe.refl _ | exact VLe.nil _ | exact VLe.untag _ _ _ | refine VLe.ag ?_ | refine VLe.tu ?_ | refine VLeL.cons ?_ ?_ | exact VLeL.nil), trivial⟩ | simp [get, Key.eq, argsT])) ?_))) fun j => ?_
  obtain ⟨j, hj⟩ := j
  dsimp only
  rw [hj]
  by_cases hlt : j < l.length
  ·by_cases hv : l[j] = v
   ·rw [So.ixB_hit hlt (by rw [hf]; simpa using hv)]
    refine dw_seq ?_; refine dwk [(9, .v (.bool true))] TSL_ok hnt fun K hK => ?_; refine And.intro auT ?_; refine hK _ _ ?_; clear hK K; refine dw_seq ?_; refine dw_cond (t := true) rfl ?_; rw [if_pos rfl]; refine dw_skip ?_; refine dw_seq ?_; refine dw_block ?_; refine dw_seq ?_; refine dwk [] TSL_ok hnt fun K hK => ?_; refine hK _ _ ?_; clear hK K; refine dw_seq ?_; refine dwk [(14, .q [.v (.int .i64 (l[j]))]), (16, .v (.bool true))] TSL_ok hnt fun K hK => ?_
    refine And.intro (elo (eIs_len l)) ?_; refine And.intro (elv (eIs_getD l j) rfl) ?_; refine And.intro (beqT hv.symm) ?_; refine hK _ _ ?_; clear hK K; refine dw_cond (t := true) rfl ?_; rw [if_pos rfl]; refine dw_seq ?_; refine dwk [] TSL_ok hnt fun K hK => ?_; refine hK _ _ ?_; clear hK K; refine dw_ret ?_
    exact reta rfl
   ·have hm := So.ixB_miss hlt (f := f) (by rw [hf]; simpa using hv)
    refine dw_seq ?_; refine dwk [(9, .v (.bool true))] TSL_ok hnt fun K hK => ?_; refine And.intro auT ?_; refine hK _ _ ?_; clear hK K; refine dw_seq ?_; refine dw_cond (t := true) rfl ?_; rw [if_pos rfl]; refine dw_skip ?_; refine dw_seq ?_; refine dw_block ?_; refine dw_seq ?_; refine dwk [] TSL_ok hnt fun K hK => ?_; refine hK _ _ ?_; clear hK K; refine dw_seq ?_; refine dwk [(14, .q [.v (.int .i64 (l[j]))]), (16, .v (.bool false))] TSL_ok hnt fun K hK => ?_
    refine And.intro (elo (eIs_len l)) ?_; refine And.intro (elv (eIs_getD l j) rfl) ?_; refine And.intro (beqF (fun h => hv h.symm)) ?_; refine hK _ _ ?_; clear hK K; refine dw_cond (t := false) rfl ?_; rw [if_neg (by simp)]; refine dw_skip ?_; refine dwk [(18, .v (.int .i64 (↑(j + 1))))] TSL_ok hnt fun K hK => ?_; refine And.intro auI ?_; refine hK _ _ ?_; clear hK K
    rw [hm]
    refine ⟨⟨j + 1, rfl⟩, by first | omega | (dsimp only; omega), VS.toA⟩
  ·rw [So.ixB_end (by omega)]
   refine dw_seq ?_; refine dwk [(9, .v (.bool false))] TSL_ok hnt fun K hK => ?_; refine And.intro auF ?_; refine hK _ _ ?_; clear hK K; refine dw_seq ?_; refine dw_cond (t := false) rfl ?_; rw [if_neg (by simp)]; refine dw_exit ?_; refine dw_seq ?_; refine dwk [] TSL_ok hnt fun K hK => ?_; refine hK _ _ ?_; clear hK K; refine dw_ret ?_
   exact reta rfl
theorem contains_d (v : Int) (l : List Int) (hl : l.length ≤ 1000000) : PureC Tryz.prog 87 [.sl 1 (eIs l) none, .v (.int .i64 v)] (.v (.bool (l.any fun x => decide (x = v)))) := by
 have hi := index_d v l hl
 have hg := So.ixB_ge (f := fun x => decide (x = v)) l 0
 refine calldw 0 9 [ResultVar.tmp 4] TSL_ok Tryz.func87 rfl Tryz.ntmps87 rfl fun cx hnt hn0 => ?_
 ·skip
  refine dw_seq ?_; refine dwk [] TSL_ok hnt fun K hK => ?_; refine hK _ _ ?_; clear hK K; refine dw_seq ?_; refine dwk [(8, .v (.bool (l.any fun x => decide (x = v))))] TSL_ok hnt fun K hK => ?_; refine dcl (hi) ?_; refine And.intro (VLe.of_eq (by congr 2; rw [Bool.eq_iff_iff]; simpa using hg)) ?_; refine hK _ _ ?_; clear hK K; refine dw_ret ?_
  exact reta rfl
def del (m : List Int) (p : Int × Tm) : Bool := m.any fun x => decide (x = p.1)
def kept (m : List Int) (l : List (Int × Tm)) : List (Int × Tm) := l.filter fun p => !del m p
end Go.Proofs.YtflbnonbfmmchaaGreat

namespace Go.Proofs.YtflbnonbfmmchaaGreat
open Go.RowKit
def TRP_22 : TI := ⟨1, false, [Value.slice none 0 0], [], some 103, 24, 5, none, false⟩
theorem TRP_22_ok : TypOk Tryz.prog 22 TRP_22 := by constructor <;> kernel_rfl
def TRP_103 : TI := ⟨2, true, [Value.slice none 0 0, Value.int IntKind.i64 0], [(0, 1, false), (1, 1, false)], none, 32, 6, none, false⟩
theorem TRP_103_ok : TypOk Tryz.prog 103 TRP_103 := by constructor <;> kernel_rfl
def TRP : List (Nat × TI) := [(22, TRP_22), (103, TRP_103)]
theorem TRP_ok : TabOk Tryz.prog TRP := (((TabOk.nil _).cons TRP_103_ok).cons TRP_22_ok)

namespace Pn
mutual
def pth : Tm → List Int → List (List Int)
  | .mk _ _ _ a, p => p :: pths a p 0
def pths : List Tm → List Int → Nat → List (List Int)
  | [], _, _ => []
  | t :: l, p, j => pth t (p ++ [(j : Int)]) ++ pths l p (j + 1)
end
end Pn
def ePaths (l : List (List Int)) : List (List D) := l.map fun p => [.sl 1 (eIs p) none]
@[simp] theorem ePaths_ok (f g : Nat → Bool) (l : List (List Int)) : D.okss f g (ePaths l) = true := D.okss_map _ l fun l _ => by simp [D.oks, D.ok, eIs_ok]
theorem rbehind_d (l r : List Ty) (h : l.length + r.length ≤ 900000) : PureC Tryz.prog 48 [.sl 2 (eTys l) none, .sl 2 (eTys r) none] (.sl 2 (eTys (l ++ r)) none) := by
 rw [eTys_append]
 have e1 := eTys_len l
 have e2 := eTys_len r
 refine call_of_dw 0 12 [ResultVar.tmp 4] TRP_ok (by kernel_rfl) Tryz.func48 rfl Tryz.ntmps48 rfl (by simp) ?dwords ?dbody
 case dwords => simp [wordsOk, D.ok, D.oks, D.okss, rnames, inN, ckey, eTys_ok, ← eTys_append]
 case dbody =>
  intro cx hnt hn0
  refine dw_seq ?_; refine dwk [] TRP_ok hnt fun K hK => ?_; refine hK _ _ ?_; clear hK K; refine dw_seq ?_; refine dwk [] TRP_ok hnt fun K hK => ?_; refine hK _ _ ?_; clear hK K; refine dw_seq ?_; refine dwk [] TRP_ok hnt fun K hK => ?_; refine And.intro (by omega) ?_; refine hK _ _ ?_; clear hK K; refine dw_seq ?_; refine dwk [] TRP_ok hnt fun K hK => ?_; refine And.intro (⟨rfl, by omega⟩) ?_; refine hK _ _ ?_; clear hK K
  refine dw_ret ?_
  exact reta rfl
end Go.Proofs.YtflbnonbfmmchaaGreat

namespace Go.Proofs.YtflbnonbfmmchaaGreat
open Go.RowKit
def TF4_3 : TI := ⟨1, false, [Value.int IntKind.i64 0], [], none, 8, 2, none, false⟩
theorem TF4_3_ok : TypOk Tryz.prog 3 TF4_3 := by constructor <;> kernel_rfl
def TF4_103 : TI := ⟨2, true, [Value.slice none 0 0, Value.int IntKind.i64 0], [(0, 1, false), (1, 1, false)], none, 32, 6, none, false⟩
theorem TF4_103_ok : TypOk Tryz.prog 103 TF4_103 := by constructor <;> kernel_rfl
def TF4_22 : TI := ⟨1, false, [Value.slice none 0 0], [], some 103, 24, 5, none, false⟩
theorem TF4_22_ok : TypOk Tryz.prog 22 TF4_22 := by constructor <;> kernel_rfl
def TF4 : List (Nat × TI) := [(3, TF4_3), (103, TF4_103), (22, TF4_22)]
theorem TF4_ok : TabOk Tryz.prog TF4 := ((((TabOk.nil _).cons TF4_22_ok).cons TF4_103_ok).cons TF4_3_ok)

mutual
def fewT (most : Int) : Ty → Int → Int
  | .mk a _, d => if d ≤ 0 then most + 1 else fewTs most a (d - 1) 1
def fewTs (most : Int) : List Ty → Int → Int → Int
  | [], _, n => n
  | t :: l, d, n => if n ≤ most then fewTs most l d (n + fewT most t d) else n
end
theorem fewTs_le {most : Int} (hm : 0 ≤ most) {B : Int} (hB : 0 ≤ B) : ∀ (l : List Ty) (d n : Int), (∀ t ∈ l, 1 ≤ fewT most t d ∧ fewT most t d ≤ B) → 1 ≤ n → n ≤ most + B → 1 ≤ fewTs most l d n ∧ fewTs most l d n ≤ most + B
  | [], d, n, _, h0, h1 => by rw [fewTs]; exact ⟨h0, h1⟩
  | t :: l, d, n, h, h0, h1 => by
    rw [fewTs]
    split
    · have := h t (by simp)
      exact fewTs_le hm hB l d _ (fun u hu => h u (by simp [hu])) (by omega) (by omega)
    · exact ⟨h0, h1⟩
theorem fewT_le {most : Int} (hm : 1 ≤ most) : ∀ (k : Nat) (t : Ty) (d : Int), d ≤ k → 1 ≤ fewT most t d ∧ fewT most t d ≤ most * k + most + 1
  | 0, .mk a b, d, hd => by
    rw [fewT, if_pos (by omega)]
    have e : most * ((0 : Nat) : Int) = 0 := Int.mul_zero _
    rw [e]; omega
  | k + 1, .mk a b, d, hd => by
    rw [fewT]
    have e : most * ((k + 1 : Nat) : Int) = most * (k : Int) + most := by rw [Int.natCast_add, Int.mul_add]; simp
    have h0 : 0 ≤ most * (k : Int) := Int.mul_nonneg (by omega) (by omega)
    split
    · rw [e]; omega
    · have := fewTs_le (most := most) (by omega) (B := most * k + most + 1) (by omega) a (d - 1) 1 (fun t _ => fewT_le hm k t (d - 1) (by omega)) (by omega) (by omega)
      rw [e]; omega
set_option maxHeartbeats 1000000 in
theorem few4_d (most : Int) (h1 : 1 ≤ most) (h2 : most ≤ 1000) : ∀ (t : Ty) (d : Int), -1000 ≤ d → d ≤ 1000 → PureC Tryz.prog 106 [.ag (eTy t), .v (.int .i64 most), .v (.int .i64 d)] (.v (.int .i64 (fewT most t d))) := by
 intro t
 induction t using Ty.ind with
 | h a b ih =>
 intro d hd1 hd2
 refine call_of_dw 0 37 [ResultVar.tmp 6] TF4_ok (by kernel_rfl) Tryz.func106 rfl Tryz.ntmps106 rfl (by simp) ?dwords ?dbody
 case dwords => simp [wordsOk, D.ok, D.oks, rnames, eTy_ok]
 case dbody =>
  intro cx hnt hn0
  refine dw_seq ?_; refine dwk [] TF4_ok hnt fun K hK => ?_; refine hK _ _ ?_; clear hK K; refine dw_seq (dw_seq ?_)
  by_cases hd : d ≤ 0
  ·have hf : fewT most (.mk a b) d = most + 1 := by rw [fewT, if_pos hd]
   rw [hf]
   refine dwk [(10, .v (.bool true))] TF4_ok hnt fun K hK => ?_; refine And.intro (dtrue hd) ?_; refine hK _ _ ?_; clear hK K; refine dw_cond (t := true) rfl ?_; rw [if_pos rfl]; refine dw_seq ?_; refine dwk [(12, .v (.int .i64 (most + 1)))] TF4_ok hnt fun K hK => ?_; refine And.intro (dintE (IntWalk.i64_in _ (by omega))) ?_; refine hK _ _ ?_; clear hK K; refine dw_ret ?_
   exact retv (N := 0) (.inr rfl) rfl (VLe.refl _) trivial
  ·have hf : fewT most (.mk a b) d = fewTs most a (d - 1) 1 := by rw [fewT, if_neg hd]
   rw [hf]
   refine dwk [(10, .v (.bool false))] TF4_ok hnt fun K hK => ?_; refine And.intro (dfalse hd) ?_; refine hK _ _ ?_; clear hK K; refine dw_cond (t := false) rfl ?_; rw [if_neg (by simp)]; refine dw_skip ?_; refine dw_seq ?_; refine dwk [] TF4_ok hnt fun K hK => ?_; refine hK _ _ ?_; clear hK K; refine dw_seq (dw_seq ?_); refine dwk [] TF4_ok hnt fun K hK => ?_; refine hK _ _ ?_; clear hK K; refine dw_block ?_
   refine dw_loop (ι := { p : Nat × Int // fewTs most (a.drop p.1) (d - 1) p.2 = fewTs most a (d - 1) 1 ∧ (p.1 : Int) + 1 ≤ p.2 ∧ p.2 ≤ 2000000 ∧ p.1 ≤ a.length }) (fun p => [(.t 1, .v (.int .i64 most)), (.t 2, .v (.int .i64 d)), (.t 3, .p 0 0), (.t 7, .v (.int .i64 p.1.2)), (.t 8, .v (.int .i64 (p.1.1 : Int))), (.c 0 0, .sl 2 (eTys a) none), (.c 0 1, .v (.int .i64 b))]) 1 (fun p => a.length - p.1.1) ⟨(0, 1), by simp, by simp, by simp, by simp⟩ VS.toA fun p => ?_
   obtain ⟨⟨j, n⟩, hj1, hj2, hj3, hj4⟩ := p
   dsimp only at hj1 hj2 hj3 hj4 ⊢
   refine dw_seq (dw_seq ?_)
   by_cases hlt : j < a.length
   ·have hdr : a.drop j = a[j] :: a.drop (j + 1) := List.drop_eq_getElem_cons hlt
    rw [hdr, fewTs] at hj1
    by_cases hn : n ≤ most
    ·rw [if_pos hn] at hj1
     have hih := ih a[j] (List.getElem_mem hlt) (d - 1) (by omega) (by omega)
     rw [eTy_eq] at hih
     have hbd := fewT_le h1 1000 a[j] (d - 1) (by omega)
     have hbd2 : most * ((1000 : Nat) : Int) ≤ 1000000 := by
      have : most * ((1000 : Nat) : Int) = 1000 * most := by rw [Int.mul_comm]; rfl
      omega
     refine dwk [(17, .v (.bool true)), (21, .v (.bool true))] TF4_ok hnt fun K hK => ?_; refine And.intro (dtrue (by rw [eTys_len]; omega)) ?_; refine And.intro (dtrue hn) ?_; refine hK _ _ ?_; clear hK K; refine dw_cond (t := true) rfl ?_; rw [if_pos rfl]; refine dw_skip ?_; refine dw_seq (dw_block ?_); refine dwk [(29, .q [.sl 2 (eTys a[j].args) none, .v (.int .i64 a[j].base)]), (33, .v (.int .i64 (d - 1))), (35, .v (.int .i64 (n + fewT most a[j] (d - 1))))] TF4_ok hnt fun K hK => ?_
     refine And.intro (⟨by omega, by rw [eTys_len]; omega⟩) ?_; refine And.intro (VLe.of_eq (by rw [Int.toNat_natCast, eTys_getD a j hlt, eTy_eq])) ?_; refine And.intro (dintE (IntWalk.i64_in _ (by omega))) ?_; refine dcl (hih) ?_; refine And.intro (dintE (IntWalk.i64_in _ (by omega))) ?_; refine hK _ _ ?_; clear hK K; refine dwk [(24, .v (.int .i64 ((j + 1 : Nat) : Int)))] TF4_ok hnt fun K hK => ?_; refine And.intro (dintE (by rw [IntWalk.i64_in _ (by omega)]; omega)) ?_
     refine hK _ _ ?_; clear hK K
     exact ⟨⟨(j + 1, n + fewT most a[j] (d - 1)), hj1, by dsimp only; omega, by dsimp only; omega, hlt⟩, by dsimp only; omega, VS.toA⟩
    ·rw [if_neg hn] at hj1
     rw [← hj1]
     refine dwk [(17, .v (.bool true)), (21, .v (.bool false))] TF4_ok hnt fun K hK => ?_; refine And.intro (dtrue (by rw [eTys_len]; omega)) ?_; refine And.intro (dfalse hn) ?_; refine hK _ _ ?_; clear hK K; refine dw_cond (t := false) rfl ?_; rw [if_neg (by simp)]; refine dw_exit ?_; refine dw_seq ?_; refine dwk [] TF4_ok hnt fun K hK => ?_; refine hK _ _ ?_; clear hK K; refine dw_ret ?_
     exact retv (N := 0) (.inr rfl) rfl (VLe.refl _) trivial
   ·rw [List.drop_eq_nil_of_le (by omega), fewTs] at hj1
    rw [← hj1]
    refine dwk [(17, .v (.bool false))] TF4_ok hnt fun K hK => ?_; refine And.intro (dfalse (by rw [eTys_len]; omega)) ?_; refine hK _ _ ?_; clear hK K; refine dw_cond (t := false) rfl ?_; rw [if_neg (by simp)]; refine dw_exit ?_; refine dw_seq ?_; refine dwk [] TF4_ok hnt fun K hK => ?_; refine hK _ _ ?_; clear hK K; refine dw_ret ?_
    exact retv (N := 0) (.inr rfl) rfl (VLe.refl _) trivial
theorem fewTs_size {most : Int} : ∀ (l : List Ty) (d n : Int), (∀ t ∈ l, fewT most t d ≤ most → (t.size : Int) = fewT most t d) → (∀ t ∈ l, 1 ≤ fewT most t d) → 1 ≤ n → fewTs most l d n ≤ most → fewTs most l d n = n + Ty.sizes l
  | [], d, n, _, _, _, _ => by rw [fewTs]; simp [Ty.sizes]
  | t :: l, d, n, h, h1, hn, hf => by
    rw [fewTs] at hf ⊢
    split at hf
    · rename_i hm
      rw [if_pos hm]
      have h2 := h1 t (by simp)
      have h3 := fewTs_size l d _ (fun u hu => h u (by simp [hu])) (fun u hu => h1 u (by simp [hu])) (by omega) hf
      have h4 : fewT most t d ≤ most := by omega
      have h5 := h t (by simp) h4
      rw [h3, Ty.sizes]; omega
    · rename_i hm; omega
theorem fewT_size {most : Int} (hm : 1 ≤ most) : ∀ (k : Nat) (t : Ty) (d : Int), d ≤ k → fewT most t d ≤ most → (t.size : Int) = fewT most t d
  | 0, .mk a b, d, hd, h => by rw [fewT, if_pos (by omega)] at h; omega
  | k + 1, .mk a b, d, hd, h => by
    rw [fewT] at h ⊢
    split at h
    · omega
    · rename_i hp
      rw [if_neg hp]
      have := fewTs_size a (d - 1) 1 (fun t _ => fewT_size hm k t (d - 1) (by omega)) (fun t _ => (fewT_le hm k t (d - 1) (by omega)).1) (by omega) h
      rw [this, Ty.size_eq]; omega
theorem Few4_d (most : Int) (h1 : 1 ≤ most) (h2 : most ≤ 1000) (t : Ty) (d : Int) (h3 : -1000 ≤ d) (h4 : d ≤ 1000) : PureC Tryz.prog 49 [.ag (eTy t), .v (.int .i64 most), .v (.int .i64 d)] (.v (.bool (decide (fewT most t d ≤ most)))) := by
 have h := few4_d most h1 h2 t d h3 h4
 rw [eTy_eq] at h ⊢
 refine call_of_dw 0 13 [ResultVar.tmp 6] TF4_ok (by kernel_rfl) Tryz.func49 rfl Tryz.ntmps49 rfl (by simp) ?dwords ?dbody
 case dwords => simp [wordsOk, D.ok, D.oks, rnames, eTys_ok]
 case dbody =>
  intro cx hnt hn0
  refine dw_seq ?_; refine dwk [] TF4_ok hnt fun K hK => ?_; refine hK _ _ ?_; clear hK K; refine dw_seq ?_; refine dwk [] TF4_ok hnt fun K hK => ?_; refine dcl (h) ?_; refine hK _ _ ?_; clear hK K; refine dw_ret ?_
  exact retv (N := 0) (.inr rfl) rfl (VLe.refl _) trivial
set_option maxHeartbeats 1000000 in
theorem Size4_d : ∀ (t : Ty) (_ : t.size ≤ 1000000), PureC Tryz.prog 105 [.ag (eTy t)] (.v (.int .i64 (t.size : Int))) := by
 intro t
 induction t using Ty.ind with
 | h a b ih =>
 intro hsz
 have hsz2 := Ty.size_eq a b
 refine call_of_dw 0 21 [ResultVar.tmp 2] TF4_ok (by kernel_rfl) Tryz.func105 rfl Tryz.ntmps105 rfl (by simp) ?dwords ?dbody
 case dwords => simp [wordsOk, D.ok, D.oks, rnames, eTy_ok]
 case dbody =>
  intro cx hnt hn0
  refine dw_seq ?_; refine dwk [] TF4_ok hnt fun K hK => ?_; refine hK _ _ ?_; clear hK K; refine dw_seq ?_; refine dwk [] TF4_ok hnt fun K hK => ?_; refine hK _ _ ?_; clear hK K; refine dw_seq (dw_seq ?_); refine dwk [] TF4_ok hnt fun K hK => ?_; refine hK _ _ ?_; clear hK K; refine dw_block ?_
  refine dw_loop (ι := { j : Nat // j ≤ a.length }) (fun j => [(.t 1, .p 0 0), (.t 3, .v (.int .i64 ((Ty.sizes (a.take j.1) : Int) + 1))), (.t 4, .v (.int .i64 (j.1 : Int))), (.c 0 0, .sl 2 (eTys a) none), (.c 0 1, .v (.int .i64 b))]) 1 (fun j => a.length - j.1) ⟨0, Nat.zero_le _⟩ VS.toA fun j => ?_
  obtain ⟨j, hj⟩ := j
  dsimp only
  have hst := Ty.sizes_take_le a j
  have hst2 := Ty.sizes_take_le a (j + 1)
  have hla := Ty.le_sizes a
  refine dw_seq (dw_seq ?_)
  by_cases hlt : j < a.length
  ·have hih := ih a[j] (List.getElem_mem hlt) (by have := Ty.size_get (b := b) j hlt; omega)
   rw [eTy_eq] at hih
   have htk := Ty.sizes_take a j hlt
   refine dwk [(9, .v (.bool true))] TF4_ok hnt fun K hK => ?_; refine And.intro (dtrue (by rw [eTys_len]; omega)) ?_; refine hK _ _ ?_; clear hK K; refine dw_cond (t := true) rfl ?_; rw [if_pos rfl]; refine dw_skip ?_; refine dw_seq (dw_block ?_); refine dwk [(16, .q [.sl 2 (eTys a[j].args) none, .v (.int .i64 a[j].base)]), (19, .v (.int .i64 ((Ty.sizes (a.take (j + 1)) : Int) + 1)))] TF4_ok hnt fun K hK => ?_
   refine And.intro (⟨by omega, by rw [eTys_len]; omega⟩) ?_; refine And.intro (VLe.of_eq (by rw [Int.toNat_natCast, eTys_getD a j hlt, eTy_eq])) ?_; refine dcl (hih) ?_; refine And.intro (dintE (by rw [IntWalk.i64_in _ (by omega), htk]; omega)) ?_; refine hK _ _ ?_; clear hK K; refine dwk [(11, .v (.int .i64 ((j + 1 : Nat) : Int)))] TF4_ok hnt fun K hK => ?_; refine And.intro (dintE (by rw [IntWalk.i64_in _ (by omega)]; omega)) ?_
   refine hK _ _ ?_; clear hK K
   exact ⟨⟨j + 1, hlt⟩, by dsimp only; omega, VS.toA⟩
  ·skip
   refine dwk [(9, .v (.bool false))] TF4_ok hnt fun K hK => ?_; refine And.intro (dfalse (by rw [eTys_len]; omega)) ?_; refine hK _ _ ?_; clear hK K; refine dw_cond (t := false) rfl ?_; rw [if_neg (by simp)]; refine dw_exit ?_; refine dw_seq ?_
   have hsz3 : ((Ty.mk a b).size : Int) = (Ty.sizes (a.take j) : Int) + 1 := by rw [List.take_of_length_le (by omega), hsz2]; omega
   rw [hsz3]
   refine dwk [] TF4_ok hnt fun K hK => ?_; refine hK _ _ ?_; clear hK K; refine dw_ret ?_
   exact retv (N := 0) (.inr rfl) rfl (VLe.refl _) trivial
end Go.Proofs.YtflbnonbfmmchaaGreat

namespace Go.Proofs.YtflbnonbfmmchaaGreat
open Go.RowKit
def TF6_3 : TI := ⟨1, false, [Value.int IntKind.i64 0], [], none, 8, 2, none, false⟩
theorem TF6_3_ok : TypOk Tryz.prog 3 TF6_3 := by constructor <;> kernel_rfl
def TF6_29 : TI := ⟨4, true, [Value.slice none 0 0, Value.int IntKind.i64 0, Value.int IntKind.i64 0, Value.slice none 0 0], [(0, 1, false), (1, 2, true), (3, 1, false)], none, 64, 6, none, false⟩
theorem TF6_29_ok : TypOk Tryz.prog 29 TF6_29 := by constructor <;> kernel_rfl
def TF6_22 : TI := ⟨1, false, [Value.slice none 0 0], [], some 103, 24, 5, none, false⟩
theorem TF6_22_ok : TypOk Tryz.prog 22 TF6_22 := by constructor <;> kernel_rfl
def TF6_27 : TI := ⟨1, false, [Value.slice none 0 0], [], some 29, 24, 5, none, false⟩
theorem TF6_27_ok : TypOk Tryz.prog 27 TF6_27 := by constructor <;> kernel_rfl
def TF6_103 : TI := ⟨2, true, [Value.slice none 0 0, Value.int IntKind.i64 0], [(0, 1, false), (1, 1, false)], none, 32, 6, none, false⟩
theorem TF6_103_ok : TypOk Tryz.prog 103 TF6_103 := by constructor <;> kernel_rfl
def TF6 : List (Nat × TI) := [(3, TF6_3), (29, TF6_29), (22, TF6_22), (27, TF6_27), (103, TF6_103)]
theorem TF6_ok : TabOk Tryz.prog TF6 := ((((((TabOk.nil _).cons TF6_103_ok).cons TF6_27_ok).cons TF6_22_ok).cons TF6_29_ok).cons TF6_3_ok)

def fewB1 (most d : Int) : List Ty → Int → Option Int
  | [], n => some n
  | t :: l, n => if n ≤ most then (if fewT most t d ≤ most then fewB1 most d l (n + t.size) else none) else some n
mutual
def fewM (most : Int) : Tm → Int → Int
  | .mk bs _ _ a, d => if d ≤ 0 then most + 1 else match fewB1 most d bs 1 with
    | none => most + 1
    | some n => fewMs most a (d - 1) n
def fewMs (most : Int) : List Tm → Int → Int → Int
  | [], _, n => n
  | t :: l, d, n => if n ≤ most then fewMs most l d (n + fewM most t d) else n
end
theorem fewB1_le {most d : Int} (hm : 1 ≤ most) (hd : d ≤ 1000) : ∀ (l : List Ty) (n : Int), 1 ≤ n → n ≤ 2 * most → ∀ r, fewB1 most d l n = some r → 1 ≤ r ∧ r ≤ 2 * most
  | [], n, h0, h1, r, h => by rw [fewB1] at h; cases h; exact ⟨h0, h1⟩
  | t :: l, n, h0, h1, r, h => by
    rw [fewB1] at h
    split at h
    · split at h
      · rename_i h2
        have := fewT_size hm 1000 t d hd h2
        have := (fewT_le hm 1000 t d hd).1
        exact fewB1_le hm hd l _ (by omega) (by omega) r h
      · cases h
    · cases h; exact ⟨h0, h1⟩
theorem fewMs_le {most : Int} (hm : 1 ≤ most) {B : Int} (hB : most ≤ B) : ∀ (l : List Tm) (d n : Int), (∀ t ∈ l, 1 ≤ fewM most t d ∧ fewM most t d ≤ B) → 1 ≤ n → n ≤ most + B → 1 ≤ fewMs most l d n ∧ fewMs most l d n ≤ most + B
  | [], d, n, _, h0, h1 => by rw [fewMs]; exact ⟨h0, h1⟩
  | t :: l, d, n, h, h0, h1 => by
    rw [fewMs]
    split
    · have := h t (by simp)
      exact fewMs_le hm hB l d _ (fun u hu => h u (by simp [hu])) (by omega) (by omega)
    · exact ⟨h0, h1⟩
theorem fewM_le {most : Int} (hm : 1 ≤ most) : ∀ (k : Nat) (t : Tm) (d : Int), k ≤ 1000 → d ≤ k → 1 ≤ fewM most t d ∧ fewM most t d ≤ most * k + most + 1
  | 0, .mk bs kd i a, d, hk, hd => by
    rw [fewM, if_pos (by omega)]
    have e : most * ((0 : Nat) : Int) = 0 := Int.mul_zero _
    rw [e]; omega
  | k + 1, .mk bs kd i a, d, hk, hd => by
    rw [fewM]
    have e : most * ((k + 1 : Nat) : Int) = most * (k : Int) + most := by rw [Int.natCast_add, Int.mul_add]; simp
    have h0 : 0 ≤ most * (k : Int) := Int.mul_nonneg (by omega) (by omega)
    rw [e]
    split
    · omega
    · cases hb : fewB1 most d bs 1 with
      | none => dsimp only; omega
      | some n =>
        have hn := fewB1_le hm (by omega) bs 1 (by omega) (by omega) n hb
        have := fewMs_le hm (B := most * k + most + 1) (by omega) a (d - 1) n (fun t _ => fewM_le hm k t (d - 1) (by omega) (by omega)) hn.1 (by omega)
        dsimp only
        omega
set_option maxHeartbeats 4000000 in
theorem few6_d (most : Int) (h1 : 1 ≤ most) (h2 : most ≤ 1000) : ∀ (t : Tm) (d : Int), -1000 ≤ d → d ≤ 1000 → PureC Tryz.prog 47 [.ag (eTm t), .v (.int .i64 most), .v (.int .i64 d)] (.v (.int .i64 (fewM most t d))) := by
 intro t
 induction t using Tm.ind with
 | h bs k i a ih =>
 intro d hd1 hd2
 obtain ⟨V, hV⟩ : ∃ V, fewM most (.mk bs k i a) d = V := ⟨_, rfl⟩
 rw [hV]
 rw [fewM] at hV
 refine call_of_dw 0 69 [ResultVar.tmp 6] TF6_ok (by kernel_rfl) Tryz.func47 rfl Tryz.ntmps47 rfl (by simp) ?dwords ?dbody
 case dwords => simp [wordsOk, D.ok, D.oks, rnames, eTm_ok]
 case dbody =>
  intro cx hnt hn0
  refine dw_seq ?_; refine dwk [] TF6_ok hnt fun K hK => ?_; refine hK _ _ ?_; clear hK K; refine dw_seq (dw_seq ?_)
  by_cases hd : d ≤ 0
  ·rw [if_pos hd] at hV
   subst hV
   refine dwk [(11, .v (.bool true))] TF6_ok hnt fun K hK => ?_; refine And.intro (dtrue hd) ?_; refine hK _ _ ?_; clear hK K; refine dw_cond (t := true) rfl ?_; rw [if_pos rfl]; refine dw_seq ?_; refine dwk [(13, .v (.int .i64 (most + 1)))] TF6_ok hnt fun K hK => ?_; refine And.intro (dintE (IntWalk.i64_in _ (by omega))) ?_; refine hK _ _ ?_; clear hK K; refine dw_ret ?_
   exact retv (N := 0) (.inr rfl) rfl (VLe.refl _) trivial
  ·rw [if_neg hd] at hV; refine dwk [(11, .v (.bool false))] TF6_ok hnt fun K hK => ?_; refine And.intro (dfalse hd) ?_; refine hK _ _ ?_; clear hK K; refine dw_cond (t := false) rfl ?_; rw [if_neg (by simp)]; refine dw_skip ?_; refine dw_seq ?_; refine dwk [] TF6_ok hnt fun K hK => ?_; refine hK _ _ ?_; clear hK K
   refine dw_cutE (ι := { n : Int // 1 ≤ n ∧ n ≤ 2 * most ∧ V = fewMs most a (d - 1) n }) (fun n => [(.t 1, .v (.int .i64 most)), (.t 2, .v (.int .i64 d)), (.t 3, .p 0 0), (.t 7, .v (.int .i64 n.1)), (.c 0 0, .sl 2 (eTys bs) none), (.c 0 1, .v (.int .i64 k)), (.c 0 2, .v (.int .i64 i)), (.c 0 3, .sl 4 (eTms a) none)]) 1 ?_ fun n => ?_
   ·refine dw_seq ?_; refine dwk [] TF6_ok hnt fun K hK => ?_; refine hK _ _ ?_; clear hK K; refine dw_block ?_
    refine dw_loop (ι := { p : Nat × Int // fewB1 most d (bs.drop p.1) p.2 = fewB1 most d bs 1 ∧ (p.1 : Int) + 1 ≤ p.2 ∧ p.2 ≤ 2 * most ∧ p.1 ≤ bs.length }) (fun p => [(.t 1, .v (.int .i64 most)), (.t 2, .v (.int .i64 d)), (.t 3, .p 0 0), (.t 7, .v (.int .i64 p.1.2)), (.t 8, .v (.int .i64 (p.1.1 : Int))), (.c 0 0, .sl 2 (eTys bs) none), (.c 0 1, .v (.int .i64 k)), (.c 0 2, .v (.int .i64 i)), (.c 0 3, .sl 4 (eTms a) none)]) 1 (fun p => bs.length - p.1.1) ⟨(0, 1), by simp, by simp, by dsimp only; omega, by simp⟩ VS.toA fun p => ?_
    obtain ⟨⟨j, n⟩, hj1, hj2, hj3, hj4⟩ := p
    dsimp only at hj1 hj2 hj3 hj4 ⊢
    refine dw_seq (dw_seq ?_)
    by_cases hlt : j < bs.length
    ·have hdr : bs.drop j = bs[j] :: bs.drop (j + 1) := List.drop_eq_getElem_cons hlt
     rw [hdr, fewB1] at hj1
     by_cases hn : n ≤ most
     ·rw [if_pos hn] at hj1
      have hF := Few4_d most h1 h2 bs[j] d hd1 hd2
      rw [eTy_eq] at hF
      have hq : (eTys bs).getD (j : Int).toNat [] = [.sl 2 (eTys bs[j].args) none, .v (.int .i64 bs[j].base)] := by rw [Int.toNat_natCast, eTys_getD bs j hlt, eTy_eq]
      have hb : (0 : Int) ≤ (j : Int) ∧ (j : Int) < ((eTys bs).length : Int) := ⟨by omega, by rw [eTys_len]; omega⟩
      refine dwk [(18, .v (.bool true)), (22, .v (.bool true))] TF6_ok hnt fun K hK => ?_; refine And.intro (dtrue (by rw [eTys_len]; omega)) ?_; refine And.intro (dtrue hn) ?_; refine hK _ _ ?_; clear hK K; refine dw_cond (t := true) rfl ?_; rw [if_pos rfl]; refine dw_skip ?_; refine dw_seq (dw_block ?_); refine dw_seq (dw_seq ?_)
      by_cases hff : fewT most bs[j] d ≤ most
      ·rw [if_pos hff] at hj1
       rw [decide_eq_true hff] at hF
       have hs1 := fewT_size h1 1000 bs[j] d (by omega) hff
       have hs2 := (fewT_le h1 1000 bs[j] d (by omega)).1
       have hS := Size4_d bs[j] (by omega)
       rw [eTy_eq] at hS
       refine dwk [(29, .q [.sl 2 (eTys bs[j].args) none, .v (.int .i64 bs[j].base)])] TF6_ok hnt fun K hK => ?_; refine And.intro (hb) ?_; refine And.intro (VLe.of_eq (by rw [hq])) ?_; refine dcl (hF) ?_; refine hK _ _ ?_; clear hK K; refine dw_cond (t := false) rfl ?_; rw [if_neg (by simp)]; refine dw_skip ?_; refine dwk [(41, .q [.sl 2 (eTys bs[j].args) none, .v (.int .i64 bs[j].base)]), (44, .v (.int .i64 (n + (bs[j].size : Int))))] TF6_ok hnt fun K hK => ?_
       refine And.intro (hb) ?_; refine And.intro (VLe.of_eq (by rw [hq])) ?_; refine dcl (hS) ?_; refine And.intro (dintE (IntWalk.i64_in _ (by omega))) ?_; refine hK _ _ ?_; clear hK K; refine dwk [(25, .v (.int .i64 ((j + 1 : Nat) : Int)))] TF6_ok hnt fun K hK => ?_; refine And.intro (dintE (by rw [IntWalk.i64_in _ (by omega)]; omega)) ?_; refine hK _ _ ?_; clear hK K
       exact ⟨⟨(j + 1, n + (bs[j].size : Int)), hj1, by dsimp only; omega, by dsimp only; omega, hlt⟩, by dsimp only; omega, VS.toA⟩
      ·rw [if_neg hff] at hj1
       rw [decide_eq_false hff] at hF
       rw [← hj1] at hV
       dsimp only at hV
       subst hV
       refine dwk [(29, .q [.sl 2 (eTys bs[j].args) none, .v (.int .i64 bs[j].base)])] TF6_ok hnt fun K hK => ?_; refine And.intro (hb) ?_; refine And.intro (VLe.of_eq (by rw [hq])) ?_; refine dcl (hF) ?_; refine hK _ _ ?_; clear hK K; refine dw_cond (t := true) rfl ?_; rw [if_pos rfl]; refine dw_seq ?_; refine dwk [(36, .v (.int .i64 (most + 1)))] TF6_ok hnt fun K hK => ?_; refine And.intro (dintE (IntWalk.i64_in _ (by omega))) ?_
       refine hK _ _ ?_; clear hK K; refine dw_ret ?_
       exact retv (N := 0) (.inr rfl) rfl (VLe.refl _) trivial
     ·rw [if_neg hn] at hj1
      rw [← hj1] at hV
      dsimp only at hV
      refine dwk [(18, .v (.bool true)), (22, .v (.bool false))] TF6_ok hnt fun K hK => ?_; refine And.intro (dtrue (by rw [eTys_len]; omega)) ?_; refine And.intro (dfalse hn) ?_; refine hK _ _ ?_; clear hK K; refine dw_cond (t := false) rfl ?_; rw [if_neg (by simp)]; refine dw_exit ?_
      exact cutE_ok (Q := RetOk TF6 [ResultVar.tmp 6] (.v (.int .i64 V)) []) ⟨n, by omega, hj3, hV.symm⟩ VS.toA
    ·rw [List.drop_eq_nil_of_le (by omega), fewB1] at hj1
     rw [← hj1] at hV
     dsimp only at hV
     refine dwk [(18, .v (.bool false))] TF6_ok hnt fun K hK => ?_; refine And.intro (dfalse (by rw [eTys_len]; omega)) ?_; refine hK _ _ ?_; clear hK K; refine dw_cond (t := false) rfl ?_; rw [if_neg (by simp)]; refine dw_exit ?_
     exact cutE_ok (Q := RetOk TF6 [ResultVar.tmp 6] (.v (.int .i64 V)) []) ⟨n, by omega, hj3, hV.symm⟩ VS.toA
   ·obtain ⟨n0, hn1, hn2, hVn⟩ := n
    dsimp only
    rw [hVn]
    refine dw_seq (dw_seq ?_); refine dwk [] TF6_ok hnt fun K hK => ?_; refine hK _ _ ?_; clear hK K; refine dw_block ?_
    refine dw_loop (ι := { p : Nat × Int // fewMs most (a.drop p.1) (d - 1) p.2 = fewMs most a (d - 1) n0 ∧ (p.1 : Int) + 1 ≤ p.2 ∧ p.2 ≤ 2000000 ∧ p.1 ≤ a.length }) (fun p => [(.t 1, .v (.int .i64 most)), (.t 2, .v (.int .i64 d)), (.t 3, .p 0 0), (.t 7, .v (.int .i64 p.1.2)), (.t 9, .v (.int .i64 (p.1.1 : Int))), (.c 0 0, .sl 2 (eTys bs) none), (.c 0 1, .v (.int .i64 k)), (.c 0 2, .v (.int .i64 i)), (.c 0 3, .sl 4 (eTms a) none)]) 1 (fun p => a.length - p.1.1) ⟨(0, n0), by simp, by dsimp only; omega, by dsimp only; omega, by simp⟩ VS.toA fun p => ?_
    obtain ⟨⟨j, n⟩, hj1, hj2, hj3, hj4⟩ := p
    dsimp only at hj1 hj2 hj3 hj4 ⊢
    refine dw_seq (dw_seq ?_)
    by_cases hlt : j < a.length
    ·have hdr : a.drop j = a[j] :: a.drop (j + 1) := List.drop_eq_getElem_cons hlt
     rw [hdr, fewMs] at hj1
     by_cases hn : n ≤ most
     ·rw [if_pos hn] at hj1
      have hih := ih a[j] (List.getElem_mem hlt) (d - 1) (by omega) (by omega)
      rw [eTm_eq] at hih
      have hbd := fewM_le h1 1000 a[j] (d - 1) (by omega) (by omega)
      have hbd2 : most * ((1000 : Nat) : Int) ≤ 1000000 := by
       have : most * ((1000 : Nat) : Int) = 1000 * most := by rw [Int.mul_comm]; rfl
       omega
      refine dwk [(49, .v (.bool true)), (53, .v (.bool true))] TF6_ok hnt fun K hK => ?_; refine And.intro (dtrue (by rw [eTms_len]; omega)) ?_; refine And.intro (dtrue hn) ?_; refine hK _ _ ?_; clear hK K; refine dw_cond (t := true) rfl ?_; rw [if_pos rfl]; refine dw_skip ?_; refine dw_seq (dw_block ?_); refine dwk [(61, .q [.sl 2 (eTys a[j].binds) none, .v (.int .i64 a[j].kind), .v (.int .i64 a[j].index), .sl 4 (eTms a[j].args) none]), (65, .v (.int .i64 (d - 1))), (67, .v (.int .i64 (n + fewM most a[j] (d - 1))))] TF6_ok hnt fun K hK => ?_
      refine And.intro (⟨by omega, by rw [eTms_len]; omega⟩) ?_; refine And.intro (VLe.of_eq (by rw [Int.toNat_natCast, eTms_getD a j hlt, eTm_eq])) ?_; refine And.intro (dintE (IntWalk.i64_in _ (by omega))) ?_; refine dcl (hih) ?_; refine And.intro (dintE (IntWalk.i64_in _ (by omega))) ?_; refine hK _ _ ?_; clear hK K; refine dwk [(56, .v (.int .i64 ((j + 1 : Nat) : Int)))] TF6_ok hnt fun K hK => ?_; refine And.intro (dintE (by rw [IntWalk.i64_in _ (by omega)]; omega)) ?_
      refine hK _ _ ?_; clear hK K
      exact ⟨⟨(j + 1, n + fewM most a[j] (d - 1)), hj1, by dsimp only; omega, by dsimp only; omega, hlt⟩, by dsimp only; omega, VS.toA⟩
     ·rw [if_neg hn] at hj1
      rw [← hj1]
      refine dwk [(49, .v (.bool true)), (53, .v (.bool false))] TF6_ok hnt fun K hK => ?_; refine And.intro (dtrue (by rw [eTms_len]; omega)) ?_; refine And.intro (dfalse hn) ?_; refine hK _ _ ?_; clear hK K; refine dw_cond (t := false) rfl ?_; rw [if_neg (by simp)]; refine dw_exit ?_; refine dw_seq ?_; refine dwk [] TF6_ok hnt fun K hK => ?_; refine hK _ _ ?_; clear hK K; refine dw_ret ?_
      exact retv (N := 0) (.inr rfl) rfl (VLe.refl _) trivial
    ·rw [List.drop_eq_nil_of_le (by omega), fewMs] at hj1
     rw [← hj1]
     refine dwk [(49, .v (.bool false))] TF6_ok hnt fun K hK => ?_; refine And.intro (dfalse (by rw [eTms_len]; omega)) ?_; refine hK _ _ ?_; clear hK K; refine dw_cond (t := false) rfl ?_; rw [if_neg (by simp)]; refine dw_exit ?_; refine dw_seq ?_; refine dwk [] TF6_ok hnt fun K hK => ?_; refine hK _ _ ?_; clear hK K; refine dw_ret ?_
     exact retv (N := 0) (.inr rfl) rfl (VLe.refl _) trivial
theorem Few6_d (most : Int) (h1 : 1 ≤ most) (h2 : most ≤ 1000) (t : Tm) (d : Int) (h3 : -1000 ≤ d) (h4 : d ≤ 1000) : PureC Tryz.prog 8 [.ag (eTm t), .v (.int .i64 most), .v (.int .i64 d)] (.v (.bool (decide (fewM most t d ≤ most)))) := by
 have h := few6_d most h1 h2 t d h3 h4
 rw [eTm_eq] at h ⊢
 refine call_of_dw 0 13 [ResultVar.tmp 6] TF6_ok (by kernel_rfl) Tryz.func8 rfl Tryz.ntmps8 rfl (by simp) ?dwords ?dbody
 case dwords => simp [wordsOk, D.ok, D.oks, rnames, eTys_ok, eTms_ok]
 case dbody =>
  intro cx hnt hn0
  refine dw_seq ?_; refine dwk [] TF6_ok hnt fun K hK => ?_; refine hK _ _ ?_; clear hK K; refine dw_seq ?_; refine dwk [] TF6_ok hnt fun K hK => ?_; refine dcl (h) ?_; refine hK _ _ ?_; clear hK K; refine dw_ret ?_
  exact retv (N := 0) (.inr rfl) rfl (VLe.refl _) trivial
def fewB (t : Tm) : Bool := decide (fewM 150 t 70 ≤ 150)
set_option maxHeartbeats 1000000 in
theorem lawFew_d (l : List Tm) (hl : l.length ≤ 1000000) : PureC Tryz.prog 77 [.sl 4 (eTms l) none] (.v (.bool (l.all fewB))) := by
 refine call_of_dw 0 16 [ResultVar.tmp 2] TF6_ok (by kernel_rfl) Tryz.func77 rfl Tryz.ntmps77 rfl (by simp) ?dwords ?dbody
 case dwords => simp [wordsOk, D.ok, D.oks, rnames, eTms_ok]
 case dbody =>
  intro cx hnt hn0
  refine dw_seq ?_; refine dwk [] TF6_ok hnt fun K hK => ?_; refine hK _ _ ?_; clear hK K; refine dw_seq (dw_seq ?_); refine dwk [] TF6_ok hnt fun K hK => ?_; refine hK _ _ ?_; clear hK K; refine dw_block ?_
  refine dw_loop (ι := { j : Nat // ∀ i (h : i < l.length), i < j → fewB l[i] = true }) (fun j => [(.t 0, .sl 4 (eTms l) none), (.t 3, .v (.int .i64 (j.1 : Int)))]) 1 (fun j => l.length - j.1) ⟨0, fun i h1 h2 => by omega⟩ VS.toA fun j => ?_
  obtain ⟨j, hj⟩ := j
  dsimp only
  refine dw_seq (dw_seq ?_)
  by_cases hlt : j < l.length
  ·have hi := Few6_d 150 (by decide) (by decide) l[j] 70 (by decide) (by decide)
   rw [eTm_eq] at hi
   have hq : (eTms l).getD (j : Int).toNat [] = [.sl 2 (eTys l[j].binds) none, .v (.int .i64 l[j].kind), .v (.int .i64 l[j].index), .sl 4 (eTms l[j].args) none] := by rw [Int.toNat_natCast, eTms_getD l j hlt, eTm_eq]
   have hb : (0 : Int) ≤ (j : Int) ∧ (j : Int) < ((eTms l).length : Int) := ⟨by omega, by rw [eTms_len]; omega⟩
   refine dwk [(7, .v (.bool true))] TF6_ok hnt fun K hK => ?_; refine And.intro (dtrue (by rw [eTms_len]; omega)) ?_; refine hK _ _ ?_; clear hK K; refine dw_cond (t := true) rfl ?_; rw [if_pos rfl]; refine dw_skip ?_; refine dw_seq (dw_block (dw_seq ?_))
   cases hf : fewB l[j] with
   | true =>
    have hf2 := hf
    unfold fewB at hf2
    rw [hf2] at hi
    refine dwk [(12, .q [.sl 2 (eTys l[j].binds) none, .v (.int .i64 l[j].kind), .v (.int .i64 l[j].index), .sl 4 (eTms l[j].args) none])] TF6_ok hnt fun K hK => ?_; refine And.intro (hb) ?_; refine And.intro (VLe.of_eq (by rw [hq])) ?_; refine dcl (hi) ?_; refine hK _ _ ?_; clear hK K; refine dw_cond (t := false) rfl ?_; rw [if_neg (by simp)]; refine dw_skip ?_; refine dwk [(9, .v (.int .i64 ((j + 1 : Nat) : Int)))] TF6_ok hnt fun K hK => ?_
    refine And.intro (dintE (by rw [IntWalk.i64_in _ (by omega)]; omega)) ?_; refine hK _ _ ?_; clear hK K
    refine ⟨⟨j + 1, fun i h1 h2 => ?_⟩, by dsimp only; omega, VS.toA⟩
    by_cases he : i = j
    ·subst he; exact hf
    ·exact hj i h1 (by omega)
   | false =>
    have hf2 := hf
    unfold fewB at hf2
    rw [hf2] at hi
    have ha : l.all fewB = false := by rw [List.all_eq_false]; exact ⟨l[j], List.getElem_mem hlt, by rw [hf]; simp⟩
    rw [ha]
    refine dwk [(12, .q [.sl 2 (eTys l[j].binds) none, .v (.int .i64 l[j].kind), .v (.int .i64 l[j].index), .sl 4 (eTms l[j].args) none])] TF6_ok hnt fun K hK => ?_; refine And.intro (hb) ?_; refine And.intro (VLe.of_eq (by rw [hq])) ?_; refine dcl (hi) ?_; refine hK _ _ ?_; clear hK K; refine dw_cond (t := true) rfl ?_; rw [if_pos rfl]; refine dw_seq ?_; refine dwk [] TF6_ok hnt fun K hK => ?_; refine hK _ _ ?_; clear hK K
    refine dw_ret ?_
    exact retv (N := 0) (.inr rfl) rfl (VLe.refl _) trivial
  ·have ha : l.all fewB = true := by
    rw [List.all_eq_true]
    intro t ht
    obtain ⟨i, hi, rfl⟩ := List.getElem_of_mem ht
    exact hj i hi (by omega)
   rw [ha]
   refine dwk [(7, .v (.bool false))] TF6_ok hnt fun K hK => ?_; refine And.intro (dfalse (by rw [eTms_len]; omega)) ?_; refine hK _ _ ?_; clear hK K; refine dw_cond (t := false) rfl ?_; rw [if_neg (by simp)]; refine dw_exit ?_; refine dw_seq ?_; refine dwk [] TF6_ok hnt fun K hK => ?_; refine hK _ _ ?_; clear hK K; refine dw_ret ?_
   exact retv (N := 0) (.inr rfl) rfl (VLe.refl _) trivial
end Go.Proofs.YtflbnonbfmmchaaGreat

namespace Go.Proofs.YtflbnonbfmmchaaGreat
open Go.RowKit

theorem fewB1_full {most d : Int} (hm : 1 ≤ most) (hd : d ≤ 1000) : ∀ (l : List Ty) (n r : Int), fewB1 most d l n = some r → r ≤ most → r = n + Ty.sizes l
  | [], n, r, h, _ => by rw [fewB1] at h; cases h; simp [Ty.sizes]
  | t :: l, n, r, h, hr => by
    rw [fewB1] at h
    split at h
    · split at h
      · have := fewB1_full hm hd l _ r h hr
        rw [this, Ty.sizes]; omega
      · cases h
    · cases h; omega
theorem fewMs_full {most : Int} : ∀ (l : List Tm) (d n : Int), (∀ t ∈ l, fewM most t d ≤ most → (t.full : Int) = fewM most t d ∧ (t.depth : Int) ≤ d) → (∀ t ∈ l, 1 ≤ fewM most t d) → 1 ≤ n → fewMs most l d n ≤ most → fewMs most l d n = n + Tm.fulls l ∧ (∀ t ∈ l, (t.depth : Int) ≤ d) ∧ n ≤ most
  | [], d, n, _, _, _, h => by rw [fewMs] at h ⊢; exact ⟨by simp [Tm.fulls], nofun, h⟩
  | t :: l, d, n, h, h1, hn, hf => by
    rw [fewMs] at hf ⊢
    split at hf
    · rename_i hm
      rw [if_pos hm]
      have h2 := h1 t (by simp)
      obtain ⟨h3, h4, h5⟩ := fewMs_full l d _ (fun u hu => h u (by simp [hu])) (fun u hu => h1 u (by simp [hu])) (by omega) hf
      obtain ⟨h6, h7⟩ := h t (by simp) (by omega)
      refine ⟨by rw [h3, Tm.fulls]; omega, fun u hu => ?_, hm⟩
      rcases List.mem_cons.1 hu with rfl | hu
      · exact h7
      · exact h4 u hu
    · rename_i hm; omega
theorem depths_max {d : Int} (hd : 0 ≤ d) : ∀ (l : List Tm), (∀ t ∈ l, (t.depth : Int) ≤ d) → (Tm.depths l : Int) ≤ d
  | [], _ => by simp [Tm.depths]; exact hd
  | t :: l, h => by
    have h1 := h t (by simp)
    have h2 := depths_max hd l fun u hu => h u (by simp [hu])
    simp only [Tm.depths]; omega
theorem fewM_full {most : Int} (hm : 1 ≤ most) : ∀ (k : Nat) (t : Tm) (d : Int), k ≤ 1000 → d ≤ k → fewM most t d ≤ most → (t.full : Int) = fewM most t d ∧ (t.depth : Int) ≤ d
  | 0, .mk bs kd i a, d, hk, hd, h => by rw [fewM, if_pos (by omega)] at h; omega
  | k + 1, .mk bs kd i a, d, hk, hd, h => by
    rw [fewM] at h ⊢
    split at h
    · omega
    · rename_i hp
      rw [if_neg hp]
      cases hb : fewB1 most d bs 1 with
      | none => rw [hb] at h; dsimp only at h; omega
      | some n =>
        rw [hb] at h
        dsimp only at h ⊢
        have hn := fewB1_le hm (by omega) bs 1 (by omega) (by omega) n hb
        obtain ⟨h3, h4, h5⟩ := fewMs_full a (d - 1) n (fun t _ => fewM_full hm k t (d - 1) (by omega) (by omega)) (fun t _ => (fewM_le hm k t (d - 1) (by omega) (by omega)).1) hn.1 h
        have h6 := fewB1_full hm (by omega) bs 1 n hb h5
        have h7 := depths_max (by omega) a h4
        rw [Tm.full_eq, Tm.depth_eq]
        constructor
        · omega
        · omega
theorem fewB_full {t : Tm} (h : fewB t = true) : t.full ≤ 150 ∧ t.depth ≤ 70 := by
  unfold fewB at h
  rw [decide_eq_true_eq] at h
  obtain ⟨h1, h2⟩ := fewM_full (by decide) 1000 t 70 (by decide) (by decide) h
  omega
end Go.Proofs.YtflbnonbfmmchaaGreat

namespace Go.Proofs.YtflbnonbfmmchaaGreat
open Go.RowKit
def TS9_22 : TI := ⟨1, false, [Value.slice none 0 0], [], some 103, 24, 5, none, false⟩
theorem TS9_22_ok : TypOk Tryz.prog 22 TS9_22 := by constructor <;> kernel_rfl
def TS9_3 : TI := ⟨1, false, [Value.int IntKind.i64 0], [], none, 8, 2, none, false⟩
theorem TS9_3_ok : TypOk Tryz.prog 3 TS9_3 := by constructor <;> kernel_rfl
def TS9_24 : TI := ⟨3, true, [Value.int IntKind.i64 0, Value.slice none 0 0, Value.slice none 0 0], [(0, 1, false), (1, 1, false), (2, 1, false)], none, 56, 6, none, false⟩
theorem TS9_24_ok : TypOk Tryz.prog 24 TS9_24 := by constructor <;> kernel_rfl
def TS9_103 : TI := ⟨2, true, [Value.slice none 0 0, Value.int IntKind.i64 0], [(0, 1, false), (1, 1, false)], none, 32, 6, none, false⟩
theorem TS9_103_ok : TypOk Tryz.prog 103 TS9_103 := by constructor <;> kernel_rfl
def TS9 : List (Nat × TI) := [(22, TS9_22), (3, TS9_3), (24, TS9_24), (103, TS9_103)]
theorem TS9_ok : TabOk Tryz.prog TS9 := (((((TabOk.nil _).cons TS9_103_ok).cons TS9_24_ok).cons TS9_3_ok).cons TS9_22_ok)
def few4B (t : Ty) : Bool := decide (fewT 60 t 60 ≤ 60)
theorem fewT60 {t : Ty} (h : few4B t = true) : t.size ≤ 60 := by
  unfold few4B at h
  rw [decide_eq_true_eq] at h
  have := fewT_size (by decide) 1000 t 60 (by decide) h
  omega
set_option maxHeartbeats 1000000 in
theorem small_d (b : Int) (C M X : List Ty) (h1 : C.length ≤ 20) (h2 : M.length ≤ 20) (h3 : X.length ≤ 20) : PureC Tryz.prog 9 [.ag [.v (.int .i64 b), .sl 2 (eTys C) none, .sl 2 (eTys M) none], .sl 2 (eTys X) none] (.v (.bool (((C ++ M) ++ X).all few4B))) := by
 have hB := rbehind_d C M (by omega)
 have hB2 := rbehind_d (C ++ M) X (by simp; omega)
 obtain ⟨l, hl⟩ : ∃ l, (C ++ M) ++ X = l := ⟨_, rfl⟩
 rw [hl] at hB2 ⊢
 have hll : l.length ≤ 60 := by rw [← hl]; simp; omega
 refine call_of_dw 0 41 [ResultVar.tmp 4] TS9_ok (by kernel_rfl) Tryz.func9 rfl Tryz.ntmps9 rfl (by simp) ?dwords ?dbody
 case dwords => simp [wordsOk, D.ok, D.oks, rnames, eTys_ok]
 case dbody =>
  intro cx hnt hn0
  refine dw_seq ?_; refine dwk [] TS9_ok hnt fun K hK => ?_; refine hK _ _ ?_; clear hK K; refine dw_seq (dw_seq ?_); refine dwk [(10, .v (.bool false)), (15, .v (.bool false)), (20, .v (.bool false))] TS9_ok hnt fun K hK => ?_; refine And.intro (dfalse (by rw [eTys_len]; omega)) ?_; refine And.intro (dfalse (by rw [eTys_len]; omega)) ?_; refine And.intro (dfalse (by rw [eTys_len]; omega)) ?_; refine hK _ _ ?_; clear hK K
  refine dw_cond (t := false) rfl ?_; rw [if_neg (by simp)]; refine dw_skip ?_; refine dw_seq ?_; refine dwk [] TS9_ok hnt fun K hK => ?_; refine dcl (hB) ?_; refine dcl (hB2) ?_; refine hK _ _ ?_; clear hK K; refine dw_seq (dw_seq ?_); refine dwk [] TS9_ok hnt fun K hK => ?_; refine hK _ _ ?_; clear hK K; refine dw_block ?_
  refine dw_loop (ι := { j : Nat // ∀ i (h : i < l.length), i < j → few4B l[i] = true }) (fun j => [(.t 5, .sl 2 (eTys l) none), (.t 6, .v (.int .i64 (j.1 : Int)))]) 1 (fun j => l.length - j.1) ⟨0, fun i h1 h2 => by omega⟩ VS.toA fun j => ?_
  obtain ⟨j, hj⟩ := j
  dsimp only
  refine dw_seq (dw_seq ?_)
  by_cases hlt : j < l.length
  ·have hi := Few4_d 60 (by decide) (by decide) l[j] 60 (by decide) (by decide)
   rw [eTy_eq] at hi
   have hq : (eTys l).getD (j : Int).toNat [] = [.sl 2 (eTys l[j].args) none, .v (.int .i64 l[j].base)] := by rw [Int.toNat_natCast, eTys_getD l j hlt, eTy_eq]
   have hb : (0 : Int) ≤ (j : Int) ∧ (j : Int) < ((eTys l).length : Int) := ⟨by omega, by rw [eTys_len]; omega⟩
   refine dwk [(32, .v (.bool true))] TS9_ok hnt fun K hK => ?_; refine And.intro (dtrue (by rw [eTys_len]; omega)) ?_; refine hK _ _ ?_; clear hK K; refine dw_cond (t := true) rfl ?_; rw [if_pos rfl]; refine dw_skip ?_; refine dw_seq (dw_block (dw_seq ?_))
   cases hf : few4B l[j] with
   | true =>
    have hf2 := hf
    unfold few4B at hf2
    rw [hf2] at hi
    refine dwk [(37, .q [.sl 2 (eTys l[j].args) none, .v (.int .i64 l[j].base)])] TS9_ok hnt fun K hK => ?_; refine And.intro (hb) ?_; refine And.intro (VLe.of_eq (by rw [hq])) ?_; refine dcl (hi) ?_; refine hK _ _ ?_; clear hK K; refine dw_cond (t := false) rfl ?_; rw [if_neg (by simp)]; refine dw_skip ?_; refine dwk [(34, .v (.int .i64 ((j + 1 : Nat) : Int)))] TS9_ok hnt fun K hK => ?_; refine And.intro (dintE (by rw [IntWalk.i64_in _ (by omega)]; omega)) ?_
    refine hK _ _ ?_; clear hK K
    refine ⟨⟨j + 1, fun i h1 h2 => ?_⟩, by dsimp only; omega, VS.toA⟩
    by_cases he : i = j
    ·subst he; exact hf
    ·exact hj i h1 (by omega)
   | false =>
    have hf2 := hf
    unfold few4B at hf2
    rw [hf2] at hi
    have ha : l.all few4B = false := by rw [List.all_eq_false]; exact ⟨l[j], List.getElem_mem hlt, by rw [hf]; simp⟩
    rw [ha]
    refine dwk [(37, .q [.sl 2 (eTys l[j].args) none, .v (.int .i64 l[j].base)])] TS9_ok hnt fun K hK => ?_; refine And.intro (hb) ?_; refine And.intro (VLe.of_eq (by rw [hq])) ?_; refine dcl (hi) ?_; refine hK _ _ ?_; clear hK K; refine dw_cond (t := true) rfl ?_; rw [if_pos rfl]; refine dw_seq ?_; refine dwk [] TS9_ok hnt fun K hK => ?_; refine hK _ _ ?_; clear hK K; refine dw_ret ?_
    exact retv (N := 0) (.inr rfl) rfl (VLe.refl _) trivial
  ·have ha : l.all few4B = true := by
    rw [List.all_eq_true]
    intro t ht
    obtain ⟨i, hi, rfl⟩ := List.getElem_of_mem ht
    exact hj i hi (by omega)
   rw [ha]
   refine dwk [(32, .v (.bool false))] TS9_ok hnt fun K hK => ?_; refine And.intro (dfalse (by rw [eTys_len]; omega)) ?_; refine hK _ _ ?_; clear hK K; refine dw_cond (t := false) rfl ?_; rw [if_neg (by simp)]; refine dw_exit ?_; refine dw_seq ?_; refine dwk [] TS9_ok hnt fun K hK => ?_; refine hK _ _ ?_; clear hK K; refine dw_ret ?_
   exact retv (N := 0) (.inr rfl) rfl (VLe.refl _) trivial
set_option maxHeartbeats 1000000 in
theorem small_no (b : Int) (C M X : List Ty) (h : ¬ (C.length ≤ 20 ∧ M.length ≤ 20 ∧ X.length ≤ 20)) : PureC Tryz.prog 9 [.ag [.v (.int .i64 b), .sl 2 (eTys C) none, .sl 2 (eTys M) none], .sl 2 (eTys X) none] (.v (.bool false)) := by
 refine call_of_dw 0 41 [ResultVar.tmp 4] TS9_ok (by kernel_rfl) Tryz.func9 rfl Tryz.ntmps9 rfl (by simp) ?dwords ?dbody
 case dwords => simp [wordsOk, D.ok, D.oks, rnames, eTys_ok]
 case dbody =>
  intro cx hnt hn0
  refine dw_seq ?_; refine dwk [] TS9_ok hnt fun K hK => ?_; refine hK _ _ ?_; clear hK K; refine dw_seq (dw_seq ?_)
  by_cases h1 : C.length ≤ 20
  ·by_cases h2 : M.length ≤ 20
   ·skip
    refine dwk [(10, .v (.bool false)), (15, .v (.bool false)), (20, .v (.bool true))] TS9_ok hnt fun K hK => ?_; refine And.intro (dfalse (by rw [eTys_len]; omega)) ?_; refine And.intro (dfalse (by rw [eTys_len]; omega)) ?_; refine And.intro (dtrue (by rw [eTys_len]; omega)) ?_; refine hK _ _ ?_; clear hK K; refine dw_cond (t := true) rfl ?_; rw [if_pos rfl]; refine dw_seq ?_; refine dwk [] TS9_ok hnt fun K hK => ?_
    refine hK _ _ ?_; clear hK K; refine dw_ret ?_
    exact retv (N := 0) (.inr rfl) rfl (VLe.refl _) trivial
   ·skip
    refine dwk [(10, .v (.bool false)), (15, .v (.bool true))] TS9_ok hnt fun K hK => ?_; refine And.intro (dfalse (by rw [eTys_len]; omega)) ?_; refine And.intro (dtrue (by rw [eTys_len]; omega)) ?_; refine hK _ _ ?_; clear hK K; refine dw_cond (t := true) rfl ?_; rw [if_pos rfl]; refine dw_seq ?_; refine dwk [] TS9_ok hnt fun K hK => ?_; refine hK _ _ ?_; clear hK K; refine dw_ret ?_
    exact retv (N := 0) (.inr rfl) rfl (VLe.refl _) trivial
  ·skip
   refine dwk [(10, .v (.bool true))] TS9_ok hnt fun K hK => ?_; refine And.intro (dtrue (by rw [eTys_len]; omega)) ?_; refine hK _ _ ?_; clear hK K; refine dw_cond (t := true) rfl ?_; rw [if_pos rfl]; refine dw_seq ?_; refine dwk [] TS9_ok hnt fun K hK => ?_; refine hK _ _ ?_; clear hK K; refine dw_ret ?_
   exact retv (N := 0) (.inr rfl) rfl (VLe.refl _) trivial
end Go.Proofs.YtflbnonbfmmchaaGreat

namespace Go.Proofs.YtflbnonbfmmchaaGreat
open Go.RowKit
def TTO_44 : TI := ⟨2, true, [Value.slice none 0 0, Value.int IntKind.i64 0], [(0, 1, false), (1, 1, false)], none, 32, 6, none, false⟩
theorem TTO_44_ok : TypOk Tryz.prog 44 TTO_44 := by constructor <;> kernel_rfl
def TTO_3 : TI := ⟨1, false, [Value.int IntKind.i64 0], [], none, 8, 2, none, false⟩
theorem TTO_3_ok : TypOk Tryz.prog 3 TTO_3 := by constructor <;> kernel_rfl
def TTO_41 : TI := ⟨4, true, [Value.slice none 0 0, Value.int IntKind.i64 0, Value.int IntKind.i64 0, Value.slice none 0 0], [(0, 1, false), (1, 2, true), (3, 1, false)], none, 64, 6, none, false⟩
theorem TTO_41_ok : TypOk Tryz.prog 41 TTO_41 := by constructor <;> kernel_rfl
def TTO_103 : TI := ⟨2, true, [Value.slice none 0 0, Value.int IntKind.i64 0], [(0, 1, false), (1, 1, false)], none, 32, 6, none, false⟩
theorem TTO_103_ok : TypOk Tryz.prog 103 TTO_103 := by constructor <;> kernel_rfl
def TTO_22 : TI := ⟨1, false, [Value.slice none 0 0], [], some 103, 24, 5, none, false⟩
theorem TTO_22_ok : TypOk Tryz.prog 22 TTO_22 := by constructor <;> kernel_rfl
def TTO_33 : TI := ⟨1, false, [Value.slice none 0 0], [], some 44, 24, 5, none, false⟩
theorem TTO_33_ok : TypOk Tryz.prog 33 TTO_33 := by constructor <;> kernel_rfl
def TTO_29 : TI := ⟨4, true, [Value.slice none 0 0, Value.int IntKind.i64 0, Value.int IntKind.i64 0, Value.slice none 0 0], [(0, 1, false), (1, 2, true), (3, 1, false)], none, 64, 6, none, false⟩
theorem TTO_29_ok : TypOk Tryz.prog 29 TTO_29 := by constructor <;> kernel_rfl
def TTO_39 : TI := ⟨1, false, [Value.slice none 0 0], [], some 41, 24, 5, none, false⟩
theorem TTO_39_ok : TypOk Tryz.prog 39 TTO_39 := by constructor <;> kernel_rfl
def TTO_27 : TI := ⟨1, false, [Value.slice none 0 0], [], some 29, 24, 5, none, false⟩
theorem TTO_27_ok : TypOk Tryz.prog 27 TTO_27 := by constructor <;> kernel_rfl
def TTO_26 : TI := ⟨2, true, [Value.int IntKind.i64 0, Value.int IntKind.i64 0], [(0, 1, false), (1, 1, false)], none, 16, 6, none, true⟩
theorem TTO_26_ok : TypOk Tryz.prog 26 TTO_26 := by constructor <;> kernel_rfl
def TTO_38 : TI := ⟨2, true, [Value.int IntKind.i64 0, Value.int IntKind.i64 0], [(0, 1, false), (1, 1, false)], none, 16, 6, none, true⟩
theorem TTO_38_ok : TypOk Tryz.prog 38 TTO_38 := by constructor <;> kernel_rfl
def TTO : List (Nat × TI) := [(44, TTO_44), (3, TTO_3), (41, TTO_41), (103, TTO_103), (22, TTO_22), (33, TTO_33), (29, TTO_29), (39, TTO_39), (27, TTO_27), (26, TTO_26), (38, TTO_38)]
theorem TTO_ok : TabOk Tryz.prog TTO := ((((((((((((TabOk.nil _).cons TTO_38_ok).cons TTO_26_ok).cons TTO_27_ok).cons TTO_39_ok).cons TTO_29_ok).cons TTO_33_ok).cons TTO_22_ok).cons TTO_103_ok).cons TTO_41_ok).cons TTO_3_ok).cons TTO_44_ok)
theorem eTys_tlen (l : List Ty) (j : Nat) (h : j ≤ l.length) : (eTys (l.take j)).length = j := by rw [eTys_len, List.length_take]; omega
theorem eTms_tlen (l : List Tm) (j : Nat) (h : j ≤ l.length) : (eTms (l.take j)).length = j := by rw [eTms_len, List.length_take]; omega
theorem to4D_d : ∀ t : Ty, t.size ≤ 900000 → PureC Tryz.prog 53 [.ag (eTy t)] (.ag (eTy t)) := by
 intro t
 induction t using Ty.ind with
 | h ar base ih =>
  intro hz
  rw [Ty.size_eq] at hz
  have hal := Ty.le_sizes ar
  rw [eTy_eq]
  dsimp only [Ty.args, Ty.base]
  refine calldw 0 27 [ResultVar.cell 2 44] TTO_ok Tryz.func53 rfl Tryz.ntmps53 rfl fun cx hnt hn0 => ?_
  ·skip
   refine dw_seq ?_; refine dwk [] TTO_ok hnt fun K hK => ?_; refine hK _ _ ?_; clear hK K; refine dw_seq ?_; refine dwk [] TTO_ok hnt fun K hK => ?_; refine hK _ _ ?_; clear hK K
   refine DW.vs (VS.row (k := 5) (off := 0) 44 2 rfl) ?_
   refine dw_seq ?_; refine dw_seq ?_; refine dwk [] TTO_ok hnt fun K hK => ?_; refine hK _ _ ?_; clear hK K; refine dw_block ?_
   refine dw_loop (ι := { j : Nat // j ≤ ar.length }) (fun j => [(.t 1, .p 0 0), (.t 2, .p 1 0), (.t 3, .p 5 0), (.t 4, .v (.int .i64 ↑j.1)), (.c 0 0, .sl 2 (eTys ar) none), (.c 0 1, .v (.int .i64 base)), (.c 1 0, .v (.slice none 0 0)), (.c 1 1, .v (.int .i64 0)), (.c 5 0, .sl 2 (eTys (ar.take j.1)) (some 7)), (.c 5 1, .v (.int .i64 base)), (.r 7, .rw 44 2 j.1)]) 8 (fun j => ar.length - j.1) (⟨0, Nat.zero_le _⟩) ((VS.toK (by omega) (by repeat first | exact trivial | refine And.intro (And.intro (by first | rfl | simp [D.ok, D.oks, D.okss, D.okm, upto, keyOk, argsT]) (by first | exact Or.inl rfl | exact Or.inr ⟨_, rfl, (by repeat first | exact VLe.refl _ | exact VLe.nil _ | exact VLe.untag _ _ _ | refine VLe.ag ?_ | refine VLe.tu ?_ | refine VLeL.cons ?_ ?_ | exact VLeL.nil), trivial⟩ | simp [get, Key.eq, argsT])) ?_))) fun j => ?_
   obtain ⟨j, hj⟩ := j
   dsimp only
   by_cases hlt : j < ar.length
   ·have hmem := List.getElem_mem hlt
    have hsz := Ty.size_mem hmem
    have hc := ih _ hmem (by omega)
    rw [eTy_eq] at hc
    have hl1 := eTys_tlen ar j hj
    have hl2 := eTys_tlen ar (j + 1) hlt
    refine dw_seq ?_; refine dw_seq ?_; refine dwk [(11, .v (.int .i64 (↑ar.length))), (12, .v (.bool true))] TTO_ok hnt fun K hK => ?_; refine And.intro (dintE (by rw [eTys_len])) ?_; refine And.intro auT ?_; refine hK _ _ ?_; clear hK K; refine dw_cond (t := true) rfl ?_; rw [if_pos rfl]; refine dw_skip ?_; refine dw_seq ?_; refine dw_block ?_; refine dwkD [(20, .q [.sl 2 (eTys ar[j].args) none, .v (.int .i64 ar[j].base)])] TTO_ok hnt fun K hK => ?_
    refine And.intro (elo (eTys_len ar)) ?_; refine And.intro (elv (eTys_getD ar j) (eTy_eq _)) ?_; refine dcl (hc) ?_; refine And.intro (⟨by omega, by rw [hl1]; simp; omega⟩) ?_; refine hK _ _ (by kernel_rfl) ?_; clear hK K
    rw [eTys_snoc ar j hlt, hl2]
    refine dwk [(14, .v (.int .i64 (↑(j + 1))))] TTO_ok hnt fun K hK => ?_; refine And.intro auI ?_; refine hK _ _ ?_; clear hK K
    refine ⟨⟨j + 1, hlt⟩, by first | omega | (dsimp only; omega), VS.toA⟩
   ·rw [List.take_of_length_le (by omega)]
    refine dw_seq ?_; refine dw_seq ?_; refine dwk [(11, .v (.int .i64 (↑ar.length))), (12, .v (.bool false))] TTO_ok hnt fun K hK => ?_; refine And.intro (dintE (by rw [eTys_len])) ?_; refine And.intro auF ?_; refine hK _ _ ?_; clear hK K; refine dw_cond (t := false) rfl ?_; rw [if_neg (by simp)]; refine dw_exit ?_; refine dw_seq ?_; refine dwk [] TTO_ok hnt fun K hK => ?_; refine hK _ _ ?_; clear hK K
    refine dw_ret ?_
    exact reta rfl
theorem toTys_d (l : List Ty) (hz : Ty.sizes l ≤ 900000) : PureC Tryz.prog 12 [.sl 2 (eTys l) none] (.sl 2 (eTys l) none) := by
 have hal := Ty.le_sizes l
 refine calldw 0 20 [ResultVar.tmp 2] TTO_ok Tryz.func12 rfl Tryz.ntmps12 rfl fun cx hnt hn0 => ?_
 ·skip
  refine dw_seq ?_; refine dwk [] TTO_ok hnt fun K hK => ?_; refine hK _ _ ?_; clear hK K
  refine dw_cut (τ := [(.t 0, .sl 2 (eTys l) none), (.t 3, .v (.slice none 0 0))]) (N1 := 0) ?_ ?_
  ·skip
   refine dwk [] TTO_ok hnt fun K hK => ?_; refine hK _ _ ?_; clear hK K
   exact cut_ok (VS.toK (by omega) (by repeat first | exact trivial | refine And.intro (And.intro (by first | rfl | simp [D.ok, D.oks, D.okss, D.okm, upto, keyOk, argsT]) (by first | exact Or.inl rfl | exact Or.inr ⟨_, rfl, (by repeat first | exact VLe.refl _ | exact VLe.nil _ | exact VLe.untag _ _ _ | refine VLe.ag ?_ | refine VLe.tu ?_ | refine VLeL.cons ?_ ?_ | exact VLeL.nil), trivial⟩ | simp [get, Key.eq, argsT])) ?_))
  ·refine DW.vs (VS.rowT (x := 3) (by rw [hnt]; decide) 44 2 rfl) ?_
   refine dw_seq ?_; refine dw_seq ?_; refine dwk [] TTO_ok hnt fun K hK => ?_; refine hK _ _ ?_; clear hK K; refine dw_block ?_
   refine dw_loop (ι := { j : Nat // j ≤ l.length }) (fun j => [(.t 0, .sl 2 (eTys l) none), (.t 3, .sl 2 (eTys (l.take j.1)) (some 0)), (.t 4, .v (.int .i64 ↑j.1)), (.r 0, .rw 44 2 j.1)]) 1 (fun j => l.length - j.1) (⟨0, Nat.zero_le _⟩) ((VS.toK (by omega) (by repeat first | exact trivial | refine And.intro (And.intro (by first | rfl | simp [D.ok, D.oks, D.okss, D.okm, upto, keyOk, argsT]) (by first | exact Or.inl rfl | exact Or.inr ⟨_, rfl, (by repeat first | exact VLe.refl _ | exact VLe.nil _ | exact VLe.untag _ _ _ | refine VLe.ag ?_ | refine VLe.tu ?_ | refine VLeL.cons ?_ ?_ | exact VLeL.nil), trivial⟩ | simp [get, Key.eq, argsT])) ?_))) fun j => ?_
   obtain ⟨j, hj⟩ := j
   dsimp only
   by_cases hlt : j < l.length
   ·have hsz := Ty.size_mem (List.getElem_mem hlt)
    have hc := to4D_d l[j] (by omega)
    rw [eTy_eq] at hc
    have hl1 := eTys_tlen l j hj
    have hl2 := eTys_tlen l (j + 1) hlt
    refine dw_seq ?_; refine dw_seq ?_; refine dwk [(7, .v (.int .i64 (↑l.length))), (8, .v (.bool true))] TTO_ok hnt fun K hK => ?_; refine And.intro (dintE (by rw [eTys_len])) ?_; refine And.intro auT ?_; refine hK _ _ ?_; clear hK K; refine dw_cond (t := true) rfl ?_; rw [if_pos rfl]; refine dw_skip ?_; refine dw_seq ?_; refine dw_block ?_; refine dwk [(14, .q [.sl 2 (eTys l[j].args) none, .v (.int .i64 l[j].base)])] TTO_ok hnt fun K hK => ?_
    refine And.intro (elo (eTys_len l)) ?_; refine And.intro (elv (eTys_getD l j) (eTy_eq _)) ?_; refine dcl (hc) ?_; refine And.intro (⟨by omega, by rw [hl1]; simp; omega⟩) ?_; refine hK _ _ ?_; clear hK K
    rw [eTys_snoc l j hlt, hl2]
    refine dwk [(10, .v (.int .i64 (↑(j + 1))))] TTO_ok hnt fun K hK => ?_; refine And.intro auI ?_; refine hK _ _ ?_; clear hK K
    refine ⟨⟨j + 1, hlt⟩, by first | omega | (dsimp only; omega), VS.toA⟩
   ·rw [List.take_of_length_le (by omega)]
    refine dw_seq ?_; refine dw_seq ?_; refine dwk [(7, .v (.int .i64 (↑l.length))), (8, .v (.bool false))] TTO_ok hnt fun K hK => ?_; refine And.intro (dintE (by rw [eTys_len])) ?_; refine And.intro auF ?_; refine hK _ _ ?_; clear hK K; refine dw_cond (t := false) rfl ?_; rw [if_neg (by simp)]; refine dw_exit ?_; refine dw_seq ?_; refine dwk [] TTO_ok hnt fun K hK => ?_; refine hK _ _ ?_; clear hK K; refine dw_ret ?_
    exact reta rfl
theorem to6D_d : ∀ t : Tm, t.full ≤ 900000 → PureC Tryz.prog 13 [.ag (eTm t)] (.ag (eTm t)) := by
  intro t
  induction t using Tm.ind with
  | h bs k i ar ih =>
    intro hz
    rw [Tm.full_eq] at hz
    have hbs := toTys_d bs (by omega)
    have hal : ar.length ≤ Tm.fulls ar := by
      clear ih hz
      induction ar with
      | nil => simp
      | cons u l ih => have : 1 ≤ u.full := by obtain ⟨b, k, i, a⟩ := u; rw [Tm.full_eq]; omega
                       simp only [List.length_cons, Tm.fulls]; omega
    rw [eTm_eq]
    dsimp only [Tm.binds, Tm.kind, Tm.index, Tm.args]
    refine calldw 0 35 [ResultVar.cell 2 41] TTO_ok Tryz.func13 rfl Tryz.ntmps13 rfl fun cx hnt hn0 => ?_
    · skip
      refine dw_seq ?_
      refine dwk [] TTO_ok hnt fun K hK => ?_
      refine hK _ _ ?_; clear hK K
      refine dw_seq ?_
      refine dwkD [] TTO_ok hnt fun K hK => ?_
      refine dcl (hbs) ?_
      refine hK _ _ (by kernel_rfl) ?_; clear hK K
      refine DW.vs (VS.row (k := 13) (off := 3) 41 4 rfl) ?_
      refine dw_seq ?_
      refine dw_seq ?_
      refine dwk [] TTO_ok hnt fun K hK => ?_
      refine hK _ _ ?_; clear hK K
      refine dw_block ?_
      refine dw_loop (ι := { j : Nat // j ≤ ar.length }) (fun j => [(.t 1, .p 0 0), (.t 2, .p 1 0), (.t 3, .p 13 0), (.t 4, .v (.int .i64 ↑j.1)), (.c 0 0, .sl 2 (eTys bs) none), (.c 0 1, .v (.int .i64 k)), (.c 0 2, .v (.int .i64 i)), (.c 0 3, .sl 4 (eTms ar) none), (.c 1 0, .v (.slice none 0 0)), (.c 1 1, .v (.int .i64 0)), (.c 1 2, .v (.int .i64 0)), (.c 1 3, .v (.slice none 0 0)), (.c 13 0, .sl 2 (eTys bs) none), (.c 13 1, .v (.int .i64 k)), (.c 13 2, .v (.int .i64 i)), (.c 13 3, .sl 4 (eTms (ar.take j.1)) (some 15)), (.r 15, .rw 41 4 j.1)]) 16 (fun j => ar.length - j.1) (⟨0, Nat.zero_le _⟩) ((VS.toK (by omega) (by repeat first | exact trivial | refine And.intro (And.intro (by first | rfl | simp [D.ok, D.oks, D.okss, D.okm, upto, keyOk, argsT]) (by first | exact Or.inl rfl | exact Or.inr ⟨_, rfl, (by repeat first | exact VLe.refl _ | exact VLe.nil _ | exact VLe.untag _ _ _ | refine VLe.ag ?_ | refine VLe.tu ?_ | refine VLeL.cons ?_ ?_ | exact VLeL.nil), trivial⟩ | simp [get, Key.eq, argsT])) ?_))) fun j => ?_
      obtain ⟨j, hj⟩ := j
      dsimp only
      by_cases hlt : j < ar.length
      · have hmem := List.getElem_mem hlt
        have hsz := Tm.full_mem hmem
        have hc := ih _ hmem (by omega)
        rw [eTm_eq] at hc
        have hl1 := eTms_tlen ar j hj
        have hl2 := eTms_tlen ar (j + 1) hlt
        refine dw_seq ?_
        refine dw_seq ?_
        refine dwk [(19, .v (.int .i64 (↑ar.length))), (20, .v (.bool true))] TTO_ok hnt fun K hK => ?_
        refine And.intro (dintE (by rw [eTms_len])) ?_
        refine And.intro auT ?_
        refine hK _ _ ?_; clear hK K
        refine dw_cond (t := true) rfl ?_
        rw [if_pos rfl]
        refine dw_skip ?_
        refine dw_seq ?_
        refine dw_block ?_
        refine dwkD [(28, .q [.sl 2 (eTys ar[j].binds) none, .v (.int .i64 ar[j].kind), .v (.int .i64 ar[j].index), .sl 4 (eTms ar[j].args) none])] TTO_ok hnt fun K hK => ?_
        refine And.intro (elo (eTms_len ar)) ?_
        refine And.intro (elv (eTms_getD ar j) (eTm_eq _)) ?_
        refine dcl (hc) ?_
        refine And.intro (⟨by omega, by rw [hl1]; simp; omega⟩) ?_
        refine hK _ _ (by kernel_rfl) ?_; clear hK K
        rw [eTms_snoc ar j hlt, hl2]
        refine dwk [(22, .v (.int .i64 (↑(j + 1))))] TTO_ok hnt fun K hK => ?_
        refine And.intro auI ?_
        refine hK _ _ ?_; clear hK K
        refine ⟨⟨j + 1, hlt⟩, by first | omega | (dsimp only; omega), VS.toA⟩
      · rw [List.take_of_length_le (by omega)]
        refine dw_seq ?_
        refine dw_seq ?_
        refine dwk [(19, .v (.int .i64 (↑ar.length))), (20, .v (.bool false))] TTO_ok hnt fun K hK => ?_
        refine And.intro (dintE (by rw [eTms_len])) ?_
        refine And.intro auF ?_
        refine hK _ _ ?_; clear hK K
        refine dw_cond (t := false) rfl ?_
        rw [if_neg (by simp)]
        refine dw_exit ?_
        refine dw_seq ?_
        refine dwk [] TTO_ok hnt fun K hK => ?_
        refine hK _ _ ?_; clear hK K
        refine dw_ret ?_
        exact reta rfl
end Go.Proofs.YtflbnonbfmmchaaGreat

