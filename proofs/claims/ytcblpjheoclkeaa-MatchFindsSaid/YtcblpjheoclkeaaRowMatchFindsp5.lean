/-
  Terms, walked in the deep way: Equal, Eta, Var; the document's Same, Eta, Var. term.Loose. Package pattern, walked in the deep way: what is small. Deep values: a function that hands back a new map. Package pattern, walked in the deep way: Flex, Vars, places, types. Package pattern, walked in the deep way: places, types. The laws' helpers of layers 8 and 9: Low, Of. Package pattern, walked in the deep way: turned, Take. Package pattern, walked in the deep way: Take. Deep values: calls that grow rows of their callers.
-/
import Derived.Test.YtcblpjheoclkeaaRowMatchFindsp4
set_option maxRecDepth 100000
set_option maxHeartbeats 1000000
set_option linter.unusedVariables false
set_option linter.unusedSimpArgs false
namespace Go.Proofs.Ytcblpjheoclkeaa
open Go.RowKit
def TTM_3 : TI := ⟨1, false, [Value.int IntKind.i64 0], [], none, 8, 2, none, false⟩
theorem TTM_3_ok : TypOk Try.prog 3 TTM_3 := ⟨by kernel_rfl, by kernel_rfl, by kernel_rfl, by kernel_rfl, by kernel_rfl⟩
def TTM_34 : TI := ⟨4, true, [Value.slice none 0 0, Value.int IntKind.i64 0, Value.int IntKind.i64 0, Value.slice none 0 0], [(0, 1, false), (1, 2, true), (3, 1, false)], none, 64, 6, none, false⟩
theorem TTM_34_ok : TypOk Try.prog 34 TTM_34 := ⟨by kernel_rfl, by kernel_rfl, by kernel_rfl, by kernel_rfl, by kernel_rfl⟩
def TTM_27 : TI := ⟨4, true, [Value.slice none 0 0, Value.int IntKind.i64 0, Value.int IntKind.i64 0, Value.slice none 0 0], [(0, 1, false), (1, 2, true), (3, 1, false)], none, 64, 6, none, false⟩
theorem TTM_27_ok : TypOk Try.prog 27 TTM_27 := ⟨by kernel_rfl, by kernel_rfl, by kernel_rfl, by kernel_rfl, by kernel_rfl⟩
def TTM_31 : TI := ⟨2, true, [Value.int IntKind.i64 0, Value.int IntKind.i64 0], [(0, 1, false), (1, 1, false)], none, 16, 6, none, true⟩
theorem TTM_31_ok : TypOk Try.prog 31 TTM_31 := ⟨by kernel_rfl, by kernel_rfl, by kernel_rfl, by kernel_rfl, by kernel_rfl⟩
def TTM_24 : TI := ⟨2, true, [Value.int IntKind.i64 0, Value.int IntKind.i64 0], [(0, 1, false), (1, 1, false)], none, 16, 6, none, true⟩
theorem TTM_24_ok : TypOk Try.prog 24 TTM_24 := ⟨by kernel_rfl, by kernel_rfl, by kernel_rfl, by kernel_rfl, by kernel_rfl⟩
def TTM_32 : TI := ⟨1, false, [Value.slice none 0 0], [], some 34, 24, 5, none, false⟩
theorem TTM_32_ok : TypOk Try.prog 32 TTM_32 := ⟨by kernel_rfl, by kernel_rfl, by kernel_rfl, by kernel_rfl, by kernel_rfl⟩
def TTM_30 : TI := ⟨1, false, [Value.slice none 0 0], [], some 83, 24, 5, none, false⟩
theorem TTM_30_ok : TypOk Try.prog 30 TTM_30 := ⟨by kernel_rfl, by kernel_rfl, by kernel_rfl, by kernel_rfl, by kernel_rfl⟩
def TTM_25 : TI := ⟨1, false, [Value.slice none 0 0], [], some 27, 24, 5, none, false⟩
theorem TTM_25_ok : TypOk Try.prog 25 TTM_25 := ⟨by kernel_rfl, by kernel_rfl, by kernel_rfl, by kernel_rfl, by kernel_rfl⟩
def TTM_22 : TI := ⟨1, false, [Value.slice none 0 0], [], some 123, 24, 5, none, false⟩
theorem TTM_22_ok : TypOk Try.prog 22 TTM_22 := ⟨by kernel_rfl, by kernel_rfl, by kernel_rfl, by kernel_rfl, by kernel_rfl⟩
def TTM_83 : TI := ⟨2, true, [Value.slice none 0 0, Value.int IntKind.i64 0], [(0, 1, false), (1, 1, false)], none, 32, 6, none, false⟩
theorem TTM_83_ok : TypOk Try.prog 83 TTM_83 := ⟨by kernel_rfl, by kernel_rfl, by kernel_rfl, by kernel_rfl, by kernel_rfl⟩
def TTM_123 : TI := ⟨2, true, [Value.slice none 0 0, Value.int IntKind.i64 0], [(0, 1, false), (1, 1, false)], none, 32, 6, none, false⟩
theorem TTM_123_ok : TypOk Try.prog 123 TTM_123 := ⟨by kernel_rfl, by kernel_rfl, by kernel_rfl, by kernel_rfl, by kernel_rfl⟩
def TTM_161 : TI := ⟨1, false, [Value.nilFunc], [], none, 8, 8, none, false⟩
theorem TTM_161_ok : TypOk Try.prog 161 TTM_161 := ⟨by kernel_rfl, by kernel_rfl, by kernel_rfl, by kernel_rfl, by kernel_rfl⟩
def TTM_59 : TI := ⟨1, false, [Value.nilFunc], [], none, 8, 8, none, false⟩
theorem TTM_59_ok : TypOk Try.prog 59 TTM_59 := ⟨by kernel_rfl, by kernel_rfl, by kernel_rfl, by kernel_rfl, by kernel_rfl⟩
def TTM : List (Nat × TI) := [(3, TTM_3), (34, TTM_34), (27, TTM_27), (31, TTM_31), (24, TTM_24), (32, TTM_32), (30, TTM_30), (25, TTM_25), (22, TTM_22), (83, TTM_83), (123, TTM_123), (161, TTM_161), (59, TTM_59)]
theorem TTM_ok : TabOk Try.prog TTM := ((((((((((((((TabOk.nil _).cons TTM_59_ok).cons TTM_161_ok).cons TTM_123_ok).cons TTM_83_ok).cons TTM_22_ok).cons TTM_25_ok).cons TTM_30_ok).cons TTM_32_ok).cons TTM_24_ok).cons TTM_31_ok).cons TTM_27_ok).cons TTM_34_ok).cons TTM_3_ok)

theorem bindsT (b : List Ty) (k i : Int) (a : List Tm) : (Tm.mk b k i a).binds = b := rfl
theorem kindT (b : List Ty) (k i : Int) (a : List Tm) : (Tm.mk b k i a).kind = k := rfl
theorem indexT (b : List Ty) (k i : Int) (a : List Tm) : (Tm.mk b k i a).index = i := rfl
theorem argsTm (b : List Ty) (k i : Int) (a : List Tm) : (Tm.mk b k i a).args = a := rfl
theorem eqTmsA (l r : List Tm) (h : ∀ t ∈ l, ∀ u, PureC Try.prog 41 [.ag (eTm t), .ag (eTm u)] (.v (.bool (decide (t = u))))) : PureC Try.prog 77 [.sl 4 (eTms l) none, .sl 4 (eTms r) none, .fn 41 []] (.v (.bool (decide (l = r)))) := CallC.lens fun hlen => by
 have hl : l.length ≤ 9223372036854775807 := by have := hlen _ (List.mem_cons_self ..); simp only [slOk, sl1, eTms_len] at this; exact this
 by_cases hlr : l.length = r.length
 ·skip
  refine calldw 0 32 [ResultVar.tmp 6] TTM_ok Try.func77 rfl Try.ntmps77 rfl fun cx hnt hn0 => ?_
  ·skip
   refine dw_seq ?_; refine dwk [] TTM_ok hnt fun K hK => ?_; refine hK _ _ ?_; clear hK K; refine dw_seq ?_; refine dw_seq ?_; refine dwk [(11, .v (.int .i64 (↑l.length))), (13, .v (.int .i64 (↑r.length))), (14, .v (.bool false))] TTM_ok hnt fun K hK => ?_; refine And.intro (dintE (by rw [eTms_len])) ?_; refine And.intro (dintE (by rw [eTms_len])) ?_; refine And.intro (bneF (by omega)) ?_; refine hK _ _ ?_; clear hK K
   refine dw_cond (t := false) rfl ?_; rw [if_neg (by simp)]; refine dw_skip ?_; refine dw_seq ?_; refine dw_seq ?_; refine dwk [(16, .v (.int .i64 (↑l.length)))] TTM_ok hnt fun K hK => ?_; refine And.intro (dintE (by rw [eTms_len])) ?_; refine hK _ _ ?_; clear hK K; refine dw_block ?_
   refine dw_loop (ι := { j : Nat // l.take j = r.take j }) (fun j => [(.t 1, .sl 4 (eTms r) none), (.t 2, .fn 41 []), (.t 15, .sl 4 (eTms l) none), (.t 16, .v (.int .i64 ↑l.length)), (.t 17, .v (.int .i64 ↑j.1))]) 0 (fun j => l.length - j.1) (⟨0, rfl⟩) (VS.toA) fun j => ?_
   obtain ⟨j, hj⟩ := j
   dsimp only
   by_cases hlt : j < l.length
   ·have hlt2 : j < r.length := by omega
    have hq := h l[j] (List.getElem_mem hlt) r[j]
    rw [eTm_eq, eTm_eq] at hq
    by_cases he : l[j] = r[j]
    ·rw [decide_eq_true he] at hq
     refine dw_seq ?_; refine dwk [(18, .v (.bool true))] TTM_ok hnt fun K hK => ?_; refine And.intro auT ?_; refine hK _ _ ?_; clear hK K; refine dw_seq ?_; refine dw_cond (t := true) rfl ?_; rw [if_pos rfl]; refine dw_skip ?_; refine dw_seq ?_; refine dw_block ?_; refine dw_seq ?_; refine dwk [(20, .q [.sl 2 (eTys l[j].binds) none, .v (.int .i64 l[j].kind), .v (.int .i64 l[j].index), .sl 4 (eTms l[j].args) none])] TTM_ok hnt fun K hK => ?_
     refine And.intro (elo (eTms_len l)) ?_; refine And.intro (elv (eTms_getD l j) (eTm_eq _)) ?_; refine hK _ _ ?_; clear hK K; refine dw_seq ?_; refine dwk [(24, .q [.sl 2 (eTys r[j].binds) none, .v (.int .i64 r[j].kind), .v (.int .i64 r[j].index), .sl 4 (eTms r[j].args) none])] TTM_ok hnt fun K hK => ?_; refine And.intro (elo (eTms_len r)) ?_; refine And.intro (elv (eTms_getD r j) (eTm_eq _)) ?_; refine hK _ _ ?_; clear hK K
     refine dw_seq ?_; refine dwk [] TTM_ok hnt fun K hK => ?_; refine dcl (hq) ?_; refine hK _ _ ?_; clear hK K; refine dw_cond (t := false) rfl ?_; rw [if_neg (by simp)]; refine dw_skip ?_; refine dwk [(31, .v (.int .i64 (↑(j + 1))))] TTM_ok hnt fun K hK => ?_; refine And.intro auI ?_; refine hK _ _ ?_; clear hK K
     refine ⟨⟨j + 1, take_succ_eq hj hlt hlt2 he⟩, by first | omega | (dsimp only; omega), VS.toA⟩
    ·rw [decide_eq_false he] at hq
     rw [decide_eq_false (ne_at hlt hlt2 he)]
     refine dw_seq ?_; refine dwk [(18, .v (.bool true))] TTM_ok hnt fun K hK => ?_; refine And.intro auT ?_; refine hK _ _ ?_; clear hK K; refine dw_seq ?_; refine dw_cond (t := true) rfl ?_; rw [if_pos rfl]; refine dw_skip ?_; refine dw_seq ?_; refine dw_block ?_; refine dw_seq ?_; refine dwk [(20, .q [.sl 2 (eTys l[j].binds) none, .v (.int .i64 l[j].kind), .v (.int .i64 l[j].index), .sl 4 (eTms l[j].args) none])] TTM_ok hnt fun K hK => ?_
     refine And.intro (elo (eTms_len l)) ?_; refine And.intro (elv (eTms_getD l j) (eTm_eq _)) ?_; refine hK _ _ ?_; clear hK K; refine dw_seq ?_; refine dwk [(24, .q [.sl 2 (eTys r[j].binds) none, .v (.int .i64 r[j].kind), .v (.int .i64 r[j].index), .sl 4 (eTms r[j].args) none])] TTM_ok hnt fun K hK => ?_; refine And.intro (elo (eTms_len r)) ?_; refine And.intro (elv (eTms_getD r j) (eTm_eq _)) ?_; refine hK _ _ ?_; clear hK K
     refine dw_seq ?_; refine dwk [] TTM_ok hnt fun K hK => ?_; refine dcl (hq) ?_; refine hK _ _ ?_; clear hK K; refine dw_cond (t := true) rfl ?_; rw [if_pos rfl]; refine dw_seq ?_; refine dwk [] TTM_ok hnt fun K hK => ?_; refine hK _ _ ?_; clear hK K; refine dw_ret ?_
     exact reta rfl
   ·rw [decide_eq_true (eq_of_take hj (by omega) (by omega))]
    refine dw_seq ?_; refine dwk [(18, .v (.bool false))] TTM_ok hnt fun K hK => ?_; refine And.intro auF ?_; refine hK _ _ ?_; clear hK K; refine dw_seq ?_; refine dw_cond (t := false) rfl ?_; rw [if_neg (by simp)]; refine dw_exit ?_; refine dw_seq ?_; refine dwk [] TTM_ok hnt fun K hK => ?_; refine hK _ _ ?_; clear hK K; refine dw_ret ?_
    exact reta rfl
 ·rw [decide_eq_false (fun e => hlr (by rw [e]))]
  refine calldw 0 32 [ResultVar.tmp 6] TTM_ok Try.func77 rfl Try.ntmps77 rfl fun cx hnt hn0 => ?_
  ·skip
   refine dw_seq ?_; refine dwk [] TTM_ok hnt fun K hK => ?_; refine hK _ _ ?_; clear hK K; refine dw_seq ?_; refine dw_seq ?_; refine dwk [(11, .v (.int .i64 (↑l.length))), (13, .v (.int .i64 (↑r.length))), (14, .v (.bool true))] TTM_ok hnt fun K hK => ?_; refine And.intro (dintE (by rw [eTms_len])) ?_; refine And.intro (dintE (by rw [eTms_len])) ?_; refine And.intro (bneT (by omega)) ?_; refine hK _ _ ?_; clear hK K
   refine dw_cond (t := true) rfl ?_; rw [if_pos rfl]; refine dw_seq ?_; refine dwk [] TTM_ok hnt fun K hK => ?_; refine hK _ _ ?_; clear hK K; refine dw_ret ?_
   exact reta rfl
theorem tm_ext {t u : Tm} : t = u ↔ (t.kind = u.kind ∧ t.index = u.index) ∧ t.binds = u.binds ∧ t.args = u.args := by
  obtain ⟨b, k, i, a⟩ := t
  obtain ⟨b', k', i', a'⟩ := u
  simp only [bindsT, kindT, indexT, argsTm, Tm.mk.injEq]
  exact ⟨fun ⟨h1, h2, h3, h4⟩ => ⟨⟨h2, h3⟩, h1, h4⟩, fun ⟨⟨h1, h2⟩, h3, h4⟩ => ⟨h3, h1, h2, h4⟩⟩
theorem equal2_d : ∀ t u : Tm, PureC Try.prog 41 [.ag (eTm t), .ag (eTm u)] (.v (.bool (decide (t = u)))) := by
 intro t
 induction t using Tm.ind with
 | h b k i a ih =>
 intro u
 have hq := eqTmsA a u.args ih
 have hb := eqTys_d b u.binds 76 rfl
 rw [eTm_eq, eTm_eq]
 simp only [bindsT, kindT, indexT, argsTm]
 by_cases h1 : k = u.kind ∧ i = u.index
 ·by_cases h2 : b = u.binds
  ·rw [show decide (Tm.mk b k i a = u) = decide (a = u.args) by rw [Bool.eq_iff_iff, decide_eq_true_iff, decide_eq_true_iff, tm_ext]; simp [bindsT, kindT, indexT, argsTm, h1, h2]]
   rw [decide_eq_true h2] at hb
   refine calldw 0 24 [ResultVar.tmp 4] TTM_ok Try.func41 rfl Try.ntmps41 rfl fun cx hnt hn0 => ?_
   ·skip
    refine dw_seq ?_; refine dwk [] TTM_ok hnt fun K hK => ?_; refine hK _ _ ?_; clear hK K; refine dw_seq ?_; refine dwk [(9, .v (.bool true))] TTM_ok hnt fun K hK => ?_; refine And.intro (VLe.of_eq (by congr 2; simp [h1])) ?_; refine dcl (hb) ?_; refine dcl (hq) ?_; refine hK _ _ ?_; clear hK K; refine dw_ret ?_
    exact reta rfl
  ·rw [show decide (Tm.mk b k i a = u) = false from decide_eq_false fun e => h2 (by rw [← e]; rfl)]
   rw [decide_eq_false h2] at hb
   refine calldw 0 24 [ResultVar.tmp 4] TTM_ok Try.func41 rfl Try.ntmps41 rfl fun cx hnt hn0 => ?_
   ·skip
    refine dw_seq ?_; refine dwk [] TTM_ok hnt fun K hK => ?_; refine hK _ _ ?_; clear hK K; refine dw_seq ?_; refine dwk [(9, .v (.bool true))] TTM_ok hnt fun K hK => ?_; refine And.intro (VLe.of_eq (by congr 2; simp [h1])) ?_; refine dcl (hb) ?_; refine hK _ _ ?_; clear hK K; refine dw_ret ?_
    exact reta rfl
 ·rw [show decide (Tm.mk b k i a = u) = false from decide_eq_false fun e => h1 (by rw [← e]; exact ⟨rfl, rfl⟩)]
  refine calldw 0 24 [ResultVar.tmp 4] TTM_ok Try.func41 rfl Try.ntmps41 rfl fun cx hnt hn0 => ?_
  ·skip
   refine dw_seq ?_; refine dwk [] TTM_ok hnt fun K hK => ?_; refine hK _ _ ?_; clear hK K; refine dw_seq ?_; refine dwk [(9, .v (.bool false))] TTM_ok hnt fun K hK => ?_; refine And.intro (VLe.of_eq (by congr 2; by_cases h3 : k = u.kind <;> by_cases h4 : i = u.index <;> simp_all)) ?_; refine hK _ _ ?_; clear hK K; refine dw_ret ?_
   exact reta rfl
theorem same2_d : ∀ t u : Tm, PureC Try.prog 11 [.ag (eTm t), .ag (eTm u)] (.v (.bool (decide (t = u)))) := by
 intro t
 induction t using Tm.ind with
 | h b k i a ih =>
 intro u
 refine CallC.lens fun hlen => ?_
 have hl : a.length ≤ 9223372036854775807 := by
  have := hlen _ (List.mem_cons_self ..)
  rw [eTm_eq] at this
  have := this (.sl 4 (eTms a) none) (by simp [argsTm])
  simp only [sl1, eTms_len] at this; exact this
 have hb := rtypesEq_d b u.binds
 rw [eTm_eq, eTm_eq]
 simp only [bindsT, kindT, indexT, argsTm]
 by_cases h1 : k = u.kind ∧ i = u.index
 ·by_cases hlr : a.length = u.args.length
  ·by_cases h2 : b = u.binds
   ·rw [show decide (Tm.mk b k i a = u) = decide (a = u.args) by rw [Bool.eq_iff_iff, decide_eq_true_iff, decide_eq_true_iff, tm_ext]; simp [bindsT, kindT, indexT, argsTm, h1, h2]]
    rw [decide_eq_true h2] at hb
    refine calldw 0 47 [ResultVar.tmp 4] TTM_ok Try.func11 rfl Try.ntmps11 rfl fun cx hnt hn0 => ?_
    ·skip
     refine dw_seq ?_; refine dwk [] TTM_ok hnt fun K hK => ?_; refine hK _ _ ?_; clear hK K; refine dw_seq ?_; refine dw_seq ?_; refine dwk [(10, .v (.bool false)), (14, .v (.int .i64 (↑a.length))), (17, .v (.int .i64 (↑u.args.length))), (18, .v (.bool false))] TTM_ok hnt fun K hK => ?_; refine And.intro (VLe.of_eq (by congr 2; simp [h1])) ?_; refine And.intro (dintE (by rw [eTms_len])) ?_; refine And.intro (dintE (by rw [eTms_len])) ?_
     refine And.intro (bneF (by omega)) ?_; refine dcl (hb) ?_; refine hK _ _ ?_; clear hK K; refine dw_cond (t := false) rfl ?_; rw [if_neg (by simp)]; refine dw_skip ?_; refine dw_seq ?_; refine dw_seq ?_; refine dwk [] TTM_ok hnt fun K hK => ?_; refine hK _ _ ?_; clear hK K; refine dw_block ?_
     refine dw_loop (ι := { j : Nat // a.take j = u.args.take j }) (fun j => [(.t 2, .p 0 0), (.t 3, .p 1 0), (.t 5, .v (.int .i64 ↑j.1)), (.c 0 3, .sl 4 (eTms a) none), (.c 1 3, .sl 4 (eTms u.args) none)]) 2 (fun j => a.length - j.1) (⟨0, rfl⟩) (VS.toA) fun j => ?_
     obtain ⟨j, hj⟩ := j
     dsimp only
     by_cases hlt : j < a.length
     ·have hlt2 : j < u.args.length := by omega
      have hq := ih a[j] (List.getElem_mem hlt) u.args[j]
      rw [eTm_eq, eTm_eq] at hq
      by_cases he : a[j] = u.args[j]
      ·rw [decide_eq_true he] at hq
       refine dw_seq ?_; refine dw_seq ?_; refine dwk [(31, .v (.int .i64 (↑a.length))), (32, .v (.bool true))] TTM_ok hnt fun K hK => ?_; refine And.intro (dintE (by rw [eTms_len])) ?_; refine And.intro auT ?_; refine hK _ _ ?_; clear hK K; refine dw_cond (t := true) rfl ?_; rw [if_pos rfl]; refine dw_skip ?_; refine dw_seq ?_; refine dw_block ?_; refine dw_seq ?_; refine dwkD [(38, .q [.sl 2 (eTys a[j].binds) none, .v (.int .i64 a[j].kind), .v (.int .i64 a[j].index), .sl 4 (eTms a[j].args) none]), (43, .q [.sl 2 (eTys u.args[j].binds) none, .v (.int .i64 u.args[j].kind), .v (.int .i64 u.args[j].index), .sl 4 (eTms u.args[j].args) none])] TTM_ok hnt fun K hK => ?_
       refine And.intro (elo (eTms_len a)) ?_; refine And.intro (elv (eTms_getD a j) (eTm_eq _)) ?_; refine And.intro (elo (eTms_len u.args)) ?_; refine And.intro (elv (eTms_getD u.args j) (eTm_eq _)) ?_; refine dcl (hq) ?_; refine hK _ _ (by kernel_rfl) ?_; clear hK K; refine dw_cond (t := false) rfl ?_; rw [if_neg (by simp)]; refine dw_skip ?_; refine dwk [(34, .v (.int .i64 (↑(j + 1))))] TTM_ok hnt fun K hK => ?_
       refine And.intro auI ?_; refine hK _ _ ?_; clear hK K
       refine ⟨⟨j + 1, take_succ_eq hj hlt hlt2 he⟩, by first | omega | (dsimp only; omega), VS.toA⟩
      ·rw [decide_eq_false he] at hq
       rw [decide_eq_false (ne_at hlt hlt2 he)]
       refine dw_seq ?_; refine dw_seq ?_; refine dwk [(31, .v (.int .i64 (↑a.length))), (32, .v (.bool true))] TTM_ok hnt fun K hK => ?_; refine And.intro (dintE (by rw [eTms_len])) ?_; refine And.intro auT ?_; refine hK _ _ ?_; clear hK K; refine dw_cond (t := true) rfl ?_; rw [if_pos rfl]; refine dw_skip ?_; refine dw_seq ?_; refine dw_block ?_; refine dw_seq ?_; refine dwkD [(38, .q [.sl 2 (eTys a[j].binds) none, .v (.int .i64 a[j].kind), .v (.int .i64 a[j].index), .sl 4 (eTms a[j].args) none]), (43, .q [.sl 2 (eTys u.args[j].binds) none, .v (.int .i64 u.args[j].kind), .v (.int .i64 u.args[j].index), .sl 4 (eTms u.args[j].args) none])] TTM_ok hnt fun K hK => ?_
       refine And.intro (elo (eTms_len a)) ?_; refine And.intro (elv (eTms_getD a j) (eTm_eq _)) ?_; refine And.intro (elo (eTms_len u.args)) ?_; refine And.intro (elv (eTms_getD u.args j) (eTm_eq _)) ?_; refine dcl (hq) ?_; refine hK _ _ (by kernel_rfl) ?_; clear hK K; refine dw_cond (t := true) rfl ?_; rw [if_pos rfl]; refine dw_seq ?_; refine dwk [] TTM_ok hnt fun K hK => ?_; refine hK _ _ ?_; clear hK K
       refine dw_ret ?_
       exact reta rfl
     ·rw [decide_eq_true (eq_of_take hj (by omega) (by omega))]
      refine dw_seq ?_; refine dw_seq ?_; refine dwk [(31, .v (.int .i64 (↑a.length))), (32, .v (.bool false))] TTM_ok hnt fun K hK => ?_; refine And.intro (dintE (by rw [eTms_len])) ?_; refine And.intro auF ?_; refine hK _ _ ?_; clear hK K; refine dw_cond (t := false) rfl ?_; rw [if_neg (by simp)]; refine dw_exit ?_; refine dw_seq ?_; refine dwk [] TTM_ok hnt fun K hK => ?_; refine hK _ _ ?_; clear hK K
      refine dw_ret ?_
      exact reta rfl
   ·rw [show decide (Tm.mk b k i a = u) = false from decide_eq_false fun e => h2 (by rw [← e]; rfl)]
    rw [decide_eq_false h2] at hb
    refine calldw 0 47 [ResultVar.tmp 4] TTM_ok Try.func11 rfl Try.ntmps11 rfl fun cx hnt hn0 => ?_
    ·skip
     refine dw_seq ?_; refine dwk [] TTM_ok hnt fun K hK => ?_; refine hK _ _ ?_; clear hK K; refine dw_seq ?_; refine dw_seq ?_; refine dwk [(10, .v (.bool false)), (14, .v (.int .i64 (↑a.length))), (17, .v (.int .i64 (↑u.args.length))), (18, .v (.bool false))] TTM_ok hnt fun K hK => ?_; refine And.intro (VLe.of_eq (by congr 2; simp [h1])) ?_; refine And.intro (dintE (by rw [eTms_len])) ?_; refine And.intro (dintE (by rw [eTms_len])) ?_
     refine And.intro (bneF (by omega)) ?_; refine dcl (hb) ?_; refine hK _ _ ?_; clear hK K; refine dw_cond (t := true) rfl ?_; rw [if_pos rfl]; refine dw_seq ?_; refine dwk [] TTM_ok hnt fun K hK => ?_; refine hK _ _ ?_; clear hK K; refine dw_ret ?_
     exact reta rfl
  ·rw [show decide (Tm.mk b k i a = u) = false from decide_eq_false fun e => hlr (by rw [← e]; rfl)]
   refine calldw 0 47 [ResultVar.tmp 4] TTM_ok Try.func11 rfl Try.ntmps11 rfl fun cx hnt hn0 => ?_
   ·skip
    refine dw_seq ?_; refine dwk [] TTM_ok hnt fun K hK => ?_; refine hK _ _ ?_; clear hK K; refine dw_seq ?_; refine dw_seq ?_; refine dwk [(10, .v (.bool false)), (14, .v (.int .i64 (↑a.length))), (17, .v (.int .i64 (↑u.args.length))), (18, .v (.bool true))] TTM_ok hnt fun K hK => ?_; refine And.intro (VLe.of_eq (by congr 2; simp [h1])) ?_; refine And.intro (dintE (by rw [eTms_len])) ?_; refine And.intro (dintE (by rw [eTms_len])) ?_
    refine And.intro (bneT (by omega)) ?_; refine hK _ _ ?_; clear hK K; refine dw_cond (t := true) rfl ?_; rw [if_pos rfl]; refine dw_seq ?_; refine dwk [] TTM_ok hnt fun K hK => ?_; refine hK _ _ ?_; clear hK K; refine dw_ret ?_
    exact reta rfl
 ·rw [show decide (Tm.mk b k i a = u) = false from decide_eq_false fun e => h1 (by rw [← e]; exact ⟨rfl, rfl⟩)]
  refine calldw 0 47 [ResultVar.tmp 4] TTM_ok Try.func11 rfl Try.ntmps11 rfl fun cx hnt hn0 => ?_
  ·skip
   refine dw_seq ?_; refine dwk [] TTM_ok hnt fun K hK => ?_; refine hK _ _ ?_; clear hK K; refine dw_seq ?_; refine dw_seq ?_; refine dwk [(10, .v (.bool true))] TTM_ok hnt fun K hK => ?_; refine And.intro (VLe.of_eq (by congr 2; by_cases h3 : k = u.kind <;> by_cases h4 : i = u.index <;> simp_all)) ?_; refine hK _ _ ?_; clear hK K; refine dw_cond (t := true) rfl ?_; rw [if_pos rfl]; refine dw_seq ?_
   refine dwk [] TTM_ok hnt fun K hK => ?_; refine hK _ _ ?_; clear hK K; refine dw_ret ?_
   exact reta rfl
/-! long forms -/
theorem eTms_snoc (l : List Tm) (j : Nat) (h : j < l.length) : eTms (l.take j) ++ [[.sl 2 (eTys l[j].binds) none, .v (.int .i64 l[j].kind), .v (.int .i64 l[j].index), .sl 4 (eTms l[j].args) none]] = eTms (l.take (j + 1)) := by
  rw [← eTm_eq, List.take_add_one, List.getElem?_eq_getElem h, Option.toList_some, eTms_map, eTms_map, List.map_append]; rfl
theorem argsTy (a : List Ty) (b : Int) : (Ty.mk a b).args = a := rfl
theorem etas_at (l : List Ty) (j : Nat) (h : j < l.length) : eTms ((Ty.etas l).take j) ++ [[.sl 2 (eTys (Ty.eta l[j] 0 ((l.length : Int) - 1 - (j : Int))).binds) none, .v (.int .i64 (Ty.eta l[j] 0 ((l.length : Int) - 1 - (j : Int))).kind), .v (.int .i64 (Ty.eta l[j] 0 ((l.length : Int) - 1 - (j : Int))).index), .sl 4 (eTms (Ty.eta l[j] 0 ((l.length : Int) - 1 - (j : Int))).args) none]] = eTms ((Ty.etas l).take (j + 1)) := by
  have h2 : j < (Ty.etas l).length := by rw [Ty.etas_len]; exact h
  rw [← eTms_snoc _ _ h2, Ty.etas_get l j h]
set_option maxHeartbeats 1000000 in
theorem reta6_d : ∀ (t : Ty) (k i : Int), t.size ≤ 1000000 → (k = 0 → -1000000 ≤ i ∧ i + (t.args.length : Int) ≤ 9223372036854775807) → PureC Try.prog 177 [.ag [.v (.int .i64 k), .v (.int .i64 i)], .ag (eTy t)] (.ag (eTm (Ty.eta t k i))) := by
 intro t
 induction t using Ty.ind with
 | h a b ih =>
 intro k i hz hr
 rw [ty_size] at hz
 have hal := Ty.le_sizes a
 rw [argsTy] at hr
 obtain ⟨i', hi'⟩ : ∃ i', (if k = 0 then i + (a.length : Nat) else i) = i' := ⟨_, rfl⟩
 rw [Ty.eta_eq, hi', eTy_eq, eTm_eq]
 simp only [bindsT, kindT, indexT, argsTm, args_mk', base_mk']
 refine calldw 0 46 [ResultVar.cell 4 27] TTM_ok Try.func177 rfl Try.ntmps177 rfl fun cx hnt hn0 => ?_
 ·skip
  refine dw_seq ?_; refine dwk [] TTM_ok hnt fun K hK => ?_; refine hK _ _ ?_; clear hK K; refine dw_seq ?_; refine dwk [(10, .v (.int .i64 (↑a.length)))] TTM_ok hnt fun K hK => ?_; refine And.intro (dintE (by rw [eTys_len])) ?_; refine hK _ _ ?_; clear hK K; refine dw_seq ?_; refine dwk [] TTM_ok hnt fun K hK => ?_; refine hK _ _ ?_; clear hK K
  refine dw_cut (τ := [(.t 3, .p 1 0), (.t 4, .p 2 0), (.t 5, .v (.int .i64 ↑a.length)), (.t 6, .p 11 0), (.c 1 0, .sl 2 (eTys a) none), (.c 2 0, .v (.slice none 0 0)), (.c 2 1, .v (.int .i64 0)), (.c 2 2, .v (.int .i64 0)), (.c 2 3, .v (.slice none 0 0)), (.c 11 0, .sl 2 (eTys a) none), (.c 11 1, .v (.int .i64 k)), (.c 11 2, .v (.int .i64 i')), (.c 11 3, .v (.slice none 0 0))]) (N1 := 12) ?_ ?_
  ·by_cases hk : k = 0
   ·rw [if_pos hk] at hi'
    have hr := hr hk
    refine dw_seq ?_; refine dwk [(17, .v (.bool true))] TTM_ok hnt fun K hK => ?_; refine And.intro (beqT hk) ?_; refine hK _ _ ?_; clear hK K; refine dw_cond (t := true) rfl ?_; rw [if_pos rfl]; refine dwk [(21, .v (.int .i64 (i')))] TTM_ok hnt fun K hK => ?_; refine And.intro (dintE (by rw [IntWalk.i64_in _ (by omega)]; exact hi')) ?_; refine hK _ _ ?_; clear hK K
    exact cut_ok VS.toA
   ·rw [if_neg hk] at hi'
    subst hi'
    refine dw_seq ?_; refine dwk [(17, .v (.bool false))] TTM_ok hnt fun K hK => ?_; refine And.intro (beqF hk) ?_; refine hK _ _ ?_; clear hK K; refine dw_cond (t := false) rfl ?_; rw [if_neg (by simp)]; refine dw_skip ?_
    exact cut_ok VS.toA
  ·skip
   refine dw_seq ?_; refine dw_seq ?_; refine dwk [] TTM_ok hnt fun K hK => ?_; refine hK _ _ ?_; clear hK K
   refine DW.vs (VS.row (k := 11) (off := 3) 27 4 rfl) ?_
   refine dw_block ?_
   refine dw_loop (ι := { j : Nat // j ≤ a.length }) (fun j => [(.t 3, .p 1 0), (.t 4, .p 2 0), (.t 5, .v (.int .i64 ↑a.length)), (.t 6, .p 11 0), (.t 7, .v (.int .i64 ↑j.1)), (.c 1 0, .sl 2 (eTys a) none), (.c 2 0, .v (.slice none 0 0)), (.c 2 1, .v (.int .i64 0)), (.c 2 2, .v (.int .i64 0)), (.c 2 3, .v (.slice none 0 0)), (.c 11 0, .sl 2 (eTys a) none), (.c 11 1, .v (.int .i64 k)), (.c 11 2, .v (.int .i64 i')), (.c 11 3, .sl 4 (eTms ((Ty.etas a).take j.1)) (some 13)), (.r 13, .rw 27 4 j.1)]) 14 (fun j => a.length - j.1) (⟨0, Nat.zero_le _⟩) (VS.toA) fun j => ?_
   obtain ⟨j, hj⟩ := j
   dsimp only
   by_cases hlt : j < a.length
   ·have hmem := ty_mem (List.getElem_mem hlt)
    have hla : a[j].args.length < a[j].size := by obtain ⟨c, d⟩ := a[j]; exact Ty.length_lt
    have hih := ih a[j] (List.getElem_mem hlt) 0 ((a.length : Int) - 1 - (j : Int)) (by omega) (fun _ => ⟨by omega, by omega⟩)
    have hsn := etas_at a j hlt
    have hlq : (eTms ((Ty.etas a).take j)).length = j := by rw [eTms_len, List.length_take, Ty.etas_len]; omega
    rw [eTm_eq, eTy_eq] at hih
    refine dw_seq ?_; refine dw_seq ?_; refine dwk [(26, .v (.bool true))] TTM_ok hnt fun K hK => ?_; refine And.intro auT ?_; refine hK _ _ ?_; clear hK K; refine dw_cond (t := true) rfl ?_; rw [if_pos rfl]; refine dw_skip ?_; refine dw_seq ?_; refine dw_block ?_; refine dwkD [(32, .v (.int .i64 (↑a.length - 1))), (34, .v (.int .i64 (↑a.length - 1 - ↑j))), (39, .q [.sl 2 (eTys a[j].args) none, .v (.int .i64 a[j].base)]), (43, .sl 4 (eTms ((Ty.etas a).take (j + 1))) (some 13))] TTM_ok hnt fun K hK => ?_
    refine And.intro auI ?_; refine And.intro auI ?_; refine And.intro (elo (eTys_len a)) ?_; refine And.intro (elv (eTys_getD a j) (eTy_eq _)) ?_; refine dcl (hih) ?_; refine And.intro (⟨by rw [hlq], by rw [hlq]; simp; omega⟩) ?_; refine And.intro (VLe.of_eq (by rw [hsn])) ?_; refine hK _ _ (by kernel_rfl) ?_; clear hK K; refine dwk [(28, .v (.int .i64 (↑(j + 1))))] TTM_ok hnt fun K hK => ?_; refine And.intro auI ?_
    refine hK _ _ ?_; clear hK K
    refine ⟨⟨j + 1, by omega⟩, by first | omega | (dsimp only; omega), (by try simp only [List.length_append, List.length_take, List.length_cons, List.length_nil, Nat.zero_add, hlq]; exact VS.toA)⟩
   ·rw [List.take_of_length_le (by rw [Ty.etas_len]; omega)]
    refine dw_seq ?_; refine dw_seq ?_; refine dwk [(26, .v (.bool false))] TTM_ok hnt fun K hK => ?_; refine And.intro auF ?_; refine hK _ _ ?_; clear hK K; refine dw_cond (t := false) rfl ?_; rw [if_neg (by simp)]; refine dw_exit ?_; refine dw_seq ?_; refine dwk [] TTM_ok hnt fun K hK => ?_; refine hK _ _ ?_; clear hK K; refine dw_ret ?_
    exact reta rfl
/-! of which head -/
def varV (t : Tm) : D := .tu [.ag [.v (.int .i64 (if longB t then t.kind else 0)), .v (.int .i64 (if longB t then t.headIx else 0))], .v (.bool (longB t))]
theorem longB_mk (b : List Ty) (k i : Int) (a : List Tm) : longB (.mk b k i a) = (decide (a = Ty.etas b) && (!decide (k = 0) || decide ((b.length : Int) ≤ i))) := rfl
theorem headIx_mk (b : List Ty) (k i : Int) (a : List Tm) : (Tm.mk b k i a).headIx = if k = 0 then i - (b.length : Nat) else i := rfl
theorem eta_iff {u : Tm} {b : Ty} {x : Int} (hx : 0 ≤ x) : u = Ty.eta b 0 x ↔ longB u = true ∧ (u.kind = 0 ∧ u.headIx = x) ∧ u.binds = b.args := by
  obtain ⟨l, c⟩ := b
  obtain ⟨bs, k, i, a⟩ := u
  rw [Ty.eta_eq, if_pos rfl, longB_mk, headIx_mk, Tm.mk.injEq, Bool.and_eq_true, Bool.or_eq_true, Bool.not_eq_true', decide_eq_true_eq, decide_eq_false_iff_not, decide_eq_true_eq]
  constructor
  · rintro ⟨rfl, rfl, rfl, rfl⟩
    refine ⟨⟨rfl, .inr (by omega)⟩, ⟨rfl, ?_⟩, rfl⟩
    rw [if_pos rfl]; omega
  · rintro ⟨⟨h1, h2⟩, ⟨h3, h4⟩, h5⟩
    have h3 : k = 0 := h3
    have h5 : bs = l := h5
    rw [if_pos h3] at h4
    subst h5
    exact ⟨rfl, h3, by omega, h1⟩
theorem longB_args {t : Tm} (h : t.args ≠ Ty.etas t.binds) : longB t = false := by unfold longB; rw [decide_eq_false h]; rfl
set_option maxHeartbeats 2000000 in
theorem var_d : ∀ (t : Tm), t.full ≤ 700000 → t.Fit → PureC Try.prog 171 [.ag (eTm t)] (varV t) := by
 intro t
 induction t using Tm.ind with
 | h b k i a ih =>
 intro hz hf
 obtain ⟨f1, f2, f3⟩ := Tm.fit_iff.1 hf
 rw [Tm.full_eq] at hz
 have hbl := Ty.le_sizes b
 have hal : a.length ≤ Tm.fulls a := by
  clear ih hz hf f3
  induction a with
  | nil => simp
  | cons u a ih => have : 1 ≤ u.full := Tm.full_pos u; simp only [Tm.fulls, List.length_cons]; omega
 unfold varV
 rw [eTm_eq]
 by_cases hlen : a.length = b.length
 ·by_cases hk : k = 0 ∧ i < (b.length : Int)
  ·have hlo : longB (.mk b k i a) = false := by
    rw [longB_mk, decide_eq_true hk.1, decide_eq_false (by omega : ¬ (b.length : Int) ≤ i)]; simp
   rw [hlo]
   simp only [bindsT, kindT, indexT, argsTm]
   refine calldw 0 78 [ResultVar.cell 2 31, ResultVar.tmp 3] TTM_ok Try.func171 rfl Try.ntmps171 rfl fun cx hnt hn0 => ?_
   ·skip
    refine dw_seq ?_; refine dwk [] TTM_ok hnt fun K hK => ?_; refine hK _ _ ?_; clear hK K; refine dw_seq ?_; refine dwk [(12, .v (.int .i64 (↑b.length)))] TTM_ok hnt fun K hK => ?_; refine And.intro (dintE (by rw [eTys_len])) ?_; refine hK _ _ ?_; clear hK K; refine dw_seq ?_; refine dwk [] TTM_ok hnt fun K hK => ?_; refine hK _ _ ?_; clear hK K; refine dw_seq ?_; refine dw_seq ?_; refine dwk [(17, .v (.int .i64 (↑a.length))), (19, .v (.bool false)), (23, .v (.bool true)), (28, .v (.bool true))] TTM_ok hnt fun K hK => ?_
    refine And.intro (dintE (by rw [eTms_len])) ?_; refine And.intro (bneF (by omega)) ?_; refine And.intro (beqT hk.1) ?_; refine And.intro auT ?_; refine hK _ _ ?_; clear hK K; refine dw_cond (t := true) rfl ?_; rw [if_pos rfl]; refine dw_seq ?_; refine dwk [] TTM_ok hnt fun K hK => ?_; refine hK _ _ ?_; clear hK K; refine dw_ret ?_
    exact reta rfl
  ·have hlo : longB (.mk b k i a) = decide (a = Ty.etas b) := by
    rw [longB_mk]
    by_cases h : k = 0
    ·rw [decide_eq_true (show (b.length : Int) ≤ i by omega)]; simp
    ·rw [decide_eq_false h]; simp
   have hhd : (Tm.mk b k i a).headIx = if k = 0 then i - (b.length : Nat) else i := rfl
   rw [hlo, hhd]
   simp only [bindsT, kindT, indexT, argsTm]
   refine calldw 0 78 [ResultVar.cell 2 31, ResultVar.tmp 3] TTM_ok Try.func171 rfl Try.ntmps171 rfl fun cx hnt hn0 => ?_
   ·skip
    refine dw_seq ?_; refine dwk [] TTM_ok hnt fun K hK => ?_; refine hK _ _ ?_; clear hK K; refine dw_seq ?_; refine dwk [(12, .v (.int .i64 (↑b.length)))] TTM_ok hnt fun K hK => ?_; refine And.intro (dintE (by rw [eTys_len])) ?_; refine hK _ _ ?_; clear hK K; refine dw_seq ?_; refine dwk [] TTM_ok hnt fun K hK => ?_; refine hK _ _ ?_; clear hK K
    refine dw_cut (τ := [(.t 1, .p 0 0), (.t 2, .p 1 0), (.t 4, .v (.int .i64 ↑b.length)), (.t 5, .p 9 0), (.c 0 0, .sl 2 (eTys b) none), (.c 0 3, .sl 4 (eTms a) none), (.c 1 0, .v (.int .i64 0)), (.c 1 1, .v (.int .i64 0)), (.c 9 0, .v (.int .i64 k)), (.c 9 1, .v (.int .i64 i))]) (N1 := 10) ?_ ?_
    ·by_cases h : k = 0
     ·skip
      refine dw_seq ?_; refine dwk [(17, .v (.int .i64 (↑a.length))), (19, .v (.bool false)), (23, .v (.bool true)), (28, .v (.bool false))] TTM_ok hnt fun K hK => ?_; refine And.intro (dintE (by rw [eTms_len])) ?_; refine And.intro (bneF (by omega)) ?_; refine And.intro (beqT h) ?_; refine And.intro auF ?_; refine hK _ _ ?_; clear hK K; refine dw_cond (t := false) rfl ?_; rw [if_neg (by simp)]; refine dw_skip ?_
      exact cut_ok VS.toA
     ·skip
      refine dw_seq ?_; refine dwk [(17, .v (.int .i64 (↑a.length))), (19, .v (.bool false)), (23, .v (.bool false))] TTM_ok hnt fun K hK => ?_; refine And.intro (dintE (by rw [eTms_len])) ?_; refine And.intro (bneF (by omega)) ?_; refine And.intro (beqF h) ?_; refine hK _ _ ?_; clear hK K; refine dw_cond (t := false) rfl ?_; rw [if_neg (by simp)]; refine dw_skip ?_
      exact cut_ok VS.toA
    ·skip
     refine dw_seq ?_; refine dw_seq ?_; refine dwk [(34, .v (.int .i64 (↑a.length)))] TTM_ok hnt fun K hK => ?_; refine And.intro (dintE (by rw [eTms_len])) ?_; refine hK _ _ ?_; clear hK K; refine dw_block ?_
     refine dw_loop (ι := { j : Nat // a.take j = (Ty.etas b).take j }) (fun j => [(.t 1, .p 0 0), (.t 2, .p 1 0), (.t 4, .v (.int .i64 ↑b.length)), (.t 5, .p 9 0), (.t 33, .sl 4 (eTms a) none), (.t 34, .v (.int .i64 ↑a.length)), (.t 35, .v (.int .i64 ↑j.1)), (.c 0 0, .sl 2 (eTys b) none), (.c 1 0, .v (.int .i64 0)), (.c 1 1, .v (.int .i64 0)), (.c 9 0, .v (.int .i64 k)), (.c 9 1, .v (.int .i64 i))]) 10 (fun j => a.length - j.1) (⟨0, rfl⟩) (VS.toA) fun j => ?_
     obtain ⟨j, hj⟩ := j
     dsimp only
     by_cases hlt : j < a.length
     ·have hltb : j < b.length := by omega
      have hlte : j < (Ty.etas b).length := by rw [Ty.etas_len]; omega
      have hmem := List.getElem_mem hlt
      have hfm := Tm.full_mem hmem
      have hih := ih a[j] hmem (by omega) (f3 _ hmem)
      have hei := eta_iff (u := a[j]) (b := b[j]) (x := (b.length : Int) - 1 - (j : Int)) (by omega)
      rw [← Ty.etas_get b j hltb] at hei
      have hbad : a[j] ≠ (Ty.etas b)[j] → decide (a = Ty.etas b) = false := fun h => decide_eq_false (ne_at hlt hlte h)
      have hq := eqTys_d a[j].binds b[j].args 76 rfl
      unfold varV at hih
      rw [eTm_eq] at hih
      refine dw_seq ?_; refine dwk [(36, .v (.bool true))] TTM_ok hnt fun K hK => ?_; refine And.intro auT ?_; refine hK _ _ ?_; clear hK K; refine dw_seq ?_; refine dw_cond (t := true) rfl ?_; rw [if_pos rfl]; refine dw_skip ?_; refine dw_seq ?_; refine dw_block ?_; refine dw_seq ?_; refine dwk [(38, .q [.sl 2 (eTys a[j].binds) none, .v (.int .i64 a[j].kind), .v (.int .i64 a[j].index), .sl 4 (eTms a[j].args) none])] TTM_ok hnt fun K hK => ?_
      refine And.intro (elo (eTms_len a)) ?_; refine And.intro (elv (eTms_getD a j) (eTm_eq _)) ?_; refine hK _ _ ?_; clear hK K
      cases h1 : longB a[j] with
      | false =>
       rw [h1] at hih
       rw [hbad fun e => by rw [hei, h1] at e; exact absurd e.1 (by simp)]
       refine dw_seq ?_; refine dwk [] TTM_ok hnt fun K hK => ?_; refine dcl (hih) ?_; refine hK _ _ ?_; clear hK K; refine dw_seq ?_; refine dw_seq ?_; refine dwk [] TTM_ok hnt fun K hK => ?_; refine hK _ _ ?_; clear hK K; refine dw_cond (t := true) rfl ?_; rw [if_pos rfl]; refine dw_seq ?_; refine dwk [] TTM_ok hnt fun K hK => ?_; refine hK _ _ ?_; clear hK K; refine dw_ret ?_
       exact reta rfl
      | true =>
       rw [h1, if_pos rfl, if_pos rfl] at hih
       refine dw_seq ?_; refine dwk [] TTM_ok hnt fun K hK => ?_; refine dcl (hih) ?_; refine hK _ _ ?_; clear hK K
       by_cases h2 : a[j].kind = 0 ∧ a[j].headIx = (b.length : Int) - 1 - (j : Int)
       ·skip
        refine dw_seq ?_; refine dw_seq ?_; refine dwk [(50, .v (.int .i64 (↑b.length - 1))), (52, .v (.int .i64 (↑b.length - 1 - ↑j))), (54, .v (.bool false))] TTM_ok hnt fun K hK => ?_; refine And.intro auI ?_; refine And.intro auI ?_; refine And.intro (VLe.of_eq (by congr 2; simp [h2])) ?_; refine hK _ _ ?_; clear hK K; refine dw_cond (t := false) rfl ?_; rw [if_neg (by simp)]
        by_cases h3 : a[j].binds = b[j].args
        ·rw [decide_eq_true h3] at hq
         refine dw_skip ?_; refine dw_seq ?_; refine dwkD [(62, .q [.sl 2 (eTys b[j].args) none, .v (.int .i64 b[j].base)])] TTM_ok hnt fun K hK => ?_; refine And.intro (elo (eTys_len b)) ?_; refine And.intro (elv (eTys_getD b j) (eTy_eq _)) ?_; refine dcl (hq) ?_; refine hK _ _ (by kernel_rfl) ?_; clear hK K; refine dw_cond (t := false) rfl ?_; rw [if_neg (by simp)]; refine dw_skip ?_; refine dwk [(68, .v (.int .i64 (↑(j + 1))))] TTM_ok hnt fun K hK => ?_
         refine And.intro auI ?_; refine hK _ _ ?_; clear hK K
         refine ⟨⟨j + 1, take_succ_eq hj hlt hlte (hei.2 ⟨h1, h2, h3⟩)⟩, by first | omega | (dsimp only; omega), VS.toA⟩
        ·rw [decide_eq_false h3] at hq
         rw [hbad fun e => h3 (hei.1 e).2.2]
         refine dw_skip ?_; refine dw_seq ?_; refine dwkD [(62, .q [.sl 2 (eTys b[j].args) none, .v (.int .i64 b[j].base)])] TTM_ok hnt fun K hK => ?_; refine And.intro (elo (eTys_len b)) ?_; refine And.intro (elv (eTys_getD b j) (eTy_eq _)) ?_; refine dcl (hq) ?_; refine hK _ _ (by kernel_rfl) ?_; clear hK K; refine dw_cond (t := true) rfl ?_; rw [if_pos rfl]; refine dw_seq ?_; refine dwk [] TTM_ok hnt fun K hK => ?_
         refine hK _ _ ?_; clear hK K; refine dw_ret ?_
         exact reta rfl
       ·rw [hbad fun e => h2 (hei.1 e).2.1]
        refine dw_seq ?_; refine dw_seq ?_; refine dwk [(50, .v (.int .i64 (↑b.length - 1))), (52, .v (.int .i64 (↑b.length - 1 - ↑j))), (54, .v (.bool true))] TTM_ok hnt fun K hK => ?_; refine And.intro auI ?_; refine And.intro auI ?_; refine And.intro (VLe.of_eq (by congr 2; by_cases h4 : a[j].kind = 0 <;> by_cases h5 : a[j].headIx = (b.length : Int) - 1 - (j : Int) <;> simp_all)) ?_; refine hK _ _ ?_; clear hK K
        refine dw_cond (t := true) rfl ?_; rw [if_pos rfl]; refine dw_seq ?_; refine dwk [] TTM_ok hnt fun K hK => ?_; refine hK _ _ ?_; clear hK K; refine dw_ret ?_
        exact reta rfl
     ·rw [decide_eq_true (eq_of_take hj (by omega) (by rw [Ty.etas_len]; omega)), if_pos rfl, if_pos rfl]
      by_cases h : k = 0
      ·rw [if_pos h]; refine dw_seq ?_; refine dwk [(36, .v (.bool false))] TTM_ok hnt fun K hK => ?_; refine And.intro auF ?_; refine hK _ _ ?_; clear hK K; refine dw_seq ?_; refine dw_cond (t := false) rfl ?_; rw [if_neg (by simp)]; refine dw_exit ?_; refine dw_seq ?_; refine dw_seq ?_; refine dwk [(71, .v (.bool true))] TTM_ok hnt fun K hK => ?_; refine And.intro (beqT h) ?_; refine hK _ _ ?_; clear hK K
       refine dw_cond (t := true) rfl ?_; rw [if_pos rfl]; refine dwk [(75, .v (.int .i64 (i - ↑b.length)))] TTM_ok hnt fun K hK => ?_; refine And.intro auI ?_; refine hK _ _ ?_; clear hK K; refine dw_seq ?_; refine dwk [] TTM_ok hnt fun K hK => ?_; refine hK _ _ ?_; clear hK K; refine dw_ret ?_
       exact reta rfl
      ·rw [if_neg h]; refine dw_seq ?_; refine dwk [(36, .v (.bool false))] TTM_ok hnt fun K hK => ?_; refine And.intro auF ?_; refine hK _ _ ?_; clear hK K; refine dw_seq ?_; refine dw_cond (t := false) rfl ?_; rw [if_neg (by simp)]; refine dw_exit ?_; refine dw_seq ?_; refine dw_seq ?_; refine dwk [(71, .v (.bool false))] TTM_ok hnt fun K hK => ?_; refine And.intro (beqF h) ?_; refine hK _ _ ?_; clear hK K
       refine dw_cond (t := false) rfl ?_; rw [if_neg (by simp)]; refine dw_skip ?_; refine dw_seq ?_; refine dwk [] TTM_ok hnt fun K hK => ?_; refine hK _ _ ?_; clear hK K; refine dw_ret ?_
       exact reta rfl
 ·have hne : a ≠ Ty.etas b := fun e => hlen (by rw [e, Ty.etas_len])
  rw [longB_args (t := .mk b k i a) hne]
  simp only [bindsT, kindT, indexT, argsTm]
  refine calldw 0 78 [ResultVar.cell 2 31, ResultVar.tmp 3] TTM_ok Try.func171 rfl Try.ntmps171 rfl fun cx hnt hn0 => ?_
  ·skip
   refine dw_seq ?_; refine dwk [] TTM_ok hnt fun K hK => ?_; refine hK _ _ ?_; clear hK K; refine dw_seq ?_; refine dwk [(12, .v (.int .i64 (↑b.length)))] TTM_ok hnt fun K hK => ?_; refine And.intro (dintE (by rw [eTys_len])) ?_; refine hK _ _ ?_; clear hK K; refine dw_seq ?_; refine dwk [] TTM_ok hnt fun K hK => ?_; refine hK _ _ ?_; clear hK K; refine dw_seq ?_; refine dw_seq ?_; refine dwk [(17, .v (.int .i64 (↑a.length))), (19, .v (.bool true))] TTM_ok hnt fun K hK => ?_
   refine And.intro (dintE (by rw [eTms_len])) ?_; refine And.intro (bneT (by omega)) ?_; refine hK _ _ ?_; clear hK K; refine dw_cond (t := true) rfl ?_; rw [if_pos rfl]; refine dw_seq ?_; refine dwk [] TTM_ok hnt fun K hK => ?_; refine hK _ _ ?_; clear hK K; refine dw_ret ?_
   exact reta rfl
set_option maxHeartbeats 2000000 in
theorem rvar_d (t : Tm) (hz : t.full ≤ 100000) (hf : t.Fit) : PureC Try.prog 148 [.ag (eTm t)] (varV t) := by
 obtain ⟨b, k, i, a⟩ := t
 obtain ⟨f1, f2, f3⟩ := Tm.fit_iff.1 hf
 rw [Tm.full_eq] at hz
 have hbl := Ty.le_sizes b
 unfold varV
 by_cases hk : k = 0 ∧ i < (b.length : Int)
 ·have hlo : longB (.mk b k i a) = false := by
   rw [longB_mk, decide_eq_true hk.1, decide_eq_false (by omega : ¬ (b.length : Int) ≤ i)]; simp
  rw [hlo, eTm_eq]
  simp only [bindsT, kindT, indexT, argsTm]
  refine calldw 0 47 [ResultVar.cell 2 24, ResultVar.tmp 3] TTM_ok Try.func148 rfl Try.ntmps148 rfl fun cx hnt hn0 => ?_
  ·skip
   refine dw_seq ?_; refine dwk [] TTM_ok hnt fun K hK => ?_; refine hK _ _ ?_; clear hK K; refine dw_seq ?_; refine dwk [] TTM_ok hnt fun K hK => ?_; refine hK _ _ ?_; clear hK K; refine dw_seq ?_; refine dw_seq ?_; refine dwk [(10, .v (.bool true))] TTM_ok hnt fun K hK => ?_; refine And.intro (beqT hk.1) ?_; refine hK _ _ ?_; clear hK K; refine dw_cond (t := true) rfl ?_; rw [if_pos rfl]; refine dw_seq ?_
   refine dw_seq ?_; refine dwk [(15, .v (.int .i64 (↑b.length))), (16, .v (.bool true))] TTM_ok hnt fun K hK => ?_; refine And.intro (dintE (by rw [eTys_len])) ?_; refine And.intro auT ?_; refine hK _ _ ?_; clear hK K; refine dw_cond (t := true) rfl ?_; rw [if_pos rfl]; refine dw_seq ?_; refine dwk [] TTM_ok hnt fun K hK => ?_; refine hK _ _ ?_; clear hK K; refine dw_ret ?_
   exact reta rfl
 ·have hlo : longB (.mk b k i a) = decide (a = Ty.etas b) := by
   rw [longB_mk]
   by_cases h : k = 0
   ·rw [decide_eq_true (show (b.length : Int) ≤ i by omega)]; simp
   ·rw [decide_eq_false h]; simp
  have hhd : (Tm.mk b k i a).headIx = if k = 0 then i - (b.length : Nat) else i := rfl
  obtain ⟨h, hh⟩ : ∃ h, (if k = 0 then i - (b.length : Nat) else i) = h := ⟨_, rfl⟩
  have hE := reta6_d (.mk b 0) k h (by rw [ty_size]; omega) (fun e => by rw [argsTy]; rw [if_pos e] at hh; omega)
  have he : Ty.eta (.mk b 0) k h = .mk b k i (Ty.etas b) := by
   rw [Ty.eta_eq]
   congr 1
   by_cases e : k = 0
   ·rw [if_pos e] at hh ⊢; omega
   ·rw [if_neg e] at hh ⊢; omega
  have hS := same2_d (.mk b k i (Ty.etas b)) (.mk b k i a)
  have hd : decide (Tm.mk b k i (Ty.etas b) = .mk b k i a) = decide (a = Ty.etas b) := by
   rw [Bool.eq_iff_iff, decide_eq_true_iff, decide_eq_true_iff, Tm.mk.injEq]
   exact ⟨fun e => e.2.2.2.symm, fun e => ⟨rfl, rfl, rfl, e.symm⟩⟩
  rw [he, eTm_eq, eTy_eq] at hE
  rw [hd, eTm_eq, eTm_eq] at hS
  rw [hlo, hhd, hh, eTm_eq]
  simp only [bindsT, kindT, indexT, argsTm, args_mk', base_mk'] at hE hS ⊢
  refine calldw 0 47 [ResultVar.cell 2 24, ResultVar.tmp 3] TTM_ok Try.func148 rfl Try.ntmps148 rfl fun cx hnt hn0 => ?_
  ·skip
   refine dw_seq ?_; refine dwk [] TTM_ok hnt fun K hK => ?_; refine hK _ _ ?_; clear hK K; refine dw_seq ?_; refine dwk [] TTM_ok hnt fun K hK => ?_; refine hK _ _ ?_; clear hK K
   refine dw_cut (τ := [(.t 1, .p 0 0), (.t 2, .p 1 0), (.t 4, .p 5 0), (.c 0 0, .sl 2 (eTys b) none), (.c 0 1, .v (.int .i64 k)), (.c 0 2, .v (.int .i64 i)), (.c 0 3, .sl 4 (eTms a) none), (.c 1 0, .v (.int .i64 0)), (.c 1 1, .v (.int .i64 0)), (.c 5 0, .v (.int .i64 k)), (.c 5 1, .v (.int .i64 h))]) (N1 := 6) ?_ ?_
   ·by_cases e : k = 0
    ·rw [if_pos e] at hh; refine dw_seq ?_; refine dwk [(10, .v (.bool true))] TTM_ok hnt fun K hK => ?_; refine And.intro (beqT e) ?_; refine hK _ _ ?_; clear hK K; refine dw_cond (t := true) rfl ?_; rw [if_pos rfl]; refine dw_seq ?_; refine dw_seq ?_; refine dwk [(15, .v (.int .i64 (↑b.length))), (16, .v (.bool false))] TTM_ok hnt fun K hK => ?_; refine And.intro (dintE (by rw [eTys_len])) ?_; refine And.intro auF ?_
     refine hK _ _ ?_; clear hK K; refine dw_cond (t := false) rfl ?_; rw [if_neg (by simp)]; refine dw_skip ?_; refine dwk [(22, .v (.int .i64 (↑b.length))), (23, .v (.int .i64 (h)))] TTM_ok hnt fun K hK => ?_; refine And.intro (dintE (by rw [eTys_len])) ?_; refine And.intro auI ?_; refine hK _ _ ?_; clear hK K
     exact cut_ok VS.toA
    ·rw [if_neg e] at hh
     subst hh
     refine dw_seq ?_; refine dwk [(10, .v (.bool false))] TTM_ok hnt fun K hK => ?_; refine And.intro (beqF e) ?_; refine hK _ _ ?_; clear hK K; refine dw_cond (t := false) rfl ?_; rw [if_neg (by simp)]; refine dw_skip ?_
     exact cut_ok VS.toA
   ·skip
    refine dw_seq ?_; refine dwk [] TTM_ok hnt fun K hK => ?_; refine dcl (hE) ?_; refine hK _ _ ?_; clear hK K
    refine dw_cut (τ := [(.t 1, .p 0 0), (.t 2, .p 1 0), (.t 4, .p 5 0), (.t 5, .p 11 0), (.c 0 0, .sl 2 (eTys b) none), (.c 0 1, .v (.int .i64 k)), (.c 0 2, .v (.int .i64 i)), (.c 0 3, .sl 4 (eTms a) none), (.c 1 0, .v (.int .i64 0)), (.c 1 1, .v (.int .i64 0)), (.c 5 0, .v (.int .i64 k)), (.c 5 1, .v (.int .i64 h)), (.c 11 0, .sl 2 (eTys b) none), (.c 11 1, .v (.int .i64 k)), (.c 11 2, .v (.int .i64 i)), (.c 11 3, .sl 4 (eTms (Ty.etas b)) none)]) (N1 := 12) ?_ ?_
    ·by_cases e : k = 0
     ·by_cases e2 : 1000 < h
      ·skip
       refine dw_seq ?_; refine dwk [(32, .v (.bool true)), (36, .v (.bool true))] TTM_ok hnt fun K hK => ?_; refine And.intro (beqT e) ?_; refine And.intro auT ?_; refine hK _ _ ?_; clear hK K; refine dw_cond (t := true) rfl ?_; rw [if_pos rfl]; refine dwk [] TTM_ok hnt fun K hK => ?_; refine hK _ _ ?_; clear hK K
       exact cut_ok VS.toA
      ·skip
       refine dw_seq ?_; refine dwk [(32, .v (.bool true)), (36, .v (.bool false))] TTM_ok hnt fun K hK => ?_; refine And.intro (beqT e) ?_; refine And.intro auF ?_; refine hK _ _ ?_; clear hK K; refine dw_cond (t := false) rfl ?_; rw [if_neg (by simp)]; refine dw_skip ?_
       exact cut_ok VS.toA
     ·skip
      refine dw_seq ?_; refine dwk [(32, .v (.bool false))] TTM_ok hnt fun K hK => ?_; refine And.intro (beqF e) ?_; refine hK _ _ ?_; clear hK K; refine dw_cond (t := false) rfl ?_; rw [if_neg (by simp)]; refine dw_skip ?_
      exact cut_ok VS.toA
    ·cases hdd : decide (a = Ty.etas b) with
     | true =>
      rw [hdd] at hS
      rw [if_pos rfl, if_pos rfl]; refine dw_seq ?_; refine dw_seq ?_; refine dwk [] TTM_ok hnt fun K hK => ?_; refine dcl (hS) ?_; refine hK _ _ ?_; clear hK K; refine dw_cond (t := false) rfl ?_; rw [if_neg (by simp)]; refine dw_skip ?_; refine dw_seq ?_; refine dwk [] TTM_ok hnt fun K hK => ?_; refine hK _ _ ?_; clear hK K; refine dw_ret ?_
      exact reta rfl
     | false =>
      rw [hdd] at hS
      rw [if_neg (by simp), if_neg (by simp)]; refine dw_seq ?_; refine dw_seq ?_; refine dwk [] TTM_ok hnt fun K hK => ?_; refine dcl (hS) ?_; refine hK _ _ ?_; clear hK K; refine dw_cond (t := true) rfl ?_; rw [if_pos rfl]; refine dw_seq ?_; refine dwk [] TTM_ok hnt fun K hK => ?_; refine hK _ _ ?_; clear hK K; refine dw_ret ?_
      exact reta rfl
end Go.Proofs.Ytcblpjheoclkeaa

namespace Go.Proofs.Ytcblpjheoclkeaa
open Go.RowKit Go.Shelf
attribute [local go_sem] Oper.semAt_some

def looseStep (n : Int) (p : Nat × Nat × Tm) : Int := if p.2.2.kind = 0 ∧ (p.1 : Int) ≤ p.2.2.index then max n (min (IntKind.i64.wrap (p.2.2.index - p.1)) 1000 + 1) else n
def looseP (l : List (Nat × Nat × Tm)) : Int := l.foldl looseStep 0
theorem looseP_snoc (l : List (Nat × Nat × Tm)) (p : Nat × Nat × Tm) : looseP (l ++ [p]) = looseStep (looseP l) p := by simp [looseP]
theorem looseStep_range {n : Int} {p : Nat × Nat × Tm} (h : 0 ≤ n ∧ n ≤ 1001) : 0 ≤ looseStep n p ∧ looseStep n p ≤ 1001 := by
  unfold looseStep; split <;> omega
theorem looseP_range (l : List (Nat × Nat × Tm)) : 0 ≤ looseP l ∧ looseP l ≤ 1001 := by
  have : ∀ (l : List (Nat × Nat × Tm)) n, (0 ≤ n ∧ n ≤ 1001) → 0 ≤ l.foldl looseStep n ∧ l.foldl looseStep n ≤ 1001 := by
    intro l
    induction l with
    | nil => intro n h; exact h
    | cons p l ih => intro n h; exact ih _ (looseStep_range h)
  exact this l 0 (by omega)
def looseL (n x : Int) : Int := if (if x > 1000 then 1000 else x) + 1 > n then (if x > 1000 then 1000 else x) + 1 else n

theorem loose_pres_of {l : List Tm} (h : ∀ t ∈ l, ∀ s d n, t.Fit → (t.pre s d).foldl looseStep n = (t.looses s).foldl looseL n) : ∀ s d n, (∀ t ∈ l, t.Fit) → (Tm.pres l s d).foldl looseStep n = (Tm.loosess l s).foldl looseL n := by
  induction l with
  | nil => intro s d n _; simp [Tm.pres, Tm.loosess]
  | cons t l ih =>
    intro s d n hf
    rw [Tm.pres, Tm.loosess, List.foldl_append, List.foldl_append, h t (by simp) s d n (hf t (by simp)), ih (fun u hu => h u (by simp [hu])) s d _ (fun u hu => hf u (by simp [hu]))]
theorem loose_pre (t : Tm) : ∀ (s d : Nat) (n : Int), t.Fit → (t.pre s d).foldl looseStep n = (t.looses s).foldl looseL n := by
  induction t using Tm.ind with
  | h b k i a ih =>
    intro s d n hf
    obtain ⟨hi0, hi1, hfa⟩ := Tm.fit_iff.1 hf
    rw [Tm.pre_eq, Tm.looses_eq _ _ _ _ _ ((s + b.length : Nat) : Int) (by simp), List.foldl_cons, List.foldl_append]
    rw [loose_pres_of ih _ _ _ hfa]
    congr 1
    show (if k = 0 ∧ ((s + b.length : Nat) : Int) ≤ i then _ else _) = _
    by_cases h : k = 0 ∧ ((s + b.length : Nat) : Int) ≤ i
    · have hw : IntKind.i64.wrap (i - ((s + b.length : Nat) : Int)) = i - ((s + b.length : Nat) : Int) := IntWalk.i64_in _ (by omega)
      rw [if_pos h, if_pos h]
      show max n (min (IntKind.i64.wrap (i - ((s + b.length : Nat) : Int))) 1000 + 1) = _
      rw [hw]
      simp only [List.foldl_cons, List.foldl_nil, looseL]
      split <;> split <;> omega
    · rw [if_neg h, if_neg h]; rfl
theorem looseP_pre (t : Tm) (hf : t.Fit) : looseP (t.pre 0 1) = (t.looses 0).foldl looseL 0 := loose_pre t 0 1 0 hf
set_option maxRecDepth 100000 in
set_option maxHeartbeats 2000000 in
theorem loose6_k {F : Nat → Prop} {w : World} {b k i a : Value} {t : Tm} (ht : IsTm F w b k i a t) (hsz : t.full ≤ 500000) (hfit : t.Fit) : Calls Try.prog 91 #[.agg #[b, k, i, a]] w (RetI ((t.looses 0).foldl looseL 0) w) := by
  refine (callsIn_wide (n := 9)).1 ?_
  have Ht := Lib.hid (ht.weaken (F' := fun _ => True) fun _ _ _ => trivial)
  obtain ⟨pa, pc, qa, qc, rfl, rfl, rfl, rfl⟩ := ht.shape
  clear ht
  obtain ⟨x1, hx1⟩ : ∃ x, t.binds.length = x := ⟨_, rfl⟩
  obtain ⟨x2, hx2⟩ : ∃ x, t.args.length = x := ⟨_, rfl⟩
  obtain ⟨x3, hx3⟩ : ∃ x, t.kind = x := ⟨_, rfl⟩
  obtain ⟨x4, hx4⟩ : ∃ x, t.index = x := ⟨_, rfl⟩
  rw [hx1, hx2, hx3, hx4] at Ht ⊢
  clear hx1 hx2 hx3 hx4
  refine callsIn_of_wp_marks Try.func91 rfl trivial ?_ rfl
  simp only [Try.ntmps91, List.size_toArray, List.length_cons, List.length_nil, Nat.reduceAdd, Nat.reduceSub, Array.replicate_succ, Array.replicate_zero, List.push_toArray, List.append_toArray, List.nil_append, List.cons_append]
  gi_wp2_with fail
  refine ⟨trivial, (each6_k _ _ _ _ _ _ ⟨_, _, _, rfl⟩ ⟨_, rfl⟩ ⟨_, rfl⟩ ⟨_, _, _, rfl⟩).mono ?_⟩
  rintro e w' ⟨rfl, rfl⟩
  gi_wp2_with fail
  have hsz' := Lib.hid hsz
  have Hfit := Lib.hid hfit; clear hfit
  have hfl := Tm.size_le_full t
  obtain ⟨w5, hw5⟩ : ∃ w5, ((w.alloc (.cells #[.slice pa x1 pc, .int .i64 x3, .int .i64 x4, .slice qa x2 qc] 34)).alloc (.cells #[.int .i64 0] 3)).alloc (.cells #[.slice pa x1 pc, .int .i64 x3, .int .i64 x4, .slice qa x2 qc] 34) = w5 := ⟨_, rfl⟩
  have hB0 : Below w.heap.size w w5 := by rw [← hw5]; exact (((Below.refl _ w).alloc (Nat.le_refl _) _).alloc (by simp) _).alloc (by simp; omega) _
  have hz : w5.heap.size = w.heap.size + 3 := by rw [← hw5]; simp
  have y2 : Blk w5 (w.heap.size + 1) #[.int .i64 0] 3 := by rw [← hw5]; exact (Blk.new _ _ _ (by simp)).alloc _
  have y3 : Blk w5 (w.heap.size + 1 + 1) #[.slice pa x1 pc, .int .i64 x3, .int .i64 x4, .slice qa x2 qc] 34 := by rw [← hw5]; exact Blk.new _ _ _ (by simp)
  rw [hw5]
  clear hw5
  refine range_softA (Ok := SpotOk) (fun o h => .inl h) rfl (by omega) (gf := 101) (lb := #[.pointer (some ⟨w.heap.size + 1 + 1, 0, none⟩)]) rfl trivial (enters_of Try.func101 (by kernel_rfl) rfl)
    (each6_soft (But w.heap.size (w.heap.size + 2)) (fun k _ _ hk => .inl hk) Ht.out (Nat.le_trans hsz (by decide)) (9 - 1) w5 (fun k _ hk _ => .inr (by omega)) ((Keep.refl _ _).below hB0) (w.heap.size + 1 + 1) y3)
    (fun h h' => h.trans h') (fun W l o o' _ hl ho _ => KeepC.putObj _ W l o o' hl ho) (Below.refl _ _) (fun _ => rfl)
    (fun pre W => Blk W (w.heap.size + 1) #[.int .i64 (looseP (pre.map Hit6.key))] 3 ∧ Below w.heap.size w W)
    (fun _ _ _ => False)
    (Mild.and (mild_blk (by decide) (fun (pre : List (Hit6 (fun _ => True) w)) => #[.int .i64 (looseP (pre.map Hit6.key))])) (mild_below (Nat.le_refl _) (by omega)))
    (fun _ _ _ _ _ hs _ _ => hs)
    ⟨y2, hB0⟩
    (fun x a' W => ∃ Bs Bx, (w.heap.size + 1 < Bs ∧ w.heap.size + 1 < Bx) ∧ Blk W Bs #[.int .i64 x.s, .int .i64 x.d] 131 ∧ Blk W Bx #[.slice x.pb x.t.binds.length x.cb, .int .i64 x.t.kind, .int .i64 x.t.index, .slice x.pa x.t.args.length x.ca] 34 ∧ a' = { tmps := #[.agg #[.slice pa x1 pc, .int .i64 x3, .int .i64 x4, .slice qa x2 qc], .pointer (some ⟨w.heap.size, 0, none⟩), .int .i64 0, .pointer (some ⟨w.heap.size + 1, 0, none⟩), .pointer (some ⟨Bs, 0, none⟩), .pointer (some ⟨Bx, 0, none⟩), .agg #[.slice pa x1 pc, .int .i64 x3, .int .i64 x4, .slice qa x2 qc], .func (.func 101) #[] #[.pointer (some ⟨w.heap.size + 1 + 1, 0, none⟩)], .agg #[.int .i64 x.s, .int .i64 x.d], .agg #[.slice x.pb x.t.binds.length x.cb, .int .i64 x.t.kind, .int .i64 x.t.index, .slice x.pa x.t.args.length x.ca], undef, undef, undef, undef, undef, undef, undef, undef, undef, undef, undef, undef, undef, undef, undef, undef, undef, undef, undef, undef, undef, undef, undef], defers := [] })
    (fun x a' W l o o' hl ho hoc => by
      rintro ⟨Bs, Bx, h1, h2, h3, h4⟩
      have key : ∀ {B : Nat} {cs : Array Value} {T : TypeId}, Blk W B cs T → Blk (W.putObj l o') B cs T := fun {B cs T} h => by
        have hne : l ≠ B := fun e => by
          subst e
          have hb : W.heap[l]? = _ := h
          rw [hb] at ho; cases ho; simp [Obj.isCells] at hoc
        exact (World.putObj_heap_other (Ne.symm hne)).trans h
      exact ⟨Bs, Bx, h1, key h2, key h3, h4⟩) ?assign ?body ?done ?stop
  case assign =>
    rintro l pre x W K ⟨z2, hB⟩ hK
    have HK := Lib.hid hK; clear hK
    simp only [Hit6.enc] at *
    gi_wp2
    have hs := hB.size
    have hlt := z2.lt
    exact HK.out _ _ (((KeepsOthers.alloc _ _).trans (KeepsOthers.alloc _ _)).from _) (((KeepC.refl _ W).alloc _).alloc _) ⟨(z2.alloc _).alloc _, (hB.alloc hs _).alloc (by simp; omega) _⟩ ⟨W.heap.size, W.heap.size + 1, ⟨by omega, by omega⟩, (Blk.new _ _ _ rfl).alloc _, Blk.new _ _ _ (by simp), rfl⟩
  case body =>
    rintro l pre x a' W ⟨z2, hB⟩ hlt ⟨Bs, Bx, hBB, bS, bX, rfl⟩
    have hr := looseP_range (pre.map Hit6.key)
    have Hst := Lib.hid (looseP_snoc (pre.map Hit6.key) x.key)
    obtain ⟨n, hn⟩ : ∃ n, looseP (pre.map Hit6.key) = n := ⟨_, rfl⟩
    rw [hn] at z2 hr Hst
    clear hn
    have c2 : W.cell? ⟨w.heap.size + 1, 0, none⟩ = some (.int .i64 n) := z2.cell rfl
    have f2 := z2.free 0
    have cs0 : W.cell? ⟨Bs, 0, none⟩ = some (.int .i64 x.s) := bS.cell rfl
    have cx1 : W.cell? ⟨Bx, 1, none⟩ = some (.int .i64 x.t.kind) := bX.cell rfl
    have cx2 : W.cell? ⟨Bx, 2, none⟩ = some (.int .i64 x.t.index) := bX.cell rfl
    obtain ⟨kk, hkk⟩ : ∃ k, x.t.kind = k := ⟨_, rfl⟩
    obtain ⟨ii, hii⟩ : ∃ k, x.t.index = k := ⟨_, rfl⟩
    have Hk := Lib.hid hkk; have Hi := Lib.hid hii
    rw [hkk] at cx1 ⊢
    rw [hii] at cx2 ⊢
    clear hkk hii
    have hlen : (pre ++ [x]).map Hit6.key = pre.map Hit6.key ++ [x.key] := by simp
    by_cases hk : kk = 0 ∧ (x.s : Int) ≤ ii
    · obtain ⟨rfl, hi⟩ := hk
      obtain ⟨q, hq⟩ : ∃ q, IntKind.i64.wrap (ii - (x.s : Int)) = q := ⟨_, rfl⟩
      have Hq := Lib.hid hq
      have hqr : -9223372036854775808 ≤ q ∧ q ≤ 9223372036854775807 := by
        have h : (Lit.int .i64 (wrap64 (ii - (x.s : Int)))).wf = true := wrap64_wf _
        have h2 : IntKind.i64.min ≤ wrap64 (ii - (x.s : Int)) ∧ wrap64 (ii - (x.s : Int)) ≤ 9223372036854775807 := by simpa [Lit.wf] using h
        have h3 : IntKind.i64.min = -9223372036854775808 := by rfl
        have h4 : wrap64 (ii - (x.s : Int)) = q := by rw [← IntWalk.i64_left]; exact hq
        omega
      have hq2 : IntKind.i64.wrap (min q 1000 + 1) = min q 1000 + 1 := IntWalk.i64_in _ (by omega)
      have Hn : Hid (looseP (pre.map Hit6.key ++ [x.key]) = max n (min q 1000 + 1)) := by
        show _ = _
        rw [Hst.out, looseStep, if_pos ⟨Hk.out, by rw [Hit6.key]; simp only []; rw [Hi.out]; exact hi⟩]
        show max n (min (IntKind.i64.wrap (x.t.index - x.s)) 1000 + 1) = _
        rw [Hi.out, Hq.out]
      gi_wp2
      all_goals
        refine ⟨(KeepsOthers.setCell _ _ _).from _, (KeepC.refl _ W).setCell _ _ (by simp [But]), ?_, hB.setCell (p := ⟨w.heap.size + 1, 0, none⟩) (by simp) _⟩
        rw [hlen, Hn.out]
        first
          | exact z2.set 0 _
          | (rw [show max n (min q 1000 + 1) = 1001 by omega]; exact z2.set 0 _)
          | (rw [show max n (min q 1000 + 1) = n by omega]; exact z2.set 0 _)
          | (rw [show max n (min q 1000 + 1) = q + 1 by omega]; exact z2.set 0 _)
    · have Hn : Hid (looseP (pre.map Hit6.key ++ [x.key]) = n) := by
        show _ = _
        rw [Hst.out, looseStep, if_neg]
        rintro ⟨h1, h2⟩
        exact hk ⟨Hk.out.symm.trans h1, by have h3 : (x.s : Int) ≤ x.t.index := h2; rw [Hi.out] at h3; exact h3⟩
      have fin : ∀ (W' : World) (n0 : Nat), W' = W → KeepsFrom n0 W W' ∧ KeepC (But w.heap.size (w.heap.size + 2)) W W' ∧ (Blk W' (w.heap.size + 1) #[.int .i64 (looseP ((pre ++ [x]).map Hit6.key))] 3 ∧ Below w.heap.size w W') := by
        rintro W' n0 rfl
        refine ⟨(KeepsOthers.refl _).from _, KeepC.refl _ _, ?_, hB⟩
        rw [hlen, Hn.out]; exact z2
      have Fin := Lib.hid fin; clear fin
      by_cases hk0 : kk = 0
      · subst hk0
        have hi' : ¬ (x.s : Int) ≤ ii := fun h => hk ⟨rfl, h⟩
        have hi2 : ii < (x.s : Int) := by omega
        gi_wp2
        exact Fin.out _ _ rfl
      · have g0 : (kk == 0) = false := by simpa using hk0
        gi_wp2
        exact Fin.out _ _ rfl
  case done =>
    rintro D ys W hD hys ⟨z2, hB⟩ hK
    have Hys := Lib.hid hys; clear hys
    have hl := looseP_pre t Hfit.out
    rw [← Hys.out] at hl
    obtain ⟨n, hn⟩ : ∃ n, looseP (ys.map Hit6.key) = n := ⟨_, rfl⟩
    rw [hn] at z2 hl
    have Hl := Lib.hid hl
    clear hl hn
    have c2 : W.cell? ⟨w.heap.size + 1, 0, none⟩ = some (.int .i64 n) := z2.cell rfl
    gi_wp2
    refine ⟨by simp, .inl ⟨_, _, rfl, run_takeDeferred hK, ?_⟩⟩
    exact ⟨_, results_tmp rfl _ _ _, by rw [← Hl.out]; rfl, hB.trans (belowK_b (w := w) (Nat.le_refl _) W D _ _ (by omega) hK rfl rfl)⟩
  case stop =>
    rintro D c pre W _ _ h _
    exact h.elim
end Go.Proofs.Ytcblpjheoclkeaa

namespace Go.Proofs.Ytcblpjheoclkeaa
open Go.RowKit
def TP1_3 : TI := ⟨1, false, [Value.int IntKind.i64 0], [], none, 8, 2, none, false⟩
theorem TP1_3_ok : TypOk Try.prog 3 TP1_3 := ⟨by kernel_rfl, by kernel_rfl, by kernel_rfl, by kernel_rfl, by kernel_rfl⟩
def TP1_43 : TI := ⟨1, false, [Value.slice none 0 0], [], some 3, 24, 5, none, false⟩
theorem TP1_43_ok : TypOk Try.prog 43 TP1_43 := ⟨by kernel_rfl, by kernel_rfl, by kernel_rfl, by kernel_rfl, by kernel_rfl⟩
def TP1_34 : TI := ⟨4, true, [Value.slice none 0 0, Value.int IntKind.i64 0, Value.int IntKind.i64 0, Value.slice none 0 0], [(0, 1, false), (1, 2, true), (3, 1, false)], none, 64, 6, none, false⟩
theorem TP1_34_ok : TypOk Try.prog 34 TP1_34 := ⟨by kernel_rfl, by kernel_rfl, by kernel_rfl, by kernel_rfl, by kernel_rfl⟩
def TP1_30 : TI := ⟨1, false, [Value.slice none 0 0], [], some 83, 24, 5, none, false⟩
theorem TP1_30_ok : TypOk Try.prog 30 TP1_30 := ⟨by kernel_rfl, by kernel_rfl, by kernel_rfl, by kernel_rfl, by kernel_rfl⟩
def TP1_31 : TI := ⟨2, true, [Value.int IntKind.i64 0, Value.int IntKind.i64 0], [(0, 1, false), (1, 1, false)], none, 16, 6, none, true⟩
theorem TP1_31_ok : TypOk Try.prog 31 TP1_31 := ⟨by kernel_rfl, by kernel_rfl, by kernel_rfl, by kernel_rfl, by kernel_rfl⟩
def TP1_192 : TI := ⟨1, false, [Value.slice none 0 0], [], some 30, 24, 5, none, false⟩
theorem TP1_192_ok : TypOk Try.prog 192 TP1_192 := ⟨by kernel_rfl, by kernel_rfl, by kernel_rfl, by kernel_rfl, by kernel_rfl⟩
def TP1_267 : TI := ⟨1, false, [Value.map none], [], none, 8, 7, some 4, false⟩
theorem TP1_267_ok : TypOk Try.prog 267 TP1_267 := ⟨by kernel_rfl, by kernel_rfl, by kernel_rfl, by kernel_rfl, by kernel_rfl⟩
def TP1_32 : TI := ⟨1, false, [Value.slice none 0 0], [], some 34, 24, 5, none, false⟩
theorem TP1_32_ok : TypOk Try.prog 32 TP1_32 := ⟨by kernel_rfl, by kernel_rfl, by kernel_rfl, by kernel_rfl, by kernel_rfl⟩
def TP1_270 : TI := ⟨1, false, [Value.map none], [], none, 8, 7, some 3, false⟩
theorem TP1_270_ok : TypOk Try.prog 270 TP1_270 := ⟨by kernel_rfl, by kernel_rfl, by kernel_rfl, by kernel_rfl, by kernel_rfl⟩
def TP1_83 : TI := ⟨2, true, [Value.slice none 0 0, Value.int IntKind.i64 0], [(0, 1, false), (1, 1, false)], none, 32, 6, none, false⟩
theorem TP1_83_ok : TypOk Try.prog 83 TP1_83 := ⟨by kernel_rfl, by kernel_rfl, by kernel_rfl, by kernel_rfl, by kernel_rfl⟩
def TP1_4 : TI := ⟨1, false, [Value.bool false], [], none, 1, 1, none, false⟩
theorem TP1_4_ok : TypOk Try.prog 4 TP1_4 := ⟨by kernel_rfl, by kernel_rfl, by kernel_rfl, by kernel_rfl, by kernel_rfl⟩
def TP1 : List (Nat × TI) := [(3, TP1_3), (43, TP1_43), (34, TP1_34), (30, TP1_30), (31, TP1_31), (192, TP1_192), (267, TP1_267), (32, TP1_32), (270, TP1_270), (83, TP1_83), (4, TP1_4)]
theorem TP1_ok : TabOk Try.prog TP1 := ((((((((((((TabOk.nil _).cons TP1_4_ok).cons TP1_83_ok).cons TP1_270_ok).cons TP1_32_ok).cons TP1_267_ok).cons TP1_192_ok).cons TP1_31_ok).cons TP1_30_ok).cons TP1_34_ok).cons TP1_43_ok).cons TP1_3_ok)

/-! ints -/
def eIs (l : List Int) : List (List D) := l.map fun i => [.v (.int .i64 i)]
theorem eIs_len (l : List Int) : (eIs l).length = l.length := List.length_map ..
theorem eIs_append (l r : List Int) : eIs (l ++ r) = eIs l ++ eIs r := List.map_append ..
theorem eIs_getD (l : List Int) (i : Nat) (h : i < l.length) : (eIs l).getD i [] = [.v (.int .i64 l[i])] := by
  rw [eIs, List.getD_eq_getElem?_getD, List.getElem?_map, List.getElem?_eq_getElem h]; rfl
@[simp] theorem eIs_ok (f g : Nat → Bool) (l : List Int) : D.okss f g (eIs l) = true := D.okss_map _ l fun _ _ => rfl
/-! what was proved before -/
theorem looseL_pos {l : List Int} (h : ∀ x ∈ l, 0 ≤ x) : 0 < l.foldl looseL 0 ↔ l ≠ [] := by
  have key : ∀ (l : List Int) (n : Int), (∀ x ∈ l, 0 ≤ x) → 0 ≤ n → n ≤ l.foldl looseL n ∧ (l ≠ [] → 0 < l.foldl looseL n) := by
    intro l
    induction l with
    | nil => intro n _ hn; exact ⟨Int.le_refl _, fun h => absurd rfl h⟩
    | cons x l ih =>
      intro n hx hn
      have hx0 := hx x (by simp)
      have h1 : n ≤ looseL n x ∧ 0 < looseL n x := by
        unfold looseL
        split <;> split <;> omega
      have := ih (looseL n x) (fun y hy => hx y (by simp [hy])) (by omega)
      simp only [List.foldl_cons]
      exact ⟨by omega, fun _ => by omega⟩
  by_cases he : l = []
  · subst he; simp
  · have := (key l 0 h (Int.le_refl _)).2 he
    simp [he, this]
theorem loose_d (t : Tm) (hz : t.full ≤ 500000) (hf : t.Fit) : PureC Try.prog 91 [.ag (eTm t)] (.v (.int .i64 ((t.looses 0).foldl looseL 0))) := by
  refine pure_below (by kernel_rfl) fun m Im w vs hv => ?_
  match vs, hv with
  | [x], hv =>
    obtain ⟨b, k, i, a, rfl, ht⟩ := agTm hv.1
    refine (loose6_k ht hz hf).mono ?_
    rintro e w' ⟨rfl, hb⟩
    exact ⟨_, rfl, hb, fun _ _ _ => .v _⟩

/-! slices.Clip, Clone, Concat -/
theorem clip_d (l : List Int) : PureC Try.prog 121 [.sl 1 (eIs l) none] (.cl 1 (eIs l)) := by
 refine calldw 0 9 [ResultVar.tmp 2] TP1_ok Try.func121 rfl Try.ntmps121 rfl fun cx hnt hn0 => ?_
 ·skip
  refine dw_seq ?_; refine dwk [] TP1_ok hnt fun K hK => ?_; refine hK _ _ ?_; clear hK K; refine dw_seq ?_; refine dwk [(8, .cl 1 (eIs l))] TP1_ok hnt fun K hK => ?_; refine And.intro (⟨by omega, rfl, by omega⟩) ?_; refine And.intro (VLe.of_eq (by simp)) ?_; refine hK _ _ ?_; clear hK K; refine dw_ret ?_
  exact reta rfl
theorem clone_nil (a : Option Addr) (c : Nat) : PureC Try.prog 120 [.v (.slice a 0 c)] (.sl 1 [] none) := by
 refine calldw 0 8 [ResultVar.tmp 2] TP1_ok Try.func120 rfl Try.ntmps120 rfl fun cx hnt hn0 => ?_
 ·skip
  refine dw_seq ?_; refine dwk [] TP1_ok hnt fun K hK => ?_; refine hK _ _ ?_; clear hK K
  cases a with
  | none =>
   refine dw_seq ?_; refine dw_seq ?_; refine dwk [(4, .v (.bool true))] TP1_ok hnt fun K hK => ?_; refine And.intro (VLe.refl _) ?_; refine hK _ _ ?_; clear hK K; refine dw_cond (t := true) rfl ?_; rw [if_pos rfl]; refine dw_seq ?_; refine dwk [] TP1_ok hnt fun K hK => ?_; refine hK _ _ ?_; clear hK K; refine dw_ret ?_
   exact reta rfl
  | some a =>
   refine dw_seq ?_; refine dw_seq ?_; refine dwk [(4, .v (.bool false))] TP1_ok hnt fun K hK => ?_; refine And.intro (VLe.refl _) ?_; refine hK _ _ ?_; clear hK K; refine dw_cond (t := false) rfl ?_; rw [if_neg (by simp)]; refine dw_skip ?_; refine dw_seq ?_; refine dwk [] TP1_ok hnt fun K hK => ?_; refine And.intro (⟨rfl, by decide⟩) ?_; refine hK _ _ ?_; clear hK K; refine dw_ret ?_
   exact reta rfl
theorem clone_cons (x : Int) (l : List Int) (hl : l.length ≤ 900000) : PureC Try.prog 120 [.sl 1 (eIs (x :: l)) none] (.sl 1 (eIs (x :: l)) none) := by
 refine calldw 0 8 [ResultVar.tmp 2] TP1_ok Try.func120 rfl Try.ntmps120 rfl fun cx hnt hn0 => ?_
 ·skip
  refine dw_seq ?_; refine dwk [] TP1_ok hnt fun K hK => ?_; refine hK _ _ ?_; clear hK K; refine dw_seq ?_; refine dw_seq ?_; refine dwk [(4, .v (.bool false))] TP1_ok hnt fun K hK => ?_; refine And.intro (VLe.refl _) ?_; refine hK _ _ ?_; clear hK K; refine dw_cond (t := false) rfl ?_; rw [if_neg (by simp)]; refine dw_skip ?_; refine dw_seq ?_; refine dwk [] TP1_ok hnt fun K hK => ?_; refine And.intro (⟨rfl, by simp [eIs_len]; omega⟩) ?_
  refine hK _ _ ?_; clear hK K; refine dw_ret ?_
  exact reta rfl
theorem clone_d (l : List Int) (hl : l.length ≤ 900000) : PureC Try.prog 120 [.sl 1 (eIs l) none] (.sl 1 (eIs l) none) := by
  cases l with
  | cons x l => exact clone_cons x l (by simp at hl; omega)
  | nil =>
    refine ⟨by kernel_rfl, fun cx Fr m Im w vs hm hv hR => ?_⟩
    match vs, hv with
    | [v], hv =>
      obtain ⟨a, c, bl, off, X, rfl, _⟩ := rel_sl hv.1
      exact (clone_nil a c).2 cx Fr m Im w _ hm ⟨.v _, trivial⟩ hR
end Go.Proofs.Ytcblpjheoclkeaa

namespace Go.Proofs.Ytcblpjheoclkeaa
open Go.RowKit

theorem cut_none (m : Mp) : (m.cut (fun _ => false) noR).le m00 := ⟨fun k b h => by simp [Mp.cut] at h, fun g R h => by simp [Mp.cut, noR] at h, fun k b h => by simp [Mp.cut] at h⟩
theorem entry0 {cx : Cx} {Fr : Nat → Prop} {m : Mp} {Im : Nat → Nat → Prop} {w : World} {vs : List Value} {args : List D} (hm : MemOk cx Fr m Im w) (hr : RelL m Im w vs args) (ha : args.all (fun d => d.ok (fun _ => false) noR) = true) (nt : Nat) (hnt : args.length ≤ nt) {n : Nat} (hn : n = nt) :
    ∃ cx' : Cx, cx'.nt = nt ∧ cx'.n0 = 0 ∧ cx'.w0 = w ∧ (∀ b, ¬ cx'.C b) ∧ cx'.Im0 = Im ∧ St cx' (fun k => 0 ≤ k) m00 Im w { tmps := vs.toArray ++ Array.replicate (n - vs.toArray.size) undef, defers := [] } (argsT 0 args []) := by
  subst hn
  have hvl : vs.length = args.length := (relL_iff.1 hr).1
  refine ⟨{ w0 := w, C := fun _ => False, Im0 := Im, m0 := m00, nt := n, n0 := 0, h0 := (fun k b hk => by cases hk), h0o := (fun k b hk => by cases hk) }, rfl, rfl, rfl, fun _ h => h, rfl, ?_⟩
  refine ⟨{
    off := Off.refl _ _, im := hm.im, imb := fun b o h => .inl h, im0 := fun b o h => h
    own := fun k b hk => by cases hk
    lt := fun k b hk => by cases hk
    free := fun k b o hk => by cases hk
    nim := fun k b o hk => by cases hk
    inj := fun k k' b hk => by cases hk
    row := fun g R hg => by cases hg
    k0 := KeepI.refl _ _
    rown := fun g R b hg => by cases hg
    m0r := fun g R hg => by cases hg
    rIm := fun g R b o hg => by cases hg
    rblk := fun g R b k hg => by cases hg
    rinj := fun g g' R R' b hg => by cases hg
    fr := fun k hk => ⟨rfl, rfl, rfl⟩
    m0 := fun k b hk => by cases hk
    m0o := fun k b hk => by cases hk
    oown := fun k b hk => by cases hk
    olt := fun k b hk => by cases hk
    onim := fun k b o hk => by cases hk
    oinj := fun k k' b hk => by cases hk
    oblk := fun k k' b hk => by cases hk
    orow := fun k g R b hk => by cases hk
    dis := fun k b hk => by cases hk }, rfl, by simp [hvl]; omega, fun x d hx => ?_, fun k off d hx => ?_, fun g d hx => ?_, fun d hx => ?_, fun k d hx => ?_⟩
  · rcases get_argsT args 0 x hx with ⟨j, h1, h2⟩ | hx
    · have hj : j < args.length := by
        rcases Nat.lt_or_ge j args.length with h' | h'
        · exact h'
        · rw [List.getElem?_eq_none h'] at h2; cases h2
      rw [List.getElem?_eq_getElem hj] at h2
      cases h2
      have hr := (relL_iff.1 hr).2 j hj
      have hx' : x = j := by omega
      subst hx'
      have : (vs.toArray ++ Array.replicate (n - vs.toArray.size) undef).getD x undef = vs.getD x undef := by
        have hx2 : x < vs.length := by omega
        rw [Array.getD_eq_getD_getElem?, Array.getElem?_append_left (by simpa using hx2), List.getD_eq_getElem?_getD]
        simp
      show Rel _ _ _ ((vs.toArray ++ Array.replicate (n - vs.toArray.size) undef).getD x undef) _
      rw [this]
      exact (hr.cut (List.all_eq_true.1 ha _ (List.getElem_mem hj))).mono (cut_none m) (KeepI.refl _ _) fun _ _ h => h
    · cases hx
  · rw [get_argsN (fun x => by simp) args 0] at hx; cases hx
  · rw [get_argsN (fun x => by simp) args 0] at hx; cases hx
  · rw [get_argsN (fun x => by simp) args 0] at hx; cases hx
  · rw [get_argsN (fun x => by simp) args 0] at hx; cases hx
def eMp (l : List (Int × Value)) : List (Int × D) := l.map fun p => (p.1, .v p.2)
theorem callMap_of_dw {P : Program} {T : List (Nat × TI)} {f : FuncId} {fn : Func} {c : Code} {args : List D} {l : List (Int × Value)} {x : Value} (nt : Nat) (rs : List ResultVar) (hT : TabOk P T) (hen : entersB P f = true) (hf : P.funcs[f]? = some fn) (hb : fn.body = some c) (hnt : fn.ntmps = nt) (hrs : fn.results.toList = rs)
    (hal : args.length ≤ nt) (ha : args.all (fun d => d.ok (fun _ => false) noR) = true)
    (h : ∀ cx : Cx, cx.nt = nt → cx.n0 = 0 → DW P cx c (argsT 0 args []) 0 (fun e σ _ => (e = .normal ∨ e = .ret) ∧ ∃ k, resD T σ rs = some (.tu [.mo k, .v x]) ∧ get σ (.o k) = some (.mp (eMp l)))) (nm : Nat) :
    CallN P f args [] nm [(.o nm, .mp (eMp l))] (.tu [.mo nm, .v x]) := by
  refine ⟨hen, fun cx Fr m Im w a σ vs hnm hs hargs _ => ?_⟩
  refine calls_of_wp hf hb ?_
  obtain ⟨cx', c1, c2, c3, c4, c5, hst⟩ := entry0 hs.mem hargs ha nt hal hnt
  refine Code.wp_mono (fun e a' w' ⟨σ', N', m', Im', ⟨hq1, k, hq2, hq3⟩, hs'⟩ => ?_) (h cx' c1 c2 _ Im w _ hst)
  obtain ⟨v, r1, r2⟩ := resD_run (P := P) (fn := fn) hT hs' (by rw [hrs]; exact hq2)
  have hbl : Below w.heap.size w w' := by
    have ho := hs'.mem.off
    rw [c3] at ho
    exact ⟨ho.os, ho.tape, ho.output, ho.size, fun b hb => ho.block b hb (c4 b)⟩
  obtain ⟨b, hb1, hb2⟩ := hs'.ok k _ hq3
  have hbB : w.heap.size ≤ b := by
    rcases hs'.mem.oown k b hb1 with h1 | h1
    · exact absurd h1 (c4 b)
    · rw [c3] at h1; exact h1
  have hOb : ∀ m', ObOk m' Im w' b (.mp (eMp l)) := fun m2 => by
    cases hb2 with
    | mp es clock l' h1 h2 h3 h4 hbn =>
      refine .mp es clock _ h1 h2 h3 (fun i hi v hv => ?_) hbn
      have h5 := h4 i hi v hv
      have e : (eMp l)[i].2 = .v (l[i]'(by simpa [eMp] using hi)).2 := by simp [eMp]
      rw [e] at h5 ⊢
      have := rel_v.1 h5; subst this
      exact .v _
  obtain ⟨s1, s2⟩ := hs.newObjB hnm hbl hbB (hs'.mem.olt k b hb1) hOb
  have hfin : ∃ v' m2 Im2, Ending.returned v = .returned v' ∧ St cx (minus Fr nm) m2 Im2 w' a (puts (dropT [] σ) [(.o nm, .mp (eMp l))]) ∧ Rel m2 Im2 w' v' (.tu [.mo nm, .v x]) := by
    rw [dropT_nil]
    refine ⟨v, _, Im, rfl, s1, ?_⟩
    obtain ⟨cs, rfl, hc⟩ := rel_tu.1 r2
    match cs, hc with
    | [u, y], hc =>
      have hy := rel_v.1 hc.2.1; subst hy
      cases hc.1 with
      | mo _ b' hb' =>
        rw [hb1] at hb'; cases hb'
        exact rel_tu.2 ⟨_, rfl, .mo nm b (by simp [Mp.setO]), .v _, trivial⟩
  rcases hq1 with rfl | rfl
  · exact ⟨hs'.df, v, r1, hfin⟩
  · exact ⟨hs'.df, v, r1, hfin⟩
end Go.Proofs.Ytcblpjheoclkeaa

namespace Go.Proofs.Ytcblpjheoclkeaa
open Go.RowKit

theorem full_mem {l : List Tm} {t : Tm} (h : t ∈ l) : t.full ≤ Tm.fulls l := by
  induction l with
  | nil => cases h
  | cons u l ih =>
    simp only [Tm.fulls]
    rcases List.mem_cons.1 h with rfl | h
    · omega
    · have := ih h; omega
theorem fulls_len (l : List Tm) : l.length ≤ Tm.fulls l := by
  induction l with
  | nil => simp
  | cons u l ih => have : 1 ≤ u.full := by obtain ⟨b, k, i, a⟩ := u; rw [Tm.full_eq]; omega
                   simp only [Tm.fulls, List.length_cons]; omega
theorem full_args (t : Tm) : t.full = Ty.sizes t.binds + Tm.fulls t.args + 1 := by obtain ⟨b, k, i, a⟩ := t; exact Tm.full_eq ..
theorem fit_args {t : Tm} (h : t.Fit) : ∀ u ∈ t.args, u.Fit := by obtain ⟨b, k, i, a⟩ := t; exact (Tm.fit_iff.1 h).2.2

theorem pflex_d (t : Tm) : PureC Try.prog 112 [.ag (eTm t)] (.v (.bool (decide (t.kind = 2)))) := by
 rw [eTm_eq]
 refine calldw 0 7 [ResultVar.tmp 2] TP1_ok Try.func112 rfl Try.ntmps112 rfl fun cx hnt hn0 => ?_
 ·skip
  refine dw_seq ?_; refine dwk [] TP1_ok hnt fun K hK => ?_; refine hK _ _ ?_; clear hK K; refine dw_seq ?_; refine dwk [(6, .v (.bool (decide (t.kind = 2))))] TP1_ok hnt fun K hK => ?_; refine And.intro (VLe.refl _) ?_; refine hK _ _ ?_; clear hK K; refine dw_ret ?_
  exact reta rfl

namespace Pn
theorem varsL_snoc (n : Int) : ∀ (l : List Tm) (a : Tm) (acc : List Int), varsL n (l ++ [a]) acc = (varsL n l acc).bind fun r => if isVar n r a then some (r ++ [a.headIx]) else none
  | [], a, acc => by simp [varsL]
  | b :: l, a, acc => by
    rw [List.cons_append, varsL, varsL]
    split
    · exact varsL_snoc n l a _
    · rfl
theorem varsL_take (n : Int) (l : List Tm) (j : Nat) (h : j < l.length) {acc : List Int} (hv : varsL n (l.take j) [] = some acc) : varsL n (l.take (j + 1)) [] = if isVar n acc l[j] then some (acc ++ [l[j].headIx]) else none := by
  rw [List.take_add_one, List.getElem?_eq_getElem h]
  show varsL n (l.take j ++ [l[j]]) [] = _
  rw [varsL_snoc, hv]; rfl
theorem varsL_app (n : Int) : ∀ (l r : List Tm) (acc : List Int), varsL n (l ++ r) acc = (varsL n l acc).bind fun x => varsL n r x
  | [], r, acc => rfl
  | b :: l, r, acc => by
    rw [List.cons_append, varsL, varsL]
    split
    · exact varsL_app n l r _
    · rfl
theorem varsL_none (n : Int) (l : List Tm) (j : Nat) (h : varsL n (l.take j) [] = none) : varsL n l [] = none := by
  rw [← List.take_append_drop j l, varsL_app, h]; rfl
theorem varsL_len (n : Int) : ∀ (l : List Tm) (acc r : List Int), varsL n l acc = some r → r.length = acc.length + l.length
  | [], acc, r, h => by cases h; simp
  | b :: l, acc, r, h => by
    rw [varsL] at h
    split at h
    · have := varsL_len n l _ _ h
      simp at this ⊢; omega
    · cases h
end Pn
def eMet (l : List Int) : List (Int × D) := l.map fun i => (i, .v (.bool true))
theorem okm_map {f g : Nat → Bool} {α : Type} (e : α → Int × D) (l : List α) (h : ∀ x ∈ l, (e x).2.ok f g = true) : D.okm f g (l.map e) = true := by
  induction l with
  | nil => rfl
  | cons x l ih =>
    have h1 := h x (by simp)
    have h2 := ih fun y hy => h y (by simp [hy])
    simp only [List.map_cons]
    generalize e x = p at h1 ⊢
    obtain ⟨i, d⟩ := p
    simp only [D.okm, Bool.and_eq_true]; exact ⟨h1, h2⟩
@[simp] theorem eMet_ok (f g : Nat → Bool) (l : List Int) : D.okm f g (eMet l) = true := okm_map _ l fun _ _ => rfl
theorem eMet_find (l : List Int) (x : Int) : (mfind (eMet l) x).getD (.v (.bool false)) = .v (.bool (l.contains x)) := by
  induction l with
  | nil => rfl
  | cons i l ih =>
    show (if x = i then some _ else mfind (eMet l) x).getD _ = _
    by_cases h : x = i
    · simp [h]
    · rw [if_neg h, ih]; simp [h]
theorem eMet_put (l : List Int) (x : Int) (h : l.contains x = false) : mput (eMet l) x (.v (.bool true)) = eMet (l ++ [x]) := by
  induction l with
  | nil => rfl
  | cons i l ih =>
    simp at h
    show (if x = i then _ else _ :: mput (eMet l) x _) = _
    rw [if_neg h.1, ih (by simp [h.2])]; rfl
set_option maxHeartbeats 2000000 in
theorem pvars_d (t : Tm) (n : Int) (hz : t.full ≤ 700000) (hf : t.Fit) : PureC Try.prog 144 [.ag (eTm t), .v (.int .i64 n)] (.tu [.sl 1 (eIs (Pn.vars t n).1) none, .v (.int .i64 (Pn.vars t n).2)]) := by
 have hfl := pflex_d t
 have hz2 := full_args t
 have hz3 := fulls_len t.args
 rw [eTm_eq] at hfl ⊢
 refine calldw 0 61 [ResultVar.tmp 4, ResultVar.tmp 5] TP1_ok Try.func144 rfl Try.ntmps144 rfl fun cx hnt hn0 => ?_
 ·skip
  refine dw_seq ?_; refine dwk [] TP1_ok hnt fun K hK => ?_; refine hK _ _ ?_; clear hK K
  by_cases hk : t.kind = 2
  ·rw [decide_eq_true hk] at hfl
   by_cases hn : n < 0
   ·have hv : Pn.vars t n = ([], 1) := by unfold Pn.vars; rw [if_pos (.inr hn)]
    rw [hv]
    refine dw_seq ?_; refine dw_seq ?_; refine dwk [(17, .v (.bool true))] TP1_ok hnt fun K hK => ?_; refine dcl (hfl) ?_; refine And.intro auT ?_; refine hK _ _ ?_; clear hK K; refine dw_cond (t := true) rfl ?_; rw [if_pos rfl]; refine dw_seq ?_; refine dwk [] TP1_ok hnt fun K hK => ?_; refine hK _ _ ?_; clear hK K; refine dw_ret ?_
    exact reta rfl
   ·have hv : Pn.vars t n = match Pn.varsL n t.args [] with | some l => (l, 0) | none => ([], 6) := by unfold Pn.vars; exact if_neg (by simp [hk]; omega)
    refine dw_seq ?_; refine dw_seq ?_; refine dwk [(17, .v (.bool false))] TP1_ok hnt fun K hK => ?_; refine dcl (hfl) ?_; refine And.intro auF ?_; refine hK _ _ ?_; clear hK K; refine dw_cond (t := false) rfl ?_; rw [if_neg (by simp)]; refine dw_skip ?_; refine dw_seq ?_; refine dwk [] TP1_ok hnt fun K hK => ?_; refine hK _ _ ?_; clear hK K; refine dw_seq ?_; refine dwk [] TP1_ok hnt fun K hK => ?_; refine hK _ _ ?_; clear hK K
    refine dw_seq ?_; refine dw_seq ?_; refine dwk [(22, .v (.int .i64 (↑t.args.length)))] TP1_ok hnt fun K hK => ?_; refine And.intro (dintE (by rw [eTms_len])) ?_; refine hK _ _ ?_; clear hK K; refine dw_block ?_
    refine dw_loop (ι := { p : Nat × List Int // Pn.varsL n (t.args.take p.1) [] = some p.2 }) (fun p => [(.t 1, .v (.int .i64 n)), (.t 6, .mo 10), (.t 7, .sl 1 (eIs p.1.2) (some 17)), (.t 21, .sl 4 (eTms t.args) none), (.t 22, .v (.int .i64 ↑t.args.length)), (.t 23, .v (.int .i64 ↑p.1.1)), (.r 17, .rw 3 1 p.1.2.length), (.o 10, .mp (eMet p.1.2))]) 18 (fun p => t.args.length - p.1.1) (⟨(0, []), rfl⟩) ((VS.trans (VS.rowT (x := 7) (by rw [hnt]; decide) 3 1 rfl) VS.toA)) fun p => ?_
    obtain ⟨⟨j, acc⟩, hp⟩ := p
    dsimp only at hp ⊢
    by_cases hlt : j < t.args.length
    ·have hst := Pn.varsL_take n t.args j hlt hp
     have hal := Pn.varsL_len n _ _ _ hp
     rw [List.length_take, List.length_nil] at hal
     have hmem := List.getElem_mem hlt
     have hva := var_d t.args[j] (by have := full_mem hmem; omega) (fit_args hf _ hmem)
     unfold varV at hva
     rw [eTm_eq] at hva
     have hno : Pn.isVar n acc t.args[j] = false → Pn.vars t n = ([], 6) := fun h => by
      rw [hv, Pn.varsL_none n t.args (j + 1) (by rw [hst, h]; rfl)]
     unfold Pn.isVar at hno hst
     refine dw_seq ?_; refine dwk [(24, .v (.bool true))] TP1_ok hnt fun K hK => ?_; refine And.intro auT ?_; refine hK _ _ ?_; clear hK K; refine dw_seq ?_; refine dw_cond (t := true) rfl ?_; rw [if_pos rfl]; refine dw_skip ?_; refine dw_seq ?_; refine dw_block ?_; refine dw_seq ?_; refine dwk [(25, .q [.sl 2 (eTys t.args[j].binds) none, .v (.int .i64 t.args[j].kind), .v (.int .i64 t.args[j].index), .sl 4 (eTms t.args[j].args) none])] TP1_ok hnt fun K hK => ?_
     refine And.intro (elo (eTms_len t.args)) ?_; refine And.intro (elv (eTms_getD t.args j) (eTm_eq _)) ?_; refine hK _ _ ?_; clear hK K
     cases h1 : longB t.args[j] with
     | false =>
      rw [hno (by simp [h1])]
      rw [h1] at hva
      refine dw_seq ?_; refine dwk [] TP1_ok hnt fun K hK => ?_; refine dcl (hva) ?_; refine hK _ _ ?_; clear hK K; refine dw_seq ?_; refine dw_seq ?_; refine dwk [] TP1_ok hnt fun K hK => ?_; refine hK _ _ ?_; clear hK K; refine dw_cond (t := true) rfl ?_; rw [if_pos rfl]; refine dw_seq ?_; refine dwk [] TP1_ok hnt fun K hK => ?_; refine hK _ _ ?_; clear hK K; refine dw_ret ?_
      exact reta rfl
     | true =>
      rw [h1, if_pos rfl, if_pos rfl] at hva
      refine dw_seq ?_; refine dwk [] TP1_ok hnt fun K hK => ?_; refine dcl (hva) ?_; refine hK _ _ ?_; clear hK K
      by_cases h2 : t.args[j].kind = 0
      ·by_cases h3 : t.args[j].headIx < n
       ·have hfi := eMet_find acc t.args[j].headIx
        cases h4 : acc.contains t.args[j].headIx with
        | true =>
         rw [hno (by rw [h1, h4]; simp)]
         rw [h4] at hfi
         refine dw_seq ?_; refine dw_seq ?_; refine dwk [(37, .v (.bool false)), (43, .v (.bool false)), (49, .v (.bool true))] TP1_ok hnt fun K hK => ?_; refine And.intro auF ?_; refine And.intro auF ?_; refine And.intro (VLe.of_eq hfi) ?_; refine hK _ _ ?_; clear hK K; refine dw_cond (t := true) rfl ?_; rw [if_pos rfl]; refine dw_seq ?_; refine dwk [] TP1_ok hnt fun K hK => ?_; refine hK _ _ ?_; clear hK K
         refine dw_ret ?_
         exact reta rfl
        | false =>
         rw [h4] at hfi
         have hpu := eMet_put acc _ h4
         rw [if_pos (by simp only [h1, h2, h3, h4]; rfl)] at hst; refine dw_seq ?_; refine dw_seq ?_; refine dwk [(37, .v (.bool false)), (43, .v (.bool false)), (49, .v (.bool false))] TP1_ok hnt fun K hK => ?_; refine And.intro auF ?_; refine And.intro auF ?_; refine And.intro (VLe.of_eq hfi) ?_; refine hK _ _ ?_; clear hK K; refine dw_cond (t := false) rfl ?_; rw [if_neg (by simp)]; refine dw_skip ?_; refine dw_seq ?_
         refine dwk [] TP1_ok hnt fun K hK => ?_; refine hK _ _ ?_; clear hK K; refine dwk [(58, .sl 1 (eIs (acc ++ [t.args[j].headIx])) (some 17))] TP1_ok hnt fun K hK => ?_; refine And.intro (⟨by rw [eIs_len], by rw [eIs_len]; simp; omega⟩) ?_; refine And.intro (VLe.of_eq (by rw [eIs_append]; rfl)) ?_; refine hK _ _ ?_; clear hK K; refine dwk [(59, .v (.int .i64 (↑(j + 1))))] TP1_ok hnt fun K hK => ?_; refine And.intro auI ?_
         refine hK _ _ ?_; clear hK K
         have hl5 : (eIs acc).length = acc.length := eIs_len acc
         refine ⟨⟨(j + 1, acc ++ [t.args[j].headIx]), hst⟩, by first | omega | (dsimp only; omega), (by try simp only [List.length_append, List.length_take, List.length_cons, List.length_nil, Nat.zero_add, hpu, hl5]; exact VS.toA)⟩
       ·rw [hno (by rw [h1, h2, decide_eq_false h3]; simp)]
        refine dw_seq ?_; refine dw_seq ?_; refine dwk [(37, .v (.bool false)), (43, .v (.bool true))] TP1_ok hnt fun K hK => ?_; refine And.intro auF ?_; refine And.intro auT ?_; refine hK _ _ ?_; clear hK K; refine dw_cond (t := true) rfl ?_; rw [if_pos rfl]; refine dw_seq ?_; refine dwk [] TP1_ok hnt fun K hK => ?_; refine hK _ _ ?_; clear hK K; refine dw_ret ?_
        exact reta rfl
      ·rw [hno (by rw [h1, decide_eq_false h2]; simp)]
       refine dw_seq ?_; refine dw_seq ?_; refine dwk [(37, .v (.bool true))] TP1_ok hnt fun K hK => ?_; refine And.intro auT ?_; refine hK _ _ ?_; clear hK K; refine dw_cond (t := true) rfl ?_; rw [if_pos rfl]; refine dw_seq ?_; refine dwk [] TP1_ok hnt fun K hK => ?_; refine hK _ _ ?_; clear hK K; refine dw_ret ?_
       exact reta rfl
    ·rw [List.take_of_length_le (by omega)] at hp
     rw [hv, hp]
     refine dw_seq ?_; refine dwk [(24, .v (.bool false))] TP1_ok hnt fun K hK => ?_; refine And.intro auF ?_; refine hK _ _ ?_; clear hK K; refine dw_seq ?_; refine dw_cond (t := false) rfl ?_; rw [if_neg (by simp)]; refine dw_exit ?_; refine dw_seq ?_; refine dwk [] TP1_ok hnt fun K hK => ?_; refine hK _ _ ?_; clear hK K; refine dw_ret ?_
     exact reta rfl
  ·have hv : Pn.vars t n = ([], 1) := by unfold Pn.vars; rw [if_pos (.inl hk)]
   rw [hv]
   rw [decide_eq_false hk] at hfl
   refine dw_seq ?_; refine dw_seq ?_; refine dwk [] TP1_ok hnt fun K hK => ?_; refine dcl (hfl) ?_; refine hK _ _ ?_; clear hK K; refine dw_cond (t := true) rfl ?_; rw [if_pos rfl]; refine dw_seq ?_; refine dwk [] TP1_ok hnt fun K hK => ?_; refine hK _ _ ?_; clear hK K; refine dw_ret ?_
   exact reta rfl
end Go.Proofs.Ytcblpjheoclkeaa

namespace Go.Proofs.Ytcblpjheoclkeaa
open Go.RowKit

namespace Pn
theorem mayL_app (n : Int) : ∀ (l r acc : List Int), mayL n (l ++ r) acc = (mayL n l acc && mayL n r (acc ++ l))
  | [], r, acc => by simp [mayL]
  | v :: l, r, acc => by simp only [List.cons_append, mayL, mayL_app n l r, Bool.and_assoc, List.append_assoc, List.nil_append]
theorem mayL_take (n : Int) (l : List Int) (j : Nat) (h : j < l.length) : mayL n (l.take (j + 1)) [] = (mayL n (l.take j) [] && (decide (0 ≤ l[j]) && (decide (l[j] < n) && !(l.take j).contains l[j]))) := by
  rw [List.take_add_one, List.getElem?_eq_getElem h]
  show mayL n (l.take j ++ [l[j]]) [] = _
  rw [mayL_app]; simp [mayL]
theorem mayL_pre (n : Int) (l : List Int) (j : Nat) (h : mayL n l [] = true) : mayL n (l.take j) [] = true := by
  rw [← List.take_append_drop j l, mayL_app, Bool.and_eq_true] at h
  exact h.1
theorem mayL_mem (n : Int) : ∀ (l acc : List Int), mayL n l acc = true → ∀ v ∈ l, 0 ≤ v ∧ v < n
  | [], _, _, v, hv => by cases hv
  | u :: l, acc, h, v, hv => by
    simp only [mayL, Bool.and_eq_true, decide_eq_true_eq] at h
    rcases List.mem_cons.1 hv with rfl | hv
    · exact ⟨h.1, h.2.1⟩
    · exact mayL_mem n l _ h.2.2.2 v hv
def atL : List Int → Nat → List (Int × Value)
  | [], _ => []
  | v :: l, k => (v, .int .i64 k) :: atL l (k + 1)
end Pn
@[simp] theorem atL_ok (f g : Nat → Bool) (l : List Int) (k : Nat) : D.okm f g (eMp (Pn.atL l k)) = true := okm_map _ _ fun _ _ => rfl
theorem atL_find (x : Int) : ∀ (l : List Int) (k : Nat), mfind (eMp (Pn.atL l k)) x = (Pn.ix x l).map fun i => .v (.int .i64 ((k + i : Nat) : Int))
  | [], k => rfl
  | v :: l, k => by
    show (if x = v then some _ else mfind (eMp (Pn.atL l (k + 1))) x) = _
    rw [Pn.ix]
    by_cases h : v = x
    · subst h; simp
    · rw [if_neg (fun e => h e.symm), if_neg h, atL_find x l (k + 1)]
      cases Pn.ix x l with
      | none => rfl
      | some i => simp; omega
theorem ix_none {x : Int} : ∀ {l : List Int}, Pn.ix x l = none ↔ l.contains x = false
  | [] => by simp [Pn.ix]
  | v :: l => by
    rw [Pn.ix]
    by_cases h : v = x
    · subst h; simp
    · rw [if_neg h]
      have := ix_none (x := x) (l := l)
      simp only [Option.map_eq_none_iff, this, List.contains_cons]
      simp
      exact fun _ e => h e.symm
theorem atL_put (v : Int) : ∀ (l : List Int) (k : Nat), l.contains v = false → mput (eMp (Pn.atL l k)) v (.v (.int .i64 ((k + l.length : Nat) : Int))) = eMp (Pn.atL (l ++ [v]) k)
  | [], k, _ => by simp [Pn.atL, eMp, mput]
  | u :: l, k, h => by
    simp at h
    show (if v = u then _ else _ :: mput (eMp (Pn.atL l (k + 1))) v _) = _
    rw [if_neg h.1]
    have := atL_put v l (k + 1) (by simp [h.2])
    rw [List.length_cons, show k + (l.length + 1) = k + 1 + l.length by omega, this]; rfl
set_option maxHeartbeats 1000000 in
theorem places_no (n : Int) (vs : List Int) (hl : vs.length ≤ 100000) (hm : Pn.mayV n vs = false) : PureC Try.prog 172 [.v (.int .i64 n), .sl 1 (eIs vs) none] (.tu [.v (.map none), .v (.bool false)]) := by
 refine calldw 0 40 [ResultVar.tmp 4, ResultVar.tmp 5] TP1_ok Try.func172 rfl Try.ntmps172 rfl fun cx hnt hn0 => ?_
 ·skip
  refine dw_seq ?_; refine dwk [] TP1_ok hnt fun K hK => ?_; refine hK _ _ ?_; clear hK K; refine dw_seq ?_; refine dwk [] TP1_ok hnt fun K hK => ?_; refine hK _ _ ?_; clear hK K; refine dw_seq ?_; refine dw_seq ?_; refine dwk [(13, .v (.int .i64 (↑vs.length)))] TP1_ok hnt fun K hK => ?_; refine And.intro (dintE (by rw [eIs_len])) ?_; refine hK _ _ ?_; clear hK K; refine dw_block ?_
  refine dw_loop (ι := { j : Nat // Pn.mayL n (vs.take j) [] = true }) (fun j => [(.t 0, .v (.int .i64 n)), (.t 6, .mo 2), (.o 2, .mp (eMp (Pn.atL (vs.take j.1) 0))), (.t 12, .sl 1 (eIs vs) none), (.t 13, .v (.int .i64 ↑vs.length)), (.t 14, .v (.int .i64 ↑j.1))]) 3 (fun j => vs.length - j.1) (⟨0, rfl⟩) (VS.toA) fun j => ?_
  obtain ⟨j, hj⟩ := j
  dsimp only
  by_cases hlt : j < vs.length
  ·have hst := Pn.mayL_take n vs j hlt
   rw [hj] at hst
   have hfi := atL_find vs[j] (vs.take j) 0
   refine dw_seq ?_; refine dwk [(15, .v (.bool true))] TP1_ok hnt fun K hK => ?_; refine And.intro auT ?_; refine hK _ _ ?_; clear hK K; refine dw_seq ?_; refine dw_cond (t := true) rfl ?_; rw [if_pos rfl]; refine dw_skip ?_; refine dw_seq ?_; refine dw_block ?_; refine dw_seq ?_; refine dwk [(17, .q [.v (.int .i64 vs[j])])] TP1_ok hnt fun K hK => ?_; refine And.intro (⟨by omega, by rw [eIs_len]; omega⟩) ?_
   refine And.intro (VLe.of_eq (by rw [Int.toNat_natCast, eIs_getD vs j hlt])) ?_; refine hK _ _ ?_; clear hK K
   cases hc : Pn.ix vs[j] (vs.take j) with
   | some i =>
    rw [hc] at hfi
    refine dw_seq ?_; refine dw_seq ?_; refine dwk [(22, .tu [.v (.int .i64 ↑(0 + i)), .v (.bool true)])] TP1_ok hnt fun K hK => ?_; refine And.intro (VLe.of_eq (by rw [lookD, hfi]; rfl)) ?_; refine hK _ _ ?_; clear hK K; refine dw_seq ?_; refine dwk [] TP1_ok hnt fun K hK => ?_; refine hK _ _ ?_; clear hK K; refine dw_cond (t := true) rfl ?_; rw [if_pos rfl]; refine dw_seq ?_; refine dwk [] TP1_ok hnt fun K hK => ?_
    refine hK _ _ ?_; clear hK K; refine dw_ret ?_
    exact reta rfl
   | none =>
    rw [hc] at hfi
    have hcc := ix_none.1 hc
    have hpu := atL_put vs[j] (vs.take j) 0 hcc
    rw [List.length_take, Nat.min_eq_left (by omega), Nat.zero_add] at hpu
    refine dw_seq ?_; refine dw_seq ?_; refine dwk [(22, .tu [.v (.int .i64 0), .v (.bool false)])] TP1_ok hnt fun K hK => ?_; refine And.intro (VLe.of_eq (by rw [lookD, hfi]; rfl)) ?_; refine hK _ _ ?_; clear hK K
    by_cases h0 : vs[j] < 0
    ·skip
     refine dw_seq ?_; refine dwk [(28, .v (.bool true))] TP1_ok hnt fun K hK => ?_; refine And.intro auT ?_; refine hK _ _ ?_; clear hK K; refine dw_cond (t := true) rfl ?_; rw [if_pos rfl]; refine dw_seq ?_; refine dwk [] TP1_ok hnt fun K hK => ?_; refine hK _ _ ?_; clear hK K; refine dw_ret ?_
     exact reta rfl
    ·by_cases h1 : n ≤ vs[j]
     ·skip
      refine dw_seq ?_; refine dwk [(28, .v (.bool false)), (33, .v (.bool true))] TP1_ok hnt fun K hK => ?_; refine And.intro auF ?_; refine And.intro auT ?_; refine hK _ _ ?_; clear hK K; refine dw_cond (t := true) rfl ?_; rw [if_pos rfl]; refine dw_seq ?_; refine dwk [] TP1_ok hnt fun K hK => ?_; refine hK _ _ ?_; clear hK K; refine dw_ret ?_
      exact reta rfl
     ·skip
      refine dw_seq ?_; refine dwk [(28, .v (.bool false)), (33, .v (.bool false))] TP1_ok hnt fun K hK => ?_; refine And.intro auF ?_; refine And.intro auF ?_; refine hK _ _ ?_; clear hK K; refine dw_cond (t := false) rfl ?_; rw [if_neg (by simp)]; refine dw_skip ?_; refine dwk [] TP1_ok hnt fun K hK => ?_; refine hK _ _ ?_; clear hK K; refine dwk [(38, .v (.int .i64 (↑(j + 1))))] TP1_ok hnt fun K hK => ?_
      refine And.intro auI ?_; refine hK _ _ ?_; clear hK K
      have hta : vs.take (j + 1) = vs.take j ++ [vs[j]] := by rw [List.take_add_one, List.getElem?_eq_getElem hlt]; rfl
      rw [← hta] at hpu
      refine ⟨⟨j + 1, by rw [hst, hcc, decide_eq_true (show 0 ≤ vs[j] by omega), decide_eq_true (show vs[j] < n by omega)]; rfl⟩, by first | omega | (dsimp only; omega), (by try simp only [List.length_append, List.length_take, List.length_cons, List.length_nil, Nat.zero_add, hpu]; exact VS.toA)⟩
  ·rw [List.take_of_length_le (by omega)] at hj
   unfold Pn.mayV at hm
   rw [hj] at hm; cases hm
set_option maxHeartbeats 1000000 in
theorem places_ok (n : Int) (vs : List Int) (hl : vs.length ≤ 100000) (hm : Pn.mayV n vs = true) (nm : Nat) : CallN Try.prog 172 [.v (.int .i64 n), .sl 1 (eIs vs) none] [] nm [(.o nm, .mp (eMp (Pn.atL vs 0)))] (.tu [.mo nm, .v (.bool true)]) := by
 refine callMap_of_dw 40 [ResultVar.tmp 4, ResultVar.tmp 5] TP1_ok (by kernel_rfl) Try.func172 rfl Try.ntmps172 rfl (by simp) (by simp [D.ok, eIs_ok]) ?dbody nm
 case dbody =>
  intro cx hnt hn0
  refine dw_seq ?_; refine dwk [] TP1_ok hnt fun K hK => ?_; refine hK _ _ ?_; clear hK K; refine dw_seq ?_; refine dwk [] TP1_ok hnt fun K hK => ?_; refine hK _ _ ?_; clear hK K; refine dw_seq ?_; refine dw_seq ?_; refine dwk [(13, .v (.int .i64 (↑vs.length)))] TP1_ok hnt fun K hK => ?_; refine And.intro (dintE (by rw [eIs_len])) ?_; refine hK _ _ ?_; clear hK K; refine dw_block ?_
  refine dw_loop (ι := { j : Nat // j ≤ vs.length }) (fun j => [(.t 0, .v (.int .i64 n)), (.t 6, .mo 2), (.o 2, .mp (eMp (Pn.atL (vs.take j.1) 0))), (.t 12, .sl 1 (eIs vs) none), (.t 13, .v (.int .i64 ↑vs.length)), (.t 14, .v (.int .i64 ↑j.1))]) 3 (fun j => vs.length - j.1) (⟨0, Nat.zero_le _⟩) (VS.toA) fun j => ?_
  obtain ⟨j, hj⟩ := j
  dsimp only
  by_cases hlt : j < vs.length
  ·have hst := Pn.mayL_take n vs j hlt
   rw [Pn.mayL_pre n vs _ hm, Pn.mayL_pre n vs _ hm] at hst
   simp only [Bool.true_and] at hst
   have hst := hst.symm
   simp only [Bool.and_eq_true, decide_eq_true_eq, Bool.not_eq_true'] at hst
   obtain ⟨h0, h1, hcc⟩ := hst
   have hfi := atL_find vs[j] (vs.take j) 0
   rw [ix_none.2 hcc] at hfi
   have hpu := atL_put vs[j] (vs.take j) 0 hcc
   rw [List.length_take, Nat.min_eq_left (by omega), Nat.zero_add] at hpu
   refine dw_seq ?_; refine dwk [(15, .v (.bool true))] TP1_ok hnt fun K hK => ?_; refine And.intro auT ?_; refine hK _ _ ?_; clear hK K; refine dw_seq ?_; refine dw_cond (t := true) rfl ?_; rw [if_pos rfl]; refine dw_skip ?_; refine dw_seq ?_; refine dw_block ?_; refine dw_seq ?_; refine dwk [(17, .q [.v (.int .i64 vs[j])])] TP1_ok hnt fun K hK => ?_; refine And.intro (⟨by omega, by rw [eIs_len]; omega⟩) ?_
   refine And.intro (VLe.of_eq (by rw [Int.toNat_natCast, eIs_getD vs j hlt])) ?_; refine hK _ _ ?_; clear hK K; refine dw_seq ?_; refine dw_seq ?_; refine dwk [(22, .tu [.v (.int .i64 0), .v (.bool false)])] TP1_ok hnt fun K hK => ?_; refine And.intro (VLe.of_eq (by rw [lookD, hfi]; rfl)) ?_; refine hK _ _ ?_; clear hK K; refine dw_seq ?_; refine dwk [(28, .v (.bool false)), (33, .v (.bool false))] TP1_ok hnt fun K hK => ?_
   refine And.intro auF ?_; refine And.intro auF ?_; refine hK _ _ ?_; clear hK K; refine dw_cond (t := false) rfl ?_; rw [if_neg (by simp)]; refine dw_skip ?_; refine dwk [] TP1_ok hnt fun K hK => ?_; refine hK _ _ ?_; clear hK K; refine dwk [(38, .v (.int .i64 (↑(j + 1))))] TP1_ok hnt fun K hK => ?_; refine And.intro auI ?_; refine hK _ _ ?_; clear hK K
   have hta : vs.take (j + 1) = vs.take j ++ [vs[j]] := by rw [List.take_add_one, List.getElem?_eq_getElem hlt]; rfl
   rw [← hta] at hpu
   refine ⟨⟨j + 1, by omega⟩, by first | omega | (dsimp only; omega), (by try simp only [List.length_append, List.length_take, List.length_cons, List.length_nil, Nat.zero_add, hpu]; exact VS.toA)⟩
  ·rw [List.take_of_length_le (by omega)]
   refine dw_seq ?_; refine dwk [(15, .v (.bool false))] TP1_ok hnt fun K hK => ?_; refine And.intro auF ?_; refine hK _ _ ?_; clear hK K; refine dw_seq ?_; refine dw_cond (t := false) rfl ?_; rw [if_neg (by simp)]; refine dw_exit ?_; refine dw_seq ?_; refine dwk [] TP1_ok hnt fun K hK => ?_; refine hK _ _ ?_; clear hK K; refine dw_ret ?_
   exact ⟨.inr rfl, _, rfl, rfl⟩
theorem ptypes_d (binds : List Ty) (vs : List Int) (hl : vs.length ≤ 100000) (hb : binds.length ≤ 1000000) (hv : ∀ v ∈ vs, 0 ≤ v ∧ v < binds.length) : PureC Try.prog 175 [.sl 2 (eTys binds) none, .sl 1 (eIs vs) none] (.sl 2 (eTys (Pn.types binds vs)) none) := by
 refine calldw 0 27 [ResultVar.tmp 4] TP1_ok Try.func175 rfl Try.ntmps175 rfl fun cx hnt hn0 => ?_
 ·skip
  refine dw_seq ?_; refine dwk [] TP1_ok hnt fun K hK => ?_; refine hK _ _ ?_; clear hK K; refine dw_seq ?_; refine dwk [] TP1_ok hnt fun K hK => ?_; refine hK _ _ ?_; clear hK K; refine dw_seq ?_; refine dw_seq ?_; refine dwk [(9, .v (.int .i64 (↑vs.length)))] TP1_ok hnt fun K hK => ?_; refine And.intro (dintE (by rw [eIs_len])) ?_; refine hK _ _ ?_; clear hK K; refine dw_block ?_
  refine dw_loop (ι := Nat) (fun j => [(.t 0, .sl 2 (eTys binds) none), (.t 5, .sl 2 (eTys (Pn.types binds (vs.take j))) (some 5)), (.r 5, .rw 83 2 (vs.take j).length), (.t 8, .sl 1 (eIs vs) none), (.t 9, .v (.int .i64 ↑vs.length)), (.t 10, .v (.int .i64 ↑j))]) 6 (fun j => vs.length - j) (0) ((VS.trans (VS.rowT (x := 5) (by rw [hnt]; decide) 83 2 rfl) VS.toA)) fun j => ?_
  by_cases hlt : j < vs.length
  ·obtain ⟨h0, h1⟩ := hv _ (List.getElem_mem hlt)
   have hk : ((binds.length : Int) - 1 - vs[j]).toNat < binds.length := by omega
   have hx : Pn.types binds (vs.take (j + 1)) = Pn.types binds (vs.take j) ++ [binds[((binds.length : Int) - 1 - vs[j]).toNat]] := by
    rw [List.take_add_one, List.getElem?_eq_getElem hlt]
    unfold Pn.types
    rw [List.map_append]
    simp [List.getD_eq_getElem?_getD, List.getElem?_eq_getElem hk]
   have hq := eTys_getD binds _ hk
   obtain ⟨b, hbq⟩ : ∃ b, binds[((binds.length : Int) - 1 - vs[j]).toNat] = b := ⟨_, rfl⟩
   rw [hbq] at hx hq
   have hlq : (eTys (Pn.types binds (vs.take j))).length = j := by rw [eTys_len]; unfold Pn.types; rw [List.length_map, List.length_take]; omega
   have hl2 : (vs.take (j + 1)).length = j + 1 := by rw [List.length_take]; omega
   have hl3 : (vs.take j).length = j := by rw [List.length_take]; omega
   rw [hl3]
   refine dw_seq ?_; refine dwk [(11, .v (.bool true))] TP1_ok hnt fun K hK => ?_; refine And.intro auT ?_; refine hK _ _ ?_; clear hK K; refine dw_seq ?_; refine dw_cond (t := true) rfl ?_; rw [if_pos rfl]; refine dw_skip ?_; refine dw_seq ?_; refine dw_block ?_; refine dw_seq ?_; refine dwk [(12, .q [.v (.int .i64 vs[j])])] TP1_ok hnt fun K hK => ?_; refine And.intro (⟨by omega, by rw [eIs_len]; omega⟩) ?_
   refine And.intro (VLe.of_eq (by rw [Int.toNat_natCast, eIs_getD vs j hlt])) ?_; refine hK _ _ ?_; clear hK K; refine dwk [(17, .v (.int .i64 (↑binds.length))), (18, .v (.int .i64 (↑binds.length - 1))), (20, .v (.int .i64 (↑binds.length - 1 - vs[j]))), (21, .q [.sl 2 (eTys b.args) none, .v (.int .i64 b.base)]), (24, .sl 2 (eTys (Pn.types binds (vs.take (j + 1)))) (some 5))] TP1_ok hnt fun K hK => ?_
   refine And.intro (dintE (by rw [eTys_len])) ?_; refine And.intro auI ?_; refine And.intro auI ?_; refine And.intro (⟨by omega, by rw [eTys_len]; omega⟩) ?_; refine And.intro (VLe.of_eq (by rw [hq, eTy_eq])) ?_; refine And.intro (⟨by rw [hlq], by rw [hlq]; simp; omega⟩) ?_; refine And.intro (VLe.of_eq (by rw [hx, eTys_append, eTys, eTys, eTy_eq])) ?_; refine hK _ _ ?_; clear hK K; refine dwk [(25, .v (.int .i64 (↑(j + 1))))] TP1_ok hnt fun K hK => ?_
   refine And.intro auI ?_; refine hK _ _ ?_; clear hK K
   have hl4 : min (j + 1) vs.length = j + 1 := Nat.min_eq_left (by omega)
   refine ⟨j + 1, by first | omega | (dsimp only; omega), (by try simp only [List.length_append, List.length_take, List.length_cons, List.length_nil, Nat.zero_add, hlq, hl4]; exact VS.toA)⟩
  ·rw [List.take_of_length_le (by omega)]
   refine dw_seq ?_; refine dwk [(11, .v (.bool false))] TP1_ok hnt fun K hK => ?_; refine And.intro auF ?_; refine hK _ _ ?_; clear hK K; refine dw_seq ?_; refine dw_cond (t := false) rfl ?_; rw [if_neg (by simp)]; refine dw_exit ?_; refine dw_seq ?_; refine dwk [] TP1_ok hnt fun K hK => ?_; refine hK _ _ ?_; clear hK K; refine dw_ret ?_
   exact reta rfl
end Go.Proofs.Ytcblpjheoclkeaa

namespace Go.Proofs.Ytcblpjheoclkeaa
open Go.RowKit
def TL8_25 : TI := ⟨1, false, [Value.slice none 0 0], [], some 27, 24, 5, none, false⟩
theorem TL8_25_ok : TypOk Try.prog 25 TL8_25 := ⟨by kernel_rfl, by kernel_rfl, by kernel_rfl, by kernel_rfl, by kernel_rfl⟩
def TL8_3 : TI := ⟨1, false, [Value.int IntKind.i64 0], [], none, 8, 2, none, false⟩
theorem TL8_3_ok : TypOk Try.prog 3 TL8_3 := ⟨by kernel_rfl, by kernel_rfl, by kernel_rfl, by kernel_rfl, by kernel_rfl⟩
def TL8_27 : TI := ⟨4, true, [Value.slice none 0 0, Value.int IntKind.i64 0, Value.int IntKind.i64 0, Value.slice none 0 0], [(0, 1, false), (1, 2, true), (3, 1, false)], none, 64, 6, none, false⟩
theorem TL8_27_ok : TypOk Try.prog 27 TL8_27 := ⟨by kernel_rfl, by kernel_rfl, by kernel_rfl, by kernel_rfl, by kernel_rfl⟩
def TL8_24 : TI := ⟨2, true, [Value.int IntKind.i64 0, Value.int IntKind.i64 0], [(0, 1, false), (1, 1, false)], none, 16, 6, none, true⟩
theorem TL8_24_ok : TypOk Try.prog 24 TL8_24 := ⟨by kernel_rfl, by kernel_rfl, by kernel_rfl, by kernel_rfl, by kernel_rfl⟩
def TL8 : List (Nat × TI) := [(25, TL8_25), (3, TL8_3), (27, TL8_27), (24, TL8_24)]
theorem TL8_ok : TabOk Try.prog TL8 := (((((TabOk.nil _).cons TL8_24_ok).cons TL8_27_ok).cons TL8_3_ok).cons TL8_25_ok)
def TL9_47 : TI := ⟨1, false, [Value.slice none 0 0], [], some 88, 24, 5, none, false⟩
theorem TL9_47_ok : TypOk Try.prog 47 TL9_47 := ⟨by kernel_rfl, by kernel_rfl, by kernel_rfl, by kernel_rfl, by kernel_rfl⟩
def TL9_3 : TI := ⟨1, false, [Value.int IntKind.i64 0], [], none, 8, 2, none, false⟩
theorem TL9_3_ok : TypOk Try.prog 3 TL9_3 := ⟨by kernel_rfl, by kernel_rfl, by kernel_rfl, by kernel_rfl, by kernel_rfl⟩
def TL9_50 : TI := ⟨1, false, [Value.slice none 0 0], [], some 118, 24, 5, none, false⟩
theorem TL9_50_ok : TypOk Try.prog 50 TL9_50 := ⟨by kernel_rfl, by kernel_rfl, by kernel_rfl, by kernel_rfl, by kernel_rfl⟩
def TL9_88 : TI := ⟨5, true, [Value.int IntKind.i64 0, Value.slice none 0 0, Value.int IntKind.i64 0, Value.int IntKind.i64 0, Value.slice none 0 0], [(0, 1, false), (1, 4, true)], none, 72, 6, none, false⟩
theorem TL9_88_ok : TypOk Try.prog 88 TL9_88 := ⟨by kernel_rfl, by kernel_rfl, by kernel_rfl, by kernel_rfl, by kernel_rfl⟩
def TL9_34 : TI := ⟨4, true, [Value.slice none 0 0, Value.int IntKind.i64 0, Value.int IntKind.i64 0, Value.slice none 0 0], [(0, 1, false), (1, 2, true), (3, 1, false)], none, 64, 6, none, false⟩
theorem TL9_34_ok : TypOk Try.prog 34 TL9_34 := ⟨by kernel_rfl, by kernel_rfl, by kernel_rfl, by kernel_rfl, by kernel_rfl⟩
def TL9_118 : TI := ⟨5, true, [Value.int IntKind.i64 0, Value.slice none 0 0, Value.int IntKind.i64 0, Value.int IntKind.i64 0, Value.slice none 0 0], [(0, 1, false), (1, 4, true)], none, 72, 6, none, false⟩
theorem TL9_118_ok : TypOk Try.prog 118 TL9_118 := ⟨by kernel_rfl, by kernel_rfl, by kernel_rfl, by kernel_rfl, by kernel_rfl⟩
def TL9 : List (Nat × TI) := [(47, TL9_47), (3, TL9_3), (50, TL9_50), (88, TL9_88), (34, TL9_34), (118, TL9_118)]
theorem TL9_ok : TabOk Try.prog TL9 := (((((((TabOk.nil _).cons TL9_118_ok).cons TL9_34_ok).cons TL9_88_ok).cons TL9_50_ok).cons TL9_3_ok).cons TL9_47_ok)

mutual
def lowB : Tm → Bool
  | .mk _ k i a => !(decide (k = 0) && decide (900000 < i)) && lowsB a
def lowsB : List Tm → Bool
  | [] => true
  | t :: l => lowB t && lowsB l
end
theorem lowsB_all : ∀ l : List Tm, lowsB l = l.all lowB
  | [] => rfl
  | t :: l => by rw [lowsB, lowsB_all l]; rfl
theorem lowB_eq (t : Tm) : lowB t = (!(decide (t.kind = 0) && decide (900000 < t.index)) && lowsB t.args) := by cases t; rfl
theorem all_false {l : List Tm} {j : Nat} (h : j < l.length) (hf : lowB l[j] = false) : lowsB l = false := by
  rw [lowsB_all, List.all_eq_false]; exact ⟨l[j], List.getElem_mem h, by rw [hf]; simp⟩
set_option maxHeartbeats 1000000 in
theorem low_list (l : List Tm) (hl : l.length ≤ 1000000) (ih : ∀ t ∈ l, PureC Try.prog 14 [.sl 4 (eTms t.args) none] (.v (.bool (lowsB t.args)))) : PureC Try.prog 14 [.sl 4 (eTms l) none] (.v (.bool (lowsB l))) := by
 refine call_of_dw 0 35 [ResultVar.tmp 2] TL8_ok (by kernel_rfl) Try.func14 rfl Try.ntmps14 rfl (by simp) ?dwords ?dbody
 case dwords => simp [wordsOk, D.ok, D.oks, rnames, eTms_ok]
 case dbody =>
  intro cx hnt hn0
  refine dw_seq ?_; refine dwk [] TL8_ok hnt fun K hK => ?_; refine hK _ _ ?_; clear hK K; refine dw_seq (dw_seq ?_); refine dwk [] TL8_ok hnt fun K hK => ?_; refine hK _ _ ?_; clear hK K; refine dw_block ?_
  refine dw_loop (ι := { j : Nat // ∀ i (h : i < l.length), i < j → lowB l[i] = true }) (fun j => [(.t 0, .sl 4 (eTms l) none), (.t 3, .v (.int .i64 (j.1 : Int)))]) 1 (fun j => l.length - j.1) ⟨0, fun i h1 h2 => by omega⟩ VS.toA fun j => ?_
  obtain ⟨j, hj⟩ := j
  dsimp only
  refine dw_seq (dw_seq ?_)
  by_cases hlt : j < l.length
  ·have hi := ih l[j] (List.getElem_mem hlt)
   have hlo := lowB_eq l[j]
   refine dwk [(7, .v (.bool true))] TL8_ok hnt fun K hK => ?_; refine And.intro (dtrue (by rw [eTms_len]; omega)) ?_; refine hK _ _ ?_; clear hK K; refine dw_cond (t := true) rfl ?_; rw [if_pos rfl]; refine dw_skip ?_; refine dw_seq (dw_block (dw_seq ?_))
   have hq : (eTms l).getD (j : Int).toNat [] = [.sl 2 (eTys l[j].binds) none, .v (.int .i64 l[j].kind), .v (.int .i64 l[j].index), .sl 4 (eTms l[j].args) none] := by rw [Int.toNat_natCast, eTms_getD l j hlt, eTm_eq]
   have hb : (0 : Int) ≤ (j : Int) ∧ (j : Int) < ((eTms l).length : Int) := ⟨by omega, by rw [eTms_len]; omega⟩
   have hret : lowB l[j] = false → ∀ σ N, DW Try.prog cx (.ret) σ N (RetOk TL8 [ResultVar.tmp 2] (.v (.bool (lowsB l))) []) → True := fun _ _ _ _ => trivial
   by_cases hk : l[j].kind = 0
   ·by_cases hx : 900000 < l[j].index
    ·have hf : lowsB l = false := all_false hlt (by rw [hlo]; simp [hk, hx])
     rw [hf]
     refine dwk [(12, .q [.sl 2 (eTys l[j].binds) none, .v (.int .i64 l[j].kind), .v (.int .i64 l[j].index), .sl 4 (eTms l[j].args) none]), (16, .v (.bool true)), (20, .q [.sl 2 (eTys l[j].binds) none, .v (.int .i64 l[j].kind), .v (.int .i64 l[j].index), .sl 4 (eTms l[j].args) none]), (24, .v (.bool true))] TL8_ok hnt fun K hK => ?_; refine And.intro (hb) ?_; refine And.intro (VLe.of_eq (by rw [hq])) ?_
     refine And.intro (VLe.of_eq (by simp [hk])) ?_; refine And.intro (hb) ?_; refine And.intro (VLe.of_eq (by rw [hq])) ?_; refine And.intro (dtrue hx) ?_; refine hK _ _ ?_; clear hK K; refine dw_cond (t := true) rfl ?_; rw [if_pos rfl]; refine dw_seq ?_; refine dwk [] TL8_ok hnt fun K hK => ?_; refine hK _ _ ?_; clear hK K; refine dw_ret ?_
     exact retv (N := 0) (.inr rfl) rfl (VLe.refl _) trivial
    ·cases hla : lowsB l[j].args with
     | false =>
      have hf : lowsB l = false := all_false hlt (by rw [hlo, hla]; simp)
      rw [hf]
      rw [hla] at hi
      refine dwk [(12, .q [.sl 2 (eTys l[j].binds) none, .v (.int .i64 l[j].kind), .v (.int .i64 l[j].index), .sl 4 (eTms l[j].args) none]), (16, .v (.bool true)), (20, .q [.sl 2 (eTys l[j].binds) none, .v (.int .i64 l[j].kind), .v (.int .i64 l[j].index), .sl 4 (eTms l[j].args) none]), (24, .v (.bool false)), (29, .q [.sl 2 (eTys l[j].binds) none, .v (.int .i64 l[j].kind), .v (.int .i64 l[j].index), .sl 4 (eTms l[j].args) none])] TL8_ok hnt fun K hK => ?_
      refine And.intro (hb) ?_; refine And.intro (VLe.of_eq (by rw [hq])) ?_; refine And.intro (VLe.of_eq (by simp [hk])) ?_; refine And.intro (hb) ?_; refine And.intro (VLe.of_eq (by rw [hq])) ?_; refine And.intro (dfalse hx) ?_; refine And.intro (hb) ?_; refine And.intro (VLe.of_eq (by rw [hq])) ?_; refine dcl (hi) ?_; refine hK _ _ ?_; clear hK K; refine dw_cond (t := true) rfl ?_; rw [if_pos rfl]; refine dw_seq ?_
      refine dwk [] TL8_ok hnt fun K hK => ?_; refine hK _ _ ?_; clear hK K; refine dw_ret ?_
      exact retv (N := 0) (.inr rfl) rfl (VLe.refl _) trivial
     | true =>
      rw [hla] at hi
      refine dwk [(12, .q [.sl 2 (eTys l[j].binds) none, .v (.int .i64 l[j].kind), .v (.int .i64 l[j].index), .sl 4 (eTms l[j].args) none]), (16, .v (.bool true)), (20, .q [.sl 2 (eTys l[j].binds) none, .v (.int .i64 l[j].kind), .v (.int .i64 l[j].index), .sl 4 (eTms l[j].args) none]), (24, .v (.bool false)), (29, .q [.sl 2 (eTys l[j].binds) none, .v (.int .i64 l[j].kind), .v (.int .i64 l[j].index), .sl 4 (eTms l[j].args) none])] TL8_ok hnt fun K hK => ?_
      refine And.intro (hb) ?_; refine And.intro (VLe.of_eq (by rw [hq])) ?_; refine And.intro (VLe.of_eq (by simp [hk])) ?_; refine And.intro (hb) ?_; refine And.intro (VLe.of_eq (by rw [hq])) ?_; refine And.intro (dfalse hx) ?_; refine And.intro (hb) ?_; refine And.intro (VLe.of_eq (by rw [hq])) ?_; refine dcl (hi) ?_; refine hK _ _ ?_; clear hK K; refine dw_cond (t := false) rfl ?_; rw [if_neg (by simp)]
      refine dw_skip ?_; refine dwk [(9, .v (.int .i64 ((j + 1 : Nat) : Int)))] TL8_ok hnt fun K hK => ?_; refine And.intro (dintE (by rw [IntWalk.i64_in _ (by omega)]; omega)) ?_; refine hK _ _ ?_; clear hK K
      refine ⟨⟨j + 1, fun i h1 h2 => ?_⟩, by dsimp only; omega, VS.toA⟩
      by_cases he : i = j
      ·subst he; rw [hlo, hla]; simp [hx]
      ·exact hj i h1 (by omega)
   ·cases hla : lowsB l[j].args with
    | false =>
     have hf : lowsB l = false := all_false hlt (by rw [hlo, hla]; simp)
     rw [hf]
     rw [hla] at hi
     refine dwk [(12, .q [.sl 2 (eTys l[j].binds) none, .v (.int .i64 l[j].kind), .v (.int .i64 l[j].index), .sl 4 (eTms l[j].args) none]), (16, .v (.bool false)), (29, .q [.sl 2 (eTys l[j].binds) none, .v (.int .i64 l[j].kind), .v (.int .i64 l[j].index), .sl 4 (eTms l[j].args) none])] TL8_ok hnt fun K hK => ?_; refine And.intro (hb) ?_; refine And.intro (VLe.of_eq (by rw [hq])) ?_; refine And.intro (VLe.of_eq (by simp [hk])) ?_
     refine And.intro (hb) ?_; refine And.intro (VLe.of_eq (by rw [hq])) ?_; refine dcl (hi) ?_; refine hK _ _ ?_; clear hK K; refine dw_cond (t := true) rfl ?_; rw [if_pos rfl]; refine dw_seq ?_; refine dwk [] TL8_ok hnt fun K hK => ?_; refine hK _ _ ?_; clear hK K; refine dw_ret ?_
     exact retv (N := 0) (.inr rfl) rfl (VLe.refl _) trivial
    | true =>
     rw [hla] at hi
     refine dwk [(12, .q [.sl 2 (eTys l[j].binds) none, .v (.int .i64 l[j].kind), .v (.int .i64 l[j].index), .sl 4 (eTms l[j].args) none]), (16, .v (.bool false)), (29, .q [.sl 2 (eTys l[j].binds) none, .v (.int .i64 l[j].kind), .v (.int .i64 l[j].index), .sl 4 (eTms l[j].args) none])] TL8_ok hnt fun K hK => ?_; refine And.intro (hb) ?_; refine And.intro (VLe.of_eq (by rw [hq])) ?_; refine And.intro (VLe.of_eq (by simp [hk])) ?_
     refine And.intro (hb) ?_; refine And.intro (VLe.of_eq (by rw [hq])) ?_; refine dcl (hi) ?_; refine hK _ _ ?_; clear hK K; refine dw_cond (t := false) rfl ?_; rw [if_neg (by simp)]; refine dw_skip ?_; refine dwk [(9, .v (.int .i64 ((j + 1 : Nat) : Int)))] TL8_ok hnt fun K hK => ?_; refine And.intro (dintE (by rw [IntWalk.i64_in _ (by omega)]; omega)) ?_; refine hK _ _ ?_; clear hK K
     refine ⟨⟨j + 1, fun i h1 h2 => ?_⟩, by dsimp only; omega, VS.toA⟩
     by_cases he : i = j
     ·subst he; rw [hlo, hla]; simp [hk]
     ·exact hj i h1 (by omega)
  ·have hf : lowsB l = true := by
    rw [lowsB_all, List.all_eq_true]
    intro t ht
    obtain ⟨i, hi, rfl⟩ := List.getElem_of_mem ht
    exact hj i hi (by omega)
   rw [hf]
   refine dwk [(7, .v (.bool false))] TL8_ok hnt fun K hK => ?_; refine And.intro (dfalse (by rw [eTms_len]; omega)) ?_; refine hK _ _ ?_; clear hK K; refine dw_cond (t := false) rfl ?_; rw [if_neg (by simp)]; refine dw_exit ?_; refine dw_seq ?_; refine dwk [] TL8_ok hnt fun K hK => ?_; refine hK _ _ ?_; clear hK K; refine dw_ret ?_
   exact retv (N := 0) (.inr rfl) rfl (VLe.refl _) trivial
theorem low_args : ∀ (t : Tm), Wide t → PureC Try.prog 14 [.sl 4 (eTms t.args) none] (.v (.bool (lowsB t.args))) := by
  intro t
  induction t using Tm.ind with
  | h bs k i a ih =>
    intro hw
    obtain ⟨_, w2, w3⟩ := hw.inv
    exact low_list a (by omega) fun u hu => ih u hu (w3 u hu)
theorem low_d (l : List Tm) (hl : l.length ≤ 1000000) (hw : ∀ t ∈ l, Wide t) : PureC Try.prog 14 [.sl 4 (eTms l) none] (.v (.bool (lowsB l))) := low_list l hl fun t ht => low_args t (hw t ht)
theorem wide_full : ∀ t : Tm, t.full ≤ 100000 → Wide t := by
  intro t
  induction t using Tm.ind with
  | h bs k i a ih =>
    intro h
    rw [Tm.full_eq] at h
    have h1 := Ty.le_sizes bs
    have key : ∀ l : List Tm, l.length ≤ Tm.fulls l ∧ ∀ u ∈ l, u.full ≤ Tm.fulls l := by
      intro l
      induction l with
      | nil => exact ⟨by simp, nofun⟩
      | cons t l ihl =>
        have ht : 1 ≤ t.full := by obtain ⟨_, _, _, _⟩ := t; rw [Tm.full_eq]; omega
        simp only [Tm.fulls, List.length_cons]
        refine ⟨by omega, fun u hu => ?_⟩
        rcases List.mem_cons.1 hu with rfl | hu
        · omega
        · have := ihl.2 u hu; omega
    have h2 := key a
    exact .mk _ _ _ _ (by omega) (by omega) fun t ht => ih t ht (by have := h2.2 t ht; omega)
end Go.Proofs.Ytcblpjheoclkeaa

namespace Go.Proofs.Ytcblpjheoclkeaa
open Go.RowKit
def TP2_34 : TI := ⟨4, true, [Value.slice none 0 0, Value.int IntKind.i64 0, Value.int IntKind.i64 0, Value.slice none 0 0], [(0, 1, false), (1, 2, true), (3, 1, false)], none, 64, 6, none, false⟩
theorem TP2_34_ok : TypOk Try.prog 34 TP2_34 := ⟨by kernel_rfl, by kernel_rfl, by kernel_rfl, by kernel_rfl, by kernel_rfl⟩
def TP2_3 : TI := ⟨1, false, [Value.int IntKind.i64 0], [], none, 8, 2, none, false⟩
theorem TP2_3_ok : TypOk Try.prog 3 TP2_3 := ⟨by kernel_rfl, by kernel_rfl, by kernel_rfl, by kernel_rfl, by kernel_rfl⟩
def TP2_32 : TI := ⟨1, false, [Value.slice none 0 0], [], some 34, 24, 5, none, false⟩
theorem TP2_32_ok : TypOk Try.prog 32 TP2_32 := ⟨by kernel_rfl, by kernel_rfl, by kernel_rfl, by kernel_rfl, by kernel_rfl⟩
def TP2_35 : TI := ⟨1, false, [Value.int IntKind.i64 0], [], none, 8, 2, none, false⟩
theorem TP2_35_ok : TypOk Try.prog 35 TP2_35 := ⟨by kernel_rfl, by kernel_rfl, by kernel_rfl, by kernel_rfl, by kernel_rfl⟩
def TP2_30 : TI := ⟨1, false, [Value.slice none 0 0], [], some 83, 24, 5, none, false⟩
theorem TP2_30_ok : TypOk Try.prog 30 TP2_30 := ⟨by kernel_rfl, by kernel_rfl, by kernel_rfl, by kernel_rfl, by kernel_rfl⟩
def TP2_270 : TI := ⟨1, false, [Value.map none], [], none, 8, 7, some 3, false⟩
theorem TP2_270_ok : TypOk Try.prog 270 TP2_270 := ⟨by kernel_rfl, by kernel_rfl, by kernel_rfl, by kernel_rfl, by kernel_rfl⟩
def TP2_31 : TI := ⟨2, true, [Value.int IntKind.i64 0, Value.int IntKind.i64 0], [(0, 1, false), (1, 1, false)], none, 16, 6, none, true⟩
theorem TP2_31_ok : TypOk Try.prog 31 TP2_31 := ⟨by kernel_rfl, by kernel_rfl, by kernel_rfl, by kernel_rfl, by kernel_rfl⟩
def TP2_43 : TI := ⟨1, false, [Value.slice none 0 0], [], some 3, 24, 5, none, false⟩
theorem TP2_43_ok : TypOk Try.prog 43 TP2_43 := ⟨by kernel_rfl, by kernel_rfl, by kernel_rfl, by kernel_rfl, by kernel_rfl⟩
def TP2_165 : TI := ⟨1, false, [Value.nilFunc], [], none, 8, 8, none, false⟩
theorem TP2_165_ok : TypOk Try.prog 165 TP2_165 := ⟨by kernel_rfl, by kernel_rfl, by kernel_rfl, by kernel_rfl, by kernel_rfl⟩
def TP2_192 : TI := ⟨1, false, [Value.slice none 0 0], [], some 30, 24, 5, none, false⟩
theorem TP2_192_ok : TypOk Try.prog 192 TP2_192 := ⟨by kernel_rfl, by kernel_rfl, by kernel_rfl, by kernel_rfl, by kernel_rfl⟩
def TP2_83 : TI := ⟨2, true, [Value.slice none 0 0, Value.int IntKind.i64 0], [(0, 1, false), (1, 1, false)], none, 32, 6, none, false⟩
theorem TP2_83_ok : TypOk Try.prog 83 TP2_83 := ⟨by kernel_rfl, by kernel_rfl, by kernel_rfl, by kernel_rfl, by kernel_rfl⟩
def TP2 : List (Nat × TI) := [(34, TP2_34), (3, TP2_3), (32, TP2_32), (35, TP2_35), (30, TP2_30), (270, TP2_270), (31, TP2_31), (43, TP2_43), (165, TP2_165), (192, TP2_192), (83, TP2_83)]
theorem TP2_ok : TabOk Try.prog TP2 := ((((((((((((TabOk.nil _).cons TP2_83_ok).cons TP2_192_ok).cons TP2_165_ok).cons TP2_43_ok).cons TP2_31_ok).cons TP2_270_ok).cons TP2_30_ok).cons TP2_35_ok).cons TP2_32_ok).cons TP2_3_ok).cons TP2_34_ok)

def tkR (n : Int) (vs : List Int) (e : Int) : List (Key × D) := [(.c 0 0, .v (.int .i64 n)), (.c 1 0, .v (.int .i64 vs.length)), (.c 2 0, .mo 3), (.o 3, .mp (eMp (Pn.atL vs 0))), (.c 4 0, .v (.int .i64 e))]
abbrev tkF : D := .fn 174 [.p 0 0, .p 1 0, .p 2 0, .p 4 0]
def goE (n : Int) (vs : List Int) (d e : Int) : Int := if d < n ∧ Pn.ix d vs = none then 9 else e
theorem ix_lt {x : Int} : ∀ {l : List Int} {k : Nat}, Pn.ix x l = some k → k < l.length
  | v :: l, k, h => by
    rw [Pn.ix] at h
    split at h
    · cases h; simp
    · cases hx : Pn.ix x l with
      | none => rw [hx] at h; cases h
      | some j => rw [hx] at h; cases h; have := ix_lt hx; simpa using this
theorem go_rng (n : Int) (vs : List Int) (d : Int) (h0 : 0 ≤ d) (h1 : d ≤ 1000000) (hn : 0 ≤ n ∧ n ≤ 100000) (hl : vs.length ≤ 10000) : -1 ≤ Pn.go n vs d ∧ Pn.go n vs d ≤ 1010000 := by
  unfold Pn.go
  split
  · omega
  · cases hx : Pn.ix d vs with
    | none => dsimp only; omega
    | some k => have := ix_lt hx; dsimp only; omega
theorem take1_d (n : Int) (vs : List Int) (d e : Int) (hd : 0 ≤ d ∧ d ≤ 1000000) (hn : 0 ≤ n ∧ n ≤ 1000000) (hl : vs.length ≤ 100000) :
  CallC Try.prog 174 [.v (.int .i64 d), .p 0 0, .p 1 0, .p 2 0, .p 4 0] (tkR n vs e) (tkR n vs (goE n vs d e)) (.v (.int .i64 (Pn.go n vs d))) := by
 have hfi := atL_find d vs 0
 refine call_of_dw 5 29 [ResultVar.tmp 6] TP2_ok (by kernel_rfl) Try.func174 rfl Try.ntmps174 rfl (by simp) ?dwords ?dbody
 case dwords => simp [wordsOk, D.ok, D.oks, D.okss, rnames, inN, ckey, tkR, atL_ok]
 case dbody =>
  intro cx hnt hn0
  dsimp only [tkR]
  refine dw_seq ?_; refine dwk [] TP2_ok hnt fun K hK => ?_; refine hK _ _ ?_; clear hK K
  by_cases h1 : n ≤ d
  ·have hg : Pn.go n vs d = d - n + vs.length := if_pos h1
   have he : goE n vs d e = e := if_neg (by omega)
   rw [hg, he]
   refine dw_seq ?_; refine dw_seq ?_; refine dwk [(11, .v (.bool true))] TP2_ok hnt fun K hK => ?_; refine And.intro auT ?_; refine hK _ _ ?_; clear hK K; refine dw_cond (t := true) rfl ?_; rw [if_pos rfl]; refine dw_seq ?_; refine dwk [(14, .v (.int .i64 (d - n))), (16, .v (.int .i64 (d - n + vs.length)))] TP2_ok hnt fun K hK => ?_; refine And.intro auI ?_; refine And.intro auI ?_; refine hK _ _ ?_; clear hK K
   refine dw_ret ?_
   exact reta rfl
  ·skip
   refine dw_seq ?_; refine dw_seq ?_; refine dwk [(11, .v (.bool false))] TP2_ok hnt fun K hK => ?_; refine And.intro auF ?_; refine hK _ _ ?_; clear hK K; refine dw_cond (t := false) rfl ?_; rw [if_neg (by simp)]
   cases hx : Pn.ix d vs with
   | none =>
    have hg : Pn.go n vs d = (vs.length : Int) - 1 - 0 := by unfold Pn.go; rw [if_neg h1, hx]
    have he : goE n vs d e = 9 := if_pos ⟨by omega, hx⟩
    rw [hg, he]
    rw [hx] at hfi
    refine dw_skip ?_; refine dw_seq ?_; refine dwk [(20, .tu [.v (.int .i64 0), .v (.bool false)])] TP2_ok hnt fun K hK => ?_; refine And.intro (VLe.of_eq (by rw [lookD, hfi]; rfl)) ?_; refine hK _ _ ?_; clear hK K; refine dw_seq ?_; refine dw_seq ?_; refine dwk [] TP2_ok hnt fun K hK => ?_; refine hK _ _ ?_; clear hK K; refine dw_cond (t := true) rfl ?_; rw [if_pos rfl]; refine dwk [] TP2_ok hnt fun K hK => ?_
    refine hK _ _ ?_; clear hK K; refine dw_seq ?_; refine dwk [(26, .v (.int .i64 (↑vs.length - 1))), (28, .v (.int .i64 (↑vs.length - 1 - 0)))] TP2_ok hnt fun K hK => ?_; refine And.intro auI ?_; refine And.intro auI ?_; refine hK _ _ ?_; clear hK K; refine dw_ret ?_
    exact reta rfl
   | some k =>
    have hg : Pn.go n vs d = (vs.length : Int) - 1 - (k : Int) := by unfold Pn.go; rw [if_neg h1, hx]
    have he : goE n vs d e = e := if_neg (by rw [hx]; simp)
    have hk : k ≤ 100000 := Nat.le_trans (Nat.le_of_lt (ix_lt hx)) hl
    rw [hg, he]
    rw [hx, Option.map_some, Nat.zero_add] at hfi
    refine dw_skip ?_; refine dw_seq ?_; refine dwk [(20, .tu [.v (.int .i64 ↑k), .v (.bool true)])] TP2_ok hnt fun K hK => ?_; refine And.intro (VLe.of_eq (by rw [lookD, hfi]; rfl)) ?_; refine hK _ _ ?_; clear hK K; refine dw_seq ?_; refine dw_seq ?_; refine dwk [] TP2_ok hnt fun K hK => ?_; refine hK _ _ ?_; clear hK K; refine dw_cond (t := false) rfl ?_; rw [if_neg (by simp)]; refine dw_skip ?_; refine dw_seq ?_
    refine dwk [(26, .v (.int .i64 (↑vs.length - 1))), (28, .v (.int .i64 (↑vs.length - 1 - ↑k)))] TP2_ok hnt fun K hK => ?_; refine And.intro auI ?_; refine And.intro auI ?_; refine hK _ _ ?_; clear hK K; refine dw_ret ?_
    exact reta rfl

namespace Pn
theorem tk_eq (n : Int) (vs : List Int) (bs : List Ty) (k i : Int) (a : List Tm) (ins : Int) : tk n vs (.mk bs k i a) ins = .mk bs k (if k = 0 ∧ ins + (bs.length : Nat) ≤ i then ins + (bs.length : Nat) + go n vs (i - (ins + (bs.length : Nat))) else i) (tks n vs a (ins + (bs.length : Nat))) := by rw [tk]
theorem tks_map (n : Int) (vs : List Int) (ins : Int) : ∀ a : List Tm, tks n vs a ins = a.map fun t => tk n vs t ins
  | [] => by rw [tks]; rfl
  | t :: a => by rw [tks, tks_map n vs ins a]; rfl
theorem tkBs_all (n : Int) (vs : List Int) (ins : Int) : ∀ a : List Tm, tkBs n vs a ins = a.all fun t => tkB n vs t ins
  | [] => by rw [tkBs]; rfl
  | t :: a => by rw [tkBs, tkBs_all n vs ins a]; rfl
def erB (b : Bool) (e : Int) : Int := if b then e else 9
theorem erB_and (b c : Bool) (e : Int) : erB c (erB b e) = erB (b && c) e := by cases b <;> cases c <;> rfl
end Pn
set_option maxHeartbeats 2000000 in
theorem pturned_d (n : Int) (vs : List Int) (hn : 0 ≤ n ∧ n ≤ 100000) (hl : vs.length ≤ 10000) : ∀ (t : Tm) (ins e : Int), 0 ≤ ins → ins + t.full ≤ 100000 → lowB t = true → t.full ≤ 100000 →
  CallC Try.prog 173 [.ag (eTm t), .v (.int .i64 ins), tkF] (tkR n vs e) (tkR n vs (Pn.erB (Pn.tkB n vs t ins) e)) (.ag (eTm (Pn.tk n vs t ins))) := by
 intro t
 induction t using Tm.ind with
 | h bs k i a ih =>
 intro ins e h0 h1 hlow hz
 rw [Tm.full_eq] at h1 hz
 rw [lowB_eq] at hlow
 simp only [Bool.and_eq_true, Bool.not_eq_true', Tm.kind, Tm.index, Tm.args] at hlow
 have hbl : bs.length ≤ Ty.sizes bs := Ty.le_sizes bs
 have hal := fulls_len a
 obtain ⟨m, hm⟩ : ∃ m : Int, ins + (bs.length : Nat) = m := ⟨_, rfl⟩
 obtain ⟨i', hi'⟩ : ∃ i', (if k = 0 ∧ m ≤ i then m + Pn.go n vs (i - m) else i) = i' := ⟨_, rfl⟩
 obtain ⟨e1, he1⟩ : ∃ e1, (if k = 0 ∧ m ≤ i then goE n vs (i - m) e else e) = e1 := ⟨_, rfl⟩
 have hL : Pn.tk n vs (.mk bs k i a) ins = .mk bs k i' (Pn.tks n vs a m) := by rw [Pn.tk_eq, hm, hi']
 have hB : Pn.erB (Pn.tkB n vs (.mk bs k i a) ins) e = Pn.erB (Pn.tkBs n vs a m) e1 := by
  rw [Pn.tkB, hm, ← he1, ← Pn.erB_and]
  congr 1
  by_cases hk : k = 0 ∧ m ≤ i
  ·rw [if_pos hk, decide_eq_true hk.1, decide_eq_true hk.2]
   unfold goE Pn.erB
   by_cases h2 : i - m < n
   ·cases hx : Pn.ix (i - m) vs with
    | none => simp [h2]
    | some j => simp
   ·simp [h2]
  ·rw [if_neg hk]
   have : (decide (k = 0) && decide (m ≤ i)) = false := by
    by_cases h2 : k = 0
    ·simp [h2]; omega
    ·simp [h2]
   rw [this]; rfl
 rw [hL, hB, Pn.tks_map, Pn.tkBs_all, eTm_eq, eTm_eq]
 refine call_of_dw 5 59 [ResultVar.cell 6 34] TP2_ok (by kernel_rfl) Try.func173 rfl Try.ntmps173 rfl (by simp) ?dwords ?dbody
 case dwords => simp [wordsOk, D.ok, D.oks, D.okss, rnames, inN, ckey, tkR, atL_ok, eTms_ok, eTys_ok]
 case dbody =>
  intro cx hnt hn0
  dsimp only [tkR, Tm.binds, Tm.kind, Tm.index, Tm.args]
  refine dw_seq ?_; refine dwk [] TP2_ok hnt fun K hK => ?_; refine hK _ _ ?_; clear hK K; refine dw_seq ?_; refine dwk [(14, .v (.int .i64 (m)))] TP2_ok hnt fun K hK => ?_; refine And.intro (dintE (by rw [eTys_len, IntWalk.i64_in _ (by omega)]; omega)) ?_; refine hK _ _ ?_; clear hK K
  refine dw_cut (τ := [(.t 1, .v (.int .i64 m)), (.t 2, tkF), (.t 3, .p 5 0), (.t 6, .p 6 0), (.c 5 0, .sl 2 (eTys bs) none), (.c 5 1, .v (.int .i64 k)), (.c 5 2, .v (.int .i64 i')), (.c 5 3, .sl 4 (eTms a) none), (.c 6 0, .v (.slice none 0 0)), (.c 6 1, .v (.int .i64 0)), (.c 6 2, .v (.int .i64 0)), (.c 6 3, .v (.slice none 0 0)), (.c 0 0, .v (.int .i64 n)), (.c 1 0, .v (.int .i64 vs.length)), (.c 2 0, .mo 3), (.o 3, .mp (eMp (Pn.atL vs 0))), (.c 4 0, .v (.int .i64 e1))]) (N1 := 7) ?_ ?_
  ·by_cases hk : k = 0
   ·by_cases hi : m ≤ i
    ·rw [if_pos ⟨hk, hi⟩] at hi' he1
     have hix : i ≤ 900000 := by
      by_cases h9 : 900000 < i
      ·exact absurd hlow.1 (by simp [hk, h9])
      ·omega
     have hc := take1_d n vs (i - m) e ⟨by omega, by omega⟩ ⟨hn.1, by omega⟩ (by omega)
     rw [he1] at hc
     refine dw_seq ?_; refine dwk [(18, .v (.bool true)), (24, .v (.bool true))] TP2_ok hnt fun K hK => ?_; refine And.intro auT ?_; refine And.intro auT ?_; refine hK _ _ ?_; clear hK K; refine dw_cond (t := true) rfl ?_; rw [if_pos rfl]; refine dwk [(32, .v (.int .i64 (i - m))), (34, .v (.int .i64 (i')))] TP2_ok hnt fun K hK => ?_; refine And.intro auI ?_; refine dcl (hc) ?_; refine And.intro (dintE (by rw [← hi']; exact IntWalk.i64_in _ (by have := go_rng n vs (i - m) (by omega) (by omega) hn hl; omega))) ?_
     refine hK _ _ ?_; clear hK K
     exact cut_ok VS.toA
    ·rw [if_neg (fun h => hi h.2)] at hi' he1
     subst hi' he1
     refine dw_seq ?_; refine dwk [(18, .v (.bool true)), (24, .v (.bool false))] TP2_ok hnt fun K hK => ?_; refine And.intro auT ?_; refine And.intro auF ?_; refine hK _ _ ?_; clear hK K; refine dw_cond (t := false) rfl ?_; rw [if_neg (by simp)]; refine dw_skip ?_
     exact cut_ok VS.toA
   ·rw [if_neg (fun h => hk h.1)] at hi' he1
    subst hi' he1
    refine dw_seq ?_; refine dwk [(18, .v (.bool false))] TP2_ok hnt fun K hK => ?_; refine And.intro auF ?_; refine hK _ _ ?_; clear hK K; refine dw_cond (t := false) rfl ?_; rw [if_neg (by simp)]; refine dw_skip ?_
    exact cut_ok VS.toA
  ·skip
   refine dw_seq ?_; refine dwk [(39, .v (.int .i64 (↑a.length)))] TP2_ok hnt fun K hK => ?_; refine And.intro (dintE (by rw [eTms_len])) ?_; refine And.intro ((by omega)) ?_; refine hK _ _ ?_; clear hK K; refine dw_seq ?_; refine dw_seq ?_; refine dwk [(43, .v (.int .i64 (↑a.length)))] TP2_ok hnt fun K hK => ?_; refine And.intro (dintE (by rw [eTms_len])) ?_; refine hK _ _ ?_; clear hK K; refine dw_block ?_
   refine dw_loop (ι := Nat) (fun j => [(.t 44, .v (.int .i64 ↑j)), (.t 7, .sl 4 (eTms ((a.take j).map fun t => Pn.tk n vs t m)) (some 10)), (.r 10, .rw 34 4 j), (.t 1, .v (.int .i64 m)), (.t 2, tkF), (.t 3, .p 5 0), (.t 6, .p 6 0), (.t 42, .sl 4 (eTms a) none), (.t 43, .v (.int .i64 ↑a.length)), (.c 5 0, .sl 2 (eTys bs) none), (.c 5 1, .v (.int .i64 k)), (.c 5 2, .v (.int .i64 i')), (.c 5 3, .sl 4 (eTms a) none), (.c 6 0, .v (.slice none 0 0)), (.c 6 1, .v (.int .i64 0)), (.c 6 2, .v (.int .i64 0)), (.c 6 3, .v (.slice none 0 0)), (.c 0 0, .v (.int .i64 n)), (.c 1 0, .v (.int .i64 vs.length)), (.c 2 0, .mo 3), (.o 3, .mp (eMp (Pn.atL vs 0))), (.c 4 0, .v (.int .i64 (Pn.erB ((a.take j).all fun t => Pn.tkB n vs t m) e1)))]) 11 (fun j => a.length - j) (0) ((VS.toK (by omega) (by repeat first | exact trivial | refine And.intro (And.intro (by first | rfl | simp [D.ok, D.oks, D.okss, D.okm, upto, keyOk, Pn.erB, eTms]) (by first | exact Or.inl rfl | exact Or.inr ⟨_, rfl, (by repeat first | exact VLe.refl _ | exact VLe.nil _ | exact VLe.untag _ _ _ | refine VLe.ag ?_ | refine VLe.tu ?_ | refine VLeL.cons ?_ ?_ | exact VLeL.nil), trivial⟩ | simp [get, Key.eq, Pn.erB, eTms])) ?_))) fun j => ?_
   by_cases hlt : j < a.length
   ·have hmem := List.getElem_mem hlt
    have hfm := full_mem hmem
    have hih := ih a[j] hmem m (Pn.erB ((a.take j).all fun t => Pn.tkB n vs t m) e1) (by omega) (by omega) (by have := hlow.2; rw [lowsB_all, List.all_eq_true] at this; exact this _ hmem) (by omega)
    rw [Pn.erB_and, eTm_eq, eTm_eq] at hih
    have hta : a.take (j + 1) = a.take j ++ [a[j]] := by rw [List.take_add_one, List.getElem?_eq_getElem hlt]; rfl
    have hall : ((a.take (j + 1)).all fun t => Pn.tkB n vs t m) = (((a.take j).all fun t => Pn.tkB n vs t m) && Pn.tkB n vs a[j] m) := by rw [hta, List.all_append]; simp
    rw [← hall] at hih
    have hll : (eTms ((a.take j).map fun t => Pn.tk n vs t m)).length = j := by rw [eTms_len, List.length_map, List.length_take]; omega
    refine dw_seq ?_; refine dwk [(45, .v (.bool true))] TP2_ok hnt fun K hK => ?_; refine And.intro auT ?_; refine hK _ _ ?_; clear hK K; refine dw_seq ?_; refine dw_cond (t := true) rfl ?_; rw [if_pos rfl]; refine dw_skip ?_; refine dw_seq ?_; refine dw_block ?_; refine dw_seq ?_; refine dwk [(46, .q [.sl 2 (eTys a[j].binds) none, .v (.int .i64 a[j].kind), .v (.int .i64 a[j].index), .sl 4 (eTms a[j].args) none])] TP2_ok hnt fun K hK => ?_
    refine And.intro (elo (eTms_len a)) ?_; refine And.intro (elv (eTms_getD a j) (eTm_eq _)) ?_; refine hK _ _ ?_; clear hK K; refine dwk [(54, .sl 4 (eTms ((a.take (j + 1)).map fun t => Pn.tk n vs t m)) (some 10))] TP2_ok hnt fun K hK => ?_; refine dcl (hih) ?_; refine And.intro (⟨by rw [hll], by rw [hll]; simp; omega⟩) ?_; refine And.intro (VLe.of_eq (by rw [hta, List.map_append, eTms_append]; simp only [List.map_cons, List.map_nil, eTms]; rw [eTm_eq (Pn.tk n vs a[j] m)])) ?_
    refine hK _ _ ?_; clear hK K; refine dwk [(55, .v (.int .i64 (↑(j + 1))))] TP2_ok hnt fun K hK => ?_; refine And.intro auI ?_; refine hK _ _ ?_; clear hK K
    have hmn : min j a.length = j := Nat.min_eq_left (by omega)
    refine ⟨j + 1, by first | omega | (dsimp only; omega), (VS.toK (by omega) (by repeat first | exact trivial | refine And.intro (And.intro (by first | rfl | simp [D.ok, D.oks, D.okss, D.okm, upto, keyOk, eTms_len, hmn]) (by first | exact Or.inl rfl | exact Or.inr ⟨_, rfl, (by repeat first | exact VLe.refl _ | exact VLe.nil _ | exact VLe.untag _ _ _ | refine VLe.ag ?_ | refine VLe.tu ?_ | refine VLeL.cons ?_ ?_ | exact VLeL.nil), trivial⟩ | simp [get, Key.eq, eTms_len, hmn])) ?_))⟩
   ·rw [List.take_of_length_le (by omega)]
    refine dw_seq ?_; refine dwk [(45, .v (.bool false))] TP2_ok hnt fun K hK => ?_; refine And.intro auF ?_; refine hK _ _ ?_; clear hK K; refine dw_seq ?_; refine dw_cond (t := false) rfl ?_; rw [if_neg (by simp)]; refine dw_exit ?_; refine dw_seq ?_; refine dwk [] TP2_ok hnt fun K hK => ?_; refine hK _ _ ?_; clear hK K; refine dw_seq ?_; refine dwk [] TP2_ok hnt fun K hK => ?_; refine hK _ _ ?_; clear hK K
    refine dw_ret ?_
    exact reta rfl
end Go.Proofs.Ytcblpjheoclkeaa

namespace Go.Proofs.Ytcblpjheoclkeaa
open Go.RowKit

theorem eTm_zero : eTm Tm.zero = [.sl 2 [] none, .v (.int .i64 0), .v (.int .i64 0), .sl 4 [] none] := rfl
def tkρ (a b c d e : Nat) : Nat → Nat := fun k => if k = 0 then a else if k = 1 then b else if k = 2 then c else if k = 3 then d else e
theorem pturned_at (a b c d e : Nat) (hd : [a, b, c, d, e].Nodup) (n : Int) (vs : List Int) (hn : 0 ≤ n ∧ n ≤ 100000) (hl : vs.length ≤ 10000) (t : Tm) (ins er : Int) (h0 : 0 ≤ ins) (h1 : ins + t.full ≤ 100000) (h2 : lowB t = true) (h3 : t.full ≤ 100000) :
    CallC Try.prog 173 [.ag (eTm t), .v (.int .i64 ins), .fn 174 [.p a 0, .p b 0, .p c 0, .p e 0]]
      [(.c a 0, .v (.int .i64 n)), (.c b 0, .v (.int .i64 vs.length)), (.c c 0, .mo d), (.o d, .mp (eMp (Pn.atL vs 0))), (.c e 0, .v (.int .i64 er))]
      [(.c a 0, .v (.int .i64 n)), (.c b 0, .v (.int .i64 vs.length)), (.c c 0, .mo d), (.o d, .mp (eMp (Pn.atL vs 0))), (.c e 0, .v (.int .i64 (Pn.erB (Pn.tkB n vs t ins) er)))] (.ag (eTm (Pn.tk n vs t ins))) := by
  have h := (pturned_d n vs hn hl t ins er h0 h1 h2 h3).ren (tkρ a b c d e) (by simp [renOk, tkR, D.ok, D.oks, rnames, inN, ckey, eTm_ok, eTms_ok, eTys_ok, atL_ok]) (by
    intro k h1 k' h2
    simp only [List.nodup_cons, List.mem_cons, List.not_mem_nil, or_false, not_or] at hd
    obtain ⟨⟨d1, d2, d3, d4⟩, ⟨d5, d6, d7⟩, ⟨d8, d9⟩, d10, _⟩ := hd
    simp [rnames, tkR] at h1 h2
    rcases h1 with rfl | rfl | rfl | rfl | rfl <;> rcases h2 with rfl | rfl | rfl | rfl | rfl <;> simp [tkρ, *, Ne.symm, eq_comm])
  have hm : D.renm (tkρ a b c d e) (eMp (Pn.atL vs 0)) = eMp (Pn.atL vs 0) := D.renm_id (f := fun _ => false) (g := fun _ => false) (fun _ h => by cases h) _ (atL_ok _ _ _ _)
  simpa [D.ren, D.rens, eTm_ren, eTms_ren, tkR, renE, Key.ren, tkρ, hm] using h

namespace Pn
theorem tks_full (n : Int) (vs : List Int) (ins : Int) : ∀ (a : List Tm) (h : ∀ t ∈ a, ∀ ins, (tk n vs t ins).full = t.full), Tm.fulls (tks n vs a ins) = Tm.fulls a
  | [], _ => by rw [tks]
  | t :: a, h => by rw [tks, Tm.fulls, Tm.fulls, h t (by simp), tks_full n vs ins a fun t ht => h t (by simp [ht])]
theorem tk_full (n : Int) (vs : List Int) (t : Tm) : ∀ ins, (tk n vs t ins).full = t.full := by
  induction t using Tm.ind with
  | h bs k i a ih => intro ins; rw [tk_eq, Tm.full_eq, Tm.full_eq, tks_full n vs _ a ih]
theorem tk_fit (n : Int) (vs : List Int) (hn : 0 ≤ n ∧ n ≤ 100000) (hl : vs.length ≤ 10000) (t : Tm) : ∀ ins, 0 ≤ ins → ins + t.full ≤ 100000 → lowB t = true → t.Fit → (tk n vs t ins).Fit := by
  induction t using Tm.ind with
  | h bs k i a ih =>
    intro ins h0 h1 hlow hf
    rw [Tm.full_eq] at h1
    have hbl : bs.length ≤ Ty.sizes bs := Ty.le_sizes bs
    rw [lowB_eq] at hlow
    simp only [Bool.and_eq_true, Bool.not_eq_true', Tm.kind, Tm.index, Tm.args] at hlow
    rw [tk_eq]
    obtain ⟨f1, f2, f3⟩ := Tm.fit_iff.1 hf
    have hi : -9223372036854775808 ≤ (if k = 0 ∧ ins + (bs.length : Nat) ≤ i then ins + (bs.length : Nat) + go n vs (i - (ins + (bs.length : Nat))) else i) ∧ (if k = 0 ∧ ins + (bs.length : Nat) ≤ i then ins + (bs.length : Nat) + go n vs (i - (ins + (bs.length : Nat))) else i) ≤ 9223372036854775807 := by
      split
      · rename_i h
        have h9 : i ≤ 900000 := by
          by_cases h9 : 900000 < i
          · exact absurd hlow.1 (by simp [h.1, h9])
          · omega
        have := go_rng n vs (i - (ins + (bs.length : Nat))) (by omega) (by omega) hn hl
        omega
      · exact ⟨f1, f2⟩
    refine Tm.fit_iff.2 ⟨hi.1, hi.2, fun u hu => ?_⟩
    rw [tks_map] at hu
    obtain ⟨t, ht, rfl⟩ := List.mem_map.1 hu
    have := full_mem ht
    exact ih t ht _ (by omega) (by omega) (by have := hlow.2; rw [lowsB_all, List.all_eq_true] at this; exact this _ ht) (f3 t ht)
end Pn
set_option maxHeartbeats 2000000 in
theorem ptake_d (t : Tm) (binds : List Ty) (vs : List Int) (hb : binds.length ≤ 10000) (hl : vs.length ≤ 10000) (hz : Ty.sizes (Pn.types binds vs) + t.full ≤ 80000) (hlow : lowB t = true) (hfit : t.Fit) :
  PureC Try.prog 145 [.ag (eTm t), .sl 2 (eTys binds) none, .sl 1 (eIs vs) none] (.tu [.ag (eTm (Pn.take t binds vs).1), .v (.int .i64 (Pn.take t binds vs).2)]) := by
 have hty := fun (h : Pn.mayV binds.length vs = true) => ptypes_d binds vs (by omega) (by omega) (Pn.mayL_mem _ vs [] h)
 have hcat := concat_d [Pn.types binds vs, t.binds] (by simp [lens]; have := full_args t; have := Ty.le_sizes t.binds; have := Ty.le_sizes (Pn.types binds vs); omega) (by simp)
 have hcopy := copy_d (.mk (Pn.types binds vs ++ t.binds) (Pn.tk binds.length vs t 0).kind (Pn.tk binds.length vs t 0).index (Pn.tk binds.length vs t 0).args) (by
   rw [Tm.full_eq, Ty.sizes_append]
   have h1 := Pn.tk_full binds.length vs t 0
   have h2 := full_args (Pn.tk binds.length vs t 0)
   have h3 := full_args t
   have h4 : (Pn.tk binds.length vs t 0).binds = t.binds := by obtain ⟨b, k, i, a⟩ := t; rw [Pn.tk_eq]; rfl
   rw [h4] at h2
   omega) (by
   have := Pn.tk_fit binds.length vs ⟨by omega, by omega⟩ hl t 0 (by omega) (by omega) hlow hfit
   generalize Pn.tk binds.length vs t 0 = u at this ⊢
   obtain ⟨b, k, i, a⟩ := u
   exact Tm.fit_iff.2 (Tm.fit_iff.1 this))
 have htn := fun er => pturned_at 7 8 17 13 22 (by decide) binds.length vs ⟨by omega, by omega⟩ hl t 0 er (by omega) (by omega) hlow (by omega)
 have hno := places_no binds.length vs (by omega)
 have hok := places_ok binds.length vs (by omega)
 simp only [List.flatten_cons, List.flatten_nil, List.append_nil] at hcat
 have h4 : (Pn.tk binds.length vs t 0).binds = t.binds := by obtain ⟨b, k, i, a⟩ := t; rw [Pn.tk_eq]; rfl
 unfold Pn.take
 cases hm : Pn.mayV binds.length vs with
 | false =>
  have hno := hno hm
  rw [if_neg (by simp), eTm_zero, eTm_eq]
  refine calldw 0 44 [ResultVar.cell 6 34, ResultVar.tmp 7] TP2_ok Try.func145 rfl Try.ntmps145 rfl fun cx hnt hn0 => ?_
  ·skip
   refine dw_seq ?_; refine dwk [] TP2_ok hnt fun K hK => ?_; refine hK _ _ ?_; clear hK K; refine dw_seq ?_; refine dwk [(15, .v (.int .i64 (↑binds.length))), (17, .v (.int .i64 (↑vs.length)))] TP2_ok hnt fun K hK => ?_; refine And.intro (dintE (by rw [eTys_len])) ?_; refine And.intro (dintE (by rw [eIs_len])) ?_; refine hK _ _ ?_; clear hK K; refine dw_seq ?_; refine dwk [] TP2_ok hnt fun K hK => ?_
   refine dcl (hno) ?_; refine hK _ _ ?_; clear hK K; refine dw_seq ?_; refine dw_seq ?_; refine dwk [] TP2_ok hnt fun K hK => ?_; refine hK _ _ ?_; clear hK K; refine dw_cond (t := true) rfl ?_; rw [if_pos rfl]; refine dw_seq ?_; refine dwk [] TP2_ok hnt fun K hK => ?_; refine hK _ _ ?_; clear hK K; refine dw_ret ?_
   exact reta rfl
 | true =>
  have hok := hok hm
  have hty := hty hm
  rw [if_pos rfl]
  have htn := htn 0
  cases hB : Pn.tkB binds.length vs t 0 with
  | false =>
   rw [hB] at htn
   rw [if_neg (by simp), eTm_zero, eTm_eq]
   rw [eTm_eq, eTm_eq] at htn
   refine calldw 0 44 [ResultVar.cell 6 34, ResultVar.tmp 7] TP2_ok Try.func145 rfl Try.ntmps145 rfl fun cx hnt hn0 => ?_
   ·skip
    refine dw_seq ?_; refine dwk [] TP2_ok hnt fun K hK => ?_; refine hK _ _ ?_; clear hK K; refine dw_seq ?_; refine dwk [(15, .v (.int .i64 (↑binds.length))), (17, .v (.int .i64 (↑vs.length)))] TP2_ok hnt fun K hK => ?_; refine And.intro (dintE (by rw [eTys_len])) ?_; refine And.intro (dintE (by rw [eIs_len])) ?_; refine hK _ _ ?_; clear hK K; refine dw_seq ?_; refine dwk [] TP2_ok hnt fun K hK => ?_
    refine dcn (hok _) ?_; refine hK _ _ ?_; clear hK K; refine dw_seq ?_; refine dw_seq ?_; refine dwk [] TP2_ok hnt fun K hK => ?_; refine hK _ _ ?_; clear hK K; refine dw_cond (t := false) rfl ?_; rw [if_neg (by simp)]; refine dw_skip ?_; refine dw_seq ?_; refine dwk [] TP2_ok hnt fun K hK => ?_; refine hK _ _ ?_; clear hK K; refine dw_seq ?_; refine dwk [] TP2_ok hnt fun K hK => ?_; refine dcl (htn) ?_
    refine hK _ _ ?_; clear hK K; refine dw_seq ?_; refine dw_seq ?_; refine dwk [(31, .v (.bool true))] TP2_ok hnt fun K hK => ?_; refine And.intro (by first | exact dtrue (by simp [Pn.erB]) | exact VLe.of_eq (by simp [Pn.erB])) ?_; refine hK _ _ ?_; clear hK K; refine dw_cond (t := true) rfl ?_; rw [if_pos rfl]; refine dw_seq ?_; refine dwkD [] TP2_ok hnt fun K hK => ?_; refine hK _ _ (by kernel_rfl) ?_; clear hK K
    refine dw_ret ?_
    exact reta rfl
  | true =>
   rw [hB] at htn
   rw [if_pos rfl, eTm_eq]
   rw [eTm_eq, eTm_eq, h4] at htn
   rw [eTm_eq] at hcopy ⊢
   dsimp only [Tm.binds, Tm.kind, Tm.index, Tm.args] at hcopy ⊢
   refine calldw 0 44 [ResultVar.cell 6 34, ResultVar.tmp 7] TP2_ok Try.func145 rfl Try.ntmps145 rfl fun cx hnt hn0 => ?_
   ·skip
    refine dw_seq ?_; refine dwk [] TP2_ok hnt fun K hK => ?_; refine hK _ _ ?_; clear hK K; refine dw_seq ?_; refine dwk [(15, .v (.int .i64 (↑binds.length))), (17, .v (.int .i64 (↑vs.length)))] TP2_ok hnt fun K hK => ?_; refine And.intro (dintE (by rw [eTys_len])) ?_; refine And.intro (dintE (by rw [eIs_len])) ?_; refine hK _ _ ?_; clear hK K; refine dw_seq ?_; refine dwk [] TP2_ok hnt fun K hK => ?_
    refine dcn (hok _) ?_; refine hK _ _ ?_; clear hK K; refine dw_seq ?_; refine dw_seq ?_; refine dwk [] TP2_ok hnt fun K hK => ?_; refine hK _ _ ?_; clear hK K; refine dw_cond (t := false) rfl ?_; rw [if_neg (by simp)]; refine dw_skip ?_; refine dw_seq ?_; refine dwk [] TP2_ok hnt fun K hK => ?_; refine hK _ _ ?_; clear hK K; refine dw_seq ?_; refine dwk [] TP2_ok hnt fun K hK => ?_; refine dcl (htn) ?_
    refine hK _ _ ?_; clear hK K; refine dw_seq ?_; refine dw_seq ?_; refine dwk [(31, .v (.bool false))] TP2_ok hnt fun K hK => ?_; refine And.intro (by first | exact dfalse (by simp [Pn.erB]) | exact VLe.of_eq (by simp [Pn.erB])) ?_; refine hK _ _ ?_; clear hK K; refine dw_cond (t := false) rfl ?_; rw [if_neg (by simp)]; refine dw_skip ?_; refine dw_seq ?_; refine dwkD [(39, .sl 1 (eTyss [Pn.types binds vs, t.binds]) none)] TP2_ok hnt fun K hK => ?_
    refine dcl (hty) ?_; refine And.intro (VLe.untag _ _ _) ?_; refine dcl (hcat) ?_; refine hK _ _ (by kernel_rfl) ?_; clear hK K; refine dw_seq ?_; refine dwk [] TP2_ok hnt fun K hK => ?_; refine dcl (hcopy) ?_; refine hK _ _ ?_; clear hK K; refine dw_ret ?_
    exact reta rfl
end Go.Proofs.Ytcblpjheoclkeaa

namespace Go.Proofs.Ytcblpjheoclkeaa
open Go.RowKit

def CallG (P : Program) (f : FuncId) (args : List D) (R W : List (Key × D)) (V : D) : Prop :=
  entersB P f = true ∧ ∀ cx (Fr : Nat → Prop) m Im w a σ vs, St cx Fr m Im w a σ → RelL m Im w vs args → (∀ p ∈ R, get σ p.1 = some p.2) →
    Calls P f vs.toArray w fun e w' => ∃ v m' Im', e = .returned v ∧ St cx Fr m' Im' w' a (puts (dropT R σ) W) ∧ Rel m' Im' w' v V
theorem CallG.n {P : Program} {f : FuncId} {args : List D} {R W : List (Key × D)} {V : D} (h : CallG P f args R W V) (nm : Nat) : CallN P f args R nm W V :=
  ⟨h.1, fun cx Fr m Im w a σ vs _ hs hv hR => (h.2 cx Fr m Im w a σ vs hs hv hR).mono fun e w' ⟨v, m', Im', q1, q2, q3⟩ => ⟨v, m', Im', q1, q2.less fun k hk => hk.1, q3⟩⟩
theorem CallG.vle {P : Program} {f : FuncId} {args args' : List D} {R W : List (Key × D)} {V V' : D} (h : CallG P f args R W V) (ha : VLeL args' args) (hv : VLe V V') : CallG P f args' R W V' := by
  refine ⟨h.1, fun cx Fr m Im w a σ vs hs hr hR => (h.2 cx Fr m Im w a σ vs hs ?_ hR).mono ?_⟩
  · rw [relL_iff] at hr ⊢
    refine ⟨hr.1.trans ha.1, fun i hi => ?_⟩
    have hi' : i < args'.length := by rw [ha.1]; exact hi
    exact ha.2 i hi' hi m Im w _ (hr.2 i hi')
  · rintro e w' ⟨v, m', Im', rfl, h1, h2⟩
    exact ⟨v, m', Im', rfl, h1, hv _ _ _ _ h2⟩
def rowsR (R : List (Key × D)) : List Nat := R.filterMap fun p => match p.1 with | .r g => some g | _ => none
def rowN (R : List (Key × D)) : Nat → Bool := fun g => (rowsR R).contains g
theorem mem_rowsR {R : List (Key × D)} {g : Nat} {d : D} (h : (Key.r g, d) ∈ R) : rowN R g = true := by
  unfold rowN; rw [List.contains_iff_mem]; exact List.mem_filterMap.2 ⟨_, h, rfl⟩
theorem of_rowsR {R : List (Key × D)} {g : Nat} (h : rowN R g = true) : ∃ d, (Key.r g, d) ∈ R := by
  unfold rowN at h; rw [List.contains_iff_mem] at h
  obtain ⟨p, hp, e⟩ := List.mem_filterMap.1 h
  obtain ⟨key, d⟩ := p
  cases key with
  | r g' => simp at e; subst e; exact ⟨d, hp⟩
  | _ => cases e
def gkey : Key → Bool
  | .c _ _ => true
  | .o _ => true
  | .r _ => true
  | _ => false
def wordsG (args : List D) (R W : List (Key × D)) (V : D) (N0 : Nat) : Bool :=
  args.all (fun d => d.ok (inN R) (rowN R)) && R.all (fun p => p.2.ok (inN R) (rowN R) && gkey p.1) && W.all (fun p => p.2.ok (inN R) (rowN R) && (match p.1 with | .c k _ => inN R k | .o k => inN R k | .r g => rowN R g | _ => false)) && V.ok (inN R) (rowN R) && (rnames R).all (fun k => decide (k < N0)) && (rowsR R).all (fun g => decide (g < N0) && W.any fun p => Key.eq p.1 (.r g))
set_option maxHeartbeats 2000000 in
theorem callG_of_dw {P : Program} {T : List (Nat × TI)} {f : FuncId} {fn : Func} {c : Code} {args : List D} {R W : List (Key × D)} {V : D} (N0 nt : Nat) (rs : List ResultVar) (hT : TabOk P T) (hen : entersB P f = true) (hf : P.funcs[f]? = some fn) (hb : fn.body = some c) (hnt : fn.ntmps = nt) (hrs : fn.results.toList = rs)
    (hal : args.length ≤ nt) (hw : wordsG args R W V N0 = true) (h : ∀ cx : Cx, cx.nt = nt → cx.n0 = N0 → DW P cx c (argsT 0 args R) N0 (RetOk T rs V W)) : CallG P f args R W V := by
  refine ⟨hen, fun cx Fr m Im w a σ vs hs0 hargs hR => ?_⟩
  have hmem := hs0.mem
  simp only [wordsG, Bool.and_eq_true, List.all_eq_true, decide_eq_true_eq] at hw
  obtain ⟨⟨⟨⟨⟨w1, w2⟩, w3⟩, w4⟩, w5⟩, w6⟩ := hw
  have hRc : ∀ k off d, (Key.c k off, d) ∈ R → ∃ b v, m.blk k = some b ∧ w.cell? ⟨b, off, none⟩ = some v ∧ Rel m Im w v d := fun k off d hm => hs0.ce k off d (hR _ hm)
  have hRo : ∀ k d, (Key.o k, d) ∈ R → ∃ b, m.obj k = some b ∧ ObOk m Im w b d := fun k d hm => hs0.ok k d (hR _ hm)
  have hRr : ∀ g d, (Key.r g, d) ∈ R → ∃ Rw, m.row g = some Rw ∧ RoOk m Im w Rw d := fun g d hm => hs0.ro g d (hR _ hm)
  let RB : Nat → Prop := fun b => ∃ g Rw, rowN R g = true ∧ m.row g = some Rw ∧ Rw.hv.ownBlock = some b
  have hnoj : ∀ X J, (Key.j, D.j X J) ∉ R := fun X J hm => by have := (w2 _ hm).2; cases this
  have hin : ∀ k b, inN R k = true → m.blk k = some b → Tch m R b := fun k b hk hb => by
    rcases of_rnames hk with ⟨off, d, hm⟩ | ⟨d, hm⟩
    · exact .inl ⟨k, off, d, hm, hb⟩
    · obtain ⟨b', q1, _⟩ := hRo _ _ hm
      have := hmem.dis k b hb
      rw [this] at q1; cases q1
  have hino : ∀ k b, inN R k = true → m.obj k = some b → Tch m R b := fun k b hk hb => by
    rcases of_rnames hk with ⟨off, d, hm⟩ | ⟨d, hm⟩
    · obtain ⟨b', v, q1, _⟩ := hRc _ _ _ hm
      have := hmem.dis k b' q1
      rw [this] at hb; cases hb
    · exact .inr (.inr ⟨k, d, hm, hb⟩)
  have hlt : ∀ k, inN R k = true → k < N0 := fun k hk => w5 k (by unfold inN at hk; rwa [List.contains_iff_mem] at hk)
  have hltr : ∀ g, rowN R g = true → g < N0 := fun g hg => (w6 g (by unfold rowN at hg; rwa [List.contains_iff_mem] at hg)).1
  have hTb : ∀ b k, Tch m R b → m.blk k = some b → inN R k = true := fun b k ht hk => by
    rcases ht with ⟨k', off, d, hm, hb⟩ | ⟨X, J, hm, _⟩ | ⟨k', d, hm, hb⟩
    · have := hmem.inj k k' b hk hb; subst this; exact mem_rnames hm
    · exact absurd hm (hnoj X J)
    · exact absurd hk (hmem.oblk k' k b hb)
  have hTo : ∀ b k, Tch m R b → m.obj k = some b → inN R k = true := fun b k ht hk => by
    rcases ht with ⟨k', off, d, hm, hb⟩ | ⟨X, J, hm, _⟩ | ⟨k', d, hm, hb⟩
    · exact absurd hb (hmem.oblk k k' b hk)
    · exact absurd hm (hnoj X J)
    · have := hmem.oinj k k' b hk hb; subst this; exact mem_rnamesO hm
  have hTr : ∀ b g Rw, Tch m R b → m.row g = some Rw → Rw.hv.ownBlock ≠ some b := fun b g Rw ht hg e => by
    rcases ht with ⟨k', off, d, hm, hb⟩ | ⟨X, J, hm, _⟩ | ⟨k', d, hm, hb⟩
    · exact hmem.rblk g Rw b k' hg e hb
    · exact absurd hm (hnoj X J)
    · exact hmem.orow k' g Rw b hb hg e
  have hTown : ∀ b, Tch m R b → cx.C b ∨ cx.w0.heap.size ≤ b := fun b ht => by
    rcases ht with ⟨k', off, d, hm, hb⟩ | ⟨X, J, hm, _⟩ | ⟨k', d, hm, hb⟩
    · exact hmem.own k' b hb
    · exact absurd hm (hnoj X J)
    · exact hmem.oown k' b hb
  have hTim : ∀ b o, Tch m R b → ¬ Im b o := fun b o ht => by
    rcases ht with ⟨k', off, d, hm, hb⟩ | ⟨X, J, hm, _⟩ | ⟨k', d, hm, hb⟩
    · exact hmem.nim k' b o hb
    · exact absurd hm (hnoj X J)
    · exact hmem.onim k' b o hb
  have hTX : ∀ b X J, Tch m R b → XOk cx m Im w X J → ¬ X b := fun b X J ht hX hb => by
    rcases ht with ⟨k', off, d, hm, hb'⟩ | ⟨X', J', hm, _⟩ | ⟨k', d, hm, hb'⟩
    · exact hX.blk b k' hb hb'
    · exact hnoj X' J' hm
    · exact hX.obj b k' hb hb'
  refine calls_of_wp hf hb ?_
  let cx' : Cx := { w0 := w, C := fun b => Tch m R b ∨ RB b, Im0 := Im, m0 := m.cut (inN R) (rowN R), nt := nt, n0 := N0, h0 := fun k b hk => hlt k (Mp.cut_blk hk).1, h0o := fun k b hk => hlt k (Mp.cut_obj hk).1, CR := RB, hCR := fun b h => .inr h, h0r := fun g Rw hg => hltr g (Mp.cut_row hg).1 }
  have hst : St cx' (fun k => N0 ≤ k) (m.cut (inN R) (rowN R)) Im w { tmps := vs.toArray ++ Array.replicate (fn.ntmps - vs.toArray.size) undef, defers := [] } (argsT 0 args R) := by
    have hvl : vs.length = args.length := (relL_iff.1 hargs).1
    refine ⟨{
      off := Off.refl _ _, im := hmem.im, imb := fun b o h => .inl h, im0 := fun b o h => h
      own := fun k b hk => .inl (.inl (hin k b (Mp.cut_blk hk).1 (Mp.cut_blk hk).2))
      lt := fun k b hk => hmem.lt k b (Mp.cut_blk hk).2
      free := fun k b o hk => hmem.free k b o (Mp.cut_blk hk).2
      nim := fun k b o hk => hmem.nim k b o (Mp.cut_blk hk).2
      inj := fun k k' b hk hk' => hmem.inj k k' b (Mp.cut_blk hk).2 (Mp.cut_blk hk').2
      row := fun g R hg => hmem.row g R (Mp.cut_row hg).2
      rIm := fun g R b o hg => hmem.rIm g R b o (Mp.cut_row hg).2
      rblk := fun g R b k hg hb hk => hmem.rblk g R b k (Mp.cut_row hg).2 hb (Mp.cut_blk hk).2
      rinj := fun g g' R R' b hg hg' => hmem.rinj g g' R R' b (Mp.cut_row hg).2 (Mp.cut_row hg').2
      fr := fun k hk => ⟨?f1, ?f2, ?f3⟩
      m0 := fun k b hk => hk
      m0o := fun k b hk => hk
      oown := fun k b hk => .inl (.inl (hino k b (Mp.cut_obj hk).1 (Mp.cut_obj hk).2))
      olt := fun k b hk => hmem.olt k b (Mp.cut_obj hk).2
      onim := fun k b o hk => hmem.onim k b o (Mp.cut_obj hk).2
      oinj := fun k k' b hk hk' => hmem.oinj k k' b (Mp.cut_obj hk).2 (Mp.cut_obj hk').2
      oblk := fun k k' b hk hk' => hmem.oblk k k' b (Mp.cut_obj hk).2 (Mp.cut_blk hk').2
      orow := fun k g R b hk hg => hmem.orow k g R b (Mp.cut_obj hk).2 (Mp.cut_row hg).2
      dis := fun k b hk => ?dis
      k0 := KeepI.refl _ _
      rown := fun g Rw b hg hb => .inr ⟨g, Rw, (Mp.cut_row hg).1, (Mp.cut_row hg).2, hb⟩
      m0r := fun g Rw hg => ⟨Rw, hg, Nat.le_refl _, fun _ => rfl⟩ }, rfl, ?sz, fun x d hx => ?tm, fun k off d hx => ?ce, fun g d hx => ?ro, fun d hx => ?jk, fun k d hx => ?okk⟩
    case f1 =>
      by_cases hk2 : inN R k = true
      · have := hlt k hk2; omega
      · simp [Mp.cut, hk2]
    case f2 =>
      by_cases hk2 : rowN R k = true
      · have := hltr k hk2; omega
      · simp [Mp.cut, hk2]
    case f3 =>
      by_cases hk2 : inN R k = true
      · have := hlt k hk2; omega
      · simp [Mp.cut, hk2]
    case dis =>
      have := hmem.dis k b (Mp.cut_blk hk).2
      show (if _ then m.obj k else none) = none
      rw [this]; simp
    case sz => simp [cx', hvl, hnt]; omega
    case tm =>
      rcases get_argsT args 0 x hx with ⟨j, h1, h2⟩ | hx
      · have hj : j < args.length := by
          rcases Nat.lt_or_ge j args.length with h' | h'
          · exact h'
          · rw [List.getElem?_eq_none h'] at h2; cases h2
        rw [List.getElem?_eq_getElem hj] at h2
        cases h2
        have hr := (relL_iff.1 hargs).2 j hj
        have hx' : x = j := by omega
        subst hx'
        have : (vs.toArray ++ Array.replicate (fn.ntmps - vs.toArray.size) undef).getD x undef = vs.getD x undef := by
          have hx2 : x < vs.length := by omega
          rw [Array.getD_eq_getD_getElem?, Array.getElem?_append_left (by simpa using hx2), List.getD_eq_getElem?_getD]
          simp
        show Rel _ _ _ ((vs.toArray ++ Array.replicate (fn.ntmps - vs.toArray.size) undef).getD x undef) _
        rw [this]
        exact hr.cut (w1 _ (List.getElem_mem hj))
      · have := (w2 _ (mem_of_get hx)).2
        cases this
    case ce =>
      rw [get_argsN (fun x => by simp) args 0] at hx
      have hm := mem_of_get hx
      obtain ⟨b, v, q1, q2, q3⟩ := hRc _ _ _ hm
      exact ⟨b, v, by simp only [Mp.cut, mem_rnames hm, if_true]; exact q1, q2, q3.cut (w2 _ hm).1⟩
    case ro =>
      rw [get_argsN (fun x => by simp) args 0] at hx
      have hm := mem_of_get hx
      obtain ⟨Rw, q1, q2⟩ := hRr _ _ hm
      exact ⟨Rw, by simp only [Mp.cut, mem_rowsR hm, if_true]; exact q1, q2.cut (w2 _ hm).1⟩
    case jk =>
      rw [get_argsN (fun x => by simp) args 0] at hx
      have := (w2 _ (mem_of_get hx)).2
      cases this
    case okk =>
      rw [get_argsN (fun x => by simp) args 0] at hx
      have hm := mem_of_get hx
      obtain ⟨b, q1, q2⟩ := hRo _ _ hm
      exact ⟨b, by simp only [Mp.cut, mem_rnamesO hm, if_true]; exact q1, q2.cut (w2 _ hm).1⟩
  refine Code.wp_mono (fun e a' w' ⟨σ', N', m', Im', ⟨hq1, ⟨V', hq2, hq3⟩, hq4⟩, hs⟩ => ?_) (h cx' rfl rfl _ Im w _ hst)
  obtain ⟨v, r1, r2⟩ := resD_run (P := P) (fn := fn) hT hs (by rw [hrs]; exact hq2)
  have hmem' := hs.mem
  have hoff : Off (fun b => Tch m R b ∨ RB b) w w' := hmem'.off
  have hki : KeepI Im w w' := hmem'.k0
  have hi : ∀ b o, Im b o → Im' b o := hmem'.im0
  have hib : ∀ b o, Im' b o → Im b o ∨ w.heap.size ≤ b ∨ RB b := hmem'.imb
  have hrown : ∀ g Rw b, m'.row g = some Rw → Rw.hv.ownBlock = some b → w.heap.size ≤ b ∨ RB b := hmem'.rown
  have hsame : ∀ b, b < w.heap.size → ¬ Tch m R b → ¬ RB b → w'.heap[b]? = w.heap[b]? := fun b hb h1 h2 => hoff.block b hb fun h => h.elim h1 h2
  have hmb : ∀ k b, inN R k = true → m.blk k = some b → m'.blk k = some b := fun k b hk hb => hmem'.m0 k b (by show (m.cut (inN R) (rowN R)).blk k = some b; simp [Mp.cut, hk, hb])
  have hmo : ∀ k b, inN R k = true → m.obj k = some b → m'.obj k = some b := fun k b hk hb => hmem'.m0o k b (by show (m.cut (inN R) (rowN R)).obj k = some b; simp [Mp.cut, hk, hb])
  have hm' : ∀ k b, inN R k = true → m'.blk k = some b → m.blk k = some b := fun k b hk hb => by
    rcases of_rnames hk with ⟨off, d, hm⟩ | ⟨d, hm⟩
    · obtain ⟨b', _, q1, _⟩ := hRc _ _ _ hm
      have := hmb k b' hk q1
      rw [this] at hb; cases hb; exact q1
    · obtain ⟨b', q1, _⟩ := hRo _ _ hm
      have := hmo k b' hk q1
      rw [hmem'.dis k b hb] at this; cases this
  have hmo' : ∀ k b, inN R k = true → m'.obj k = some b → m.obj k = some b := fun k b hk hb => by
    rcases of_rnames hk with ⟨off, d, hm⟩ | ⟨d, hm⟩
    · obtain ⟨b', _, q1, _⟩ := hRc _ _ _ hm
      have := hmb k b' hk q1
      rw [hmem'.dis k b' this] at hb; cases hb
    · obtain ⟨b', q1, _⟩ := hRo _ _ hm
      have := hmo k b' hk q1
      rw [this] at hb; cases hb; exact q1
  let m2 : Mp := ⟨m.blk, fun g => if rowN R g then m'.row g else m.row g, m.obj⟩
  have h2r : ∀ {g Rw}, m2.row g = some Rw → (rowN R g = true ∧ m'.row g = some Rw) ∨ (rowN R g = false ∧ m.row g = some Rw) := fun {g Rw} hg => by
    cases hr : rowN R g with
    | true => left; simp [m2, hr] at hg; exact ⟨rfl, hg⟩
    | false => right; simp [m2, hr] at hg; exact ⟨rfl, hg⟩
  have hRBr : ∀ b g Rw, RB b → m.row g = some Rw → Rw.hv.ownBlock = some b → rowN R g = true := fun b g Rw ⟨g2, R2, q1, q2, q3⟩ hg ho => by
    have := hmem.rinj g2 g R2 Rw b q2 hg q3 ho
    subst this; exact q1
  have hRBb : ∀ b k, RB b → m.blk k ≠ some b := fun b k ⟨g2, R2, q1, q2, q3⟩ => hmem.rblk g2 R2 b k q2 q3
  have hRBo : ∀ b k, RB b → m.obj k ≠ some b := fun b k ⟨g2, R2, q1, q2, q3⟩ hk => hmem.orow k g2 R2 b hk q2 q3
  have hRBw : ∀ b, RB b → cx.w0.heap.size ≤ b ∨ cx.CR b := fun b ⟨g2, R2, q1, q2, q3⟩ => hmem.rown g2 R2 b q2 q3
  have hrlt : ∀ g Rw b, m.row g = some Rw → Rw.hv.ownBlock = some b → b < w.heap.size := fun g Rw b hg ho => by
    obtain ⟨xs, hx⟩ := hmem.row g Rw hg
    exact (row_lt hx ho).2
  have hle : m.le m2 := ⟨fun _ _ h => h, fun g Rw hg => by
    cases hr : rowN R g with
    | true =>
      obtain ⟨R', q1, q2⟩ := hmem'.m0r g Rw (by show (m.cut (inN R) (rowN R)).row g = some Rw; simp [Mp.cut, hr, hg])
      exact ⟨R', by simp [m2, hr, q1], q2⟩
    | false => exact ⟨Rw, by simp [m2, hr, hg], Nat.le_refl _, fun _ => rfl⟩, fun _ _ h => h⟩
  have hcutle : (m'.cut (inN R) (rowN R)).le m2 := ⟨fun k b hk => hm' k b (Mp.cut_blk hk).1 (Mp.cut_blk hk).2, fun g Rw hg => ⟨Rw, by simp [m2, (Mp.cut_row hg).1, (Mp.cut_row hg).2], Nat.le_refl _, fun _ => rfl⟩, fun k b hk => hmo' k b (Mp.cut_obj hk).1 (Mp.cut_obj hk).2⟩
  have hrel : ∀ {x d}, Rel m' Im' w' x d → d.ok (inN R) (rowN R) = true → Rel m2 Im' w' x d := fun hx hd => (hx.cut hd).mono hcutle (KeepI.refl _ _) fun _ _ h => h
  have hmono : ∀ {x d}, Rel m Im w x d → Rel m2 Im' w' x d := fun hx => hx.mono hle hki hi
  have hmem2 : MemOk cx Fr m2 Im' w' := {
    off := ⟨hoff.os.trans hmem.off.os, hoff.tape.trans hmem.off.tape, hoff.output.trans hmem.off.output, Nat.le_trans hmem.off.size hoff.size, fun b hb hC => (hsame b (Nat.lt_of_lt_of_le hb hmem.off.size) (fun h => (hTown b h).elim hC fun h => Nat.lt_irrefl _ (Nat.lt_of_lt_of_le hb h)) (fun h => (hRBw b h).elim (fun h => Nat.lt_irrefl _ (Nat.lt_of_lt_of_le hb h)) fun h => hC (cx.hCR b h))).trans (hmem.off.block b hb hC)⟩
    im := hmem'.im
    imb := fun b o hh => by
      rcases hib b o hh with h1 | h1 | h1
      · exact hmem.imb b o h1
      · exact .inr (.inl (Nat.le_trans hmem.off.size h1))
      · exact .inr (hRBw b h1)
    im0 := fun b o hh => hi b o (hmem.im0 b o hh)
    own := hmem.own
    lt := fun k b hk => Nat.lt_of_lt_of_le (hmem.lt k b hk) hoff.size
    free := fun k b o hk => by
      cases hn : inN R k with
      | true => exact hmem'.free k b o (hmb k b hn hk)
      | false => exact (World.frozen?_of_block (a := ⟨b, o, none⟩) (hsame b (hmem.lt k b hk) (fun h => by rw [hTb b k h hk] at hn; cases hn) fun h => hRBb b k h hk)).trans (hmem.free k b o hk)
    nim := fun k b o hk hh => by
      cases hn : inN R k with
      | true => exact hmem'.nim k b o (hmb k b hn hk) hh
      | false =>
        rcases hib b o hh with h1 | h1 | h1
        · exact hmem.nim k b o hk h1
        · have := hmem.lt k b hk; omega
        · exact hRBb b k h1 hk
    inj := hmem.inj
    row := fun g Rw hg => by
      rcases h2r hg with ⟨_, hg⟩ | ⟨hn, hg⟩
      · exact hmem'.row g Rw hg
      · obtain ⟨xs, hx⟩ := hmem.row g Rw hg
        refine ⟨xs, hx.1, ?_⟩
        rcases hx.2 with h0 | ⟨g', cap, cur, e, h1, h2, h3⟩
        · exact .inl h0
        · refine .inr ⟨g', cap, cur, e, h1, ?_, h3⟩
          have ho : Rw.hv.ownBlock = some g' := by rw [e]; rfl
          rw [hsame g' (lt_of_block h2) (fun ht => hTr g' g Rw ht hg ho) fun ht => by rw [hRBr g' g Rw ht hg ho] at hn; cases hn]; exact h2
    rIm := fun g Rw b o hg ho hh => by
      rcases h2r hg with ⟨_, hg⟩ | ⟨hn, hg⟩
      · exact hmem'.rIm g Rw b o hg ho hh
      · rcases hib b o hh with h1 | h1 | h1
        · exact hmem.rIm g Rw b o hg ho h1
        · have := hrlt g Rw b hg ho; omega
        · rw [hRBr b g Rw h1 hg ho] at hn; cases hn
    rblk := fun g Rw b k hg ho hk => by
      rcases h2r hg with ⟨_, hg⟩ | ⟨hn, hg⟩
      · rcases hrown g Rw b hg ho with h1 | h1
        · have := hmem.lt k b hk; omega
        · exact hRBb b k h1 hk
      · exact hmem.rblk g Rw b k hg ho hk
    rinj := fun g g' Rw Rw' b hg hg' ho ho' => by
      rcases h2r hg with ⟨hn, hg⟩ | ⟨hn, hg⟩ <;> rcases h2r hg' with ⟨hn', hg'⟩ | ⟨hn', hg'⟩
      · exact hmem'.rinj g g' Rw Rw' b hg hg' ho ho'
      · rcases hrown g Rw b hg ho with h1 | h1
        · have := hrlt g' Rw' b hg' ho'; omega
        · rw [hRBr b g' Rw' h1 hg' ho'] at hn'; cases hn'
      · rcases hrown g' Rw' b hg' ho' with h1 | h1
        · have := hrlt g Rw b hg ho; omega
        · rw [hRBr b g Rw h1 hg ho] at hn; cases hn
      · exact hmem.rinj g g' Rw Rw' b hg hg' ho ho'
    fr := fun k hk => ⟨(hmem.fr k hk).1, by
      cases hn : rowN R k with
      | true =>
        obtain ⟨d, hm⟩ := of_rowsR hn
        obtain ⟨Rw, q1, _⟩ := hRr _ _ hm
        rw [(hmem.fr k hk).2.1] at q1; cases q1
      | false => simp [m2, hn, (hmem.fr k hk).2.1], (hmem.fr k hk).2.2⟩
    m0 := hmem.m0
    m0o := hmem.m0o
    oown := hmem.oown
    olt := fun k b hk => Nat.lt_of_lt_of_le (hmem.olt k b hk) hoff.size
    onim := fun k b o hk hh => by
      cases hn : inN R k with
      | true => exact hmem'.onim k b o (hmo k b hn hk) hh
      | false =>
        rcases hib b o hh with h1 | h1 | h1
        · exact hmem.onim k b o hk h1
        · have := hmem.olt k b hk; omega
        · exact hRBo b k h1 hk
    oinj := hmem.oinj
    oblk := hmem.oblk
    orow := fun k g Rw b hk hg ho => by
      rcases h2r hg with ⟨_, hg⟩ | ⟨hn, hg⟩
      · rcases hrown g Rw b hg ho with h1 | h1
        · have := hmem.olt k b hk; omega
        · exact hRBo b k h1 hk
      · exact hmem.orow k g Rw b hk hg ho
    dis := hmem.dis
    k0 := hmem.k0.trans (hki.weaken hmem.im0)
    rown := fun g Rw b hg ho => by
      rcases h2r hg with ⟨_, hg⟩ | ⟨hn, hg⟩
      · rcases hrown g Rw b hg ho with h1 | h1
        · exact .inl (Nat.le_trans hmem.off.size h1)
        · exact hRBw b h1
      · exact hmem.rown g Rw b hg ho
    m0r := hmem.m0r_le hle }
  have hg0 : ∀ k, get (dropT R σ) k = if touches R k then none else get σ k := fun k => by
    unfold dropT
    rw [get_filter (fun k => !touches R k)]
    cases touches R k <;> rfl
  let keep : Key → Bool := fun k => match k with | .r g => !rowN R g | _ => true
  have hg1 : ∀ k, get ((dropT R σ).filter fun p => keep p.1) k = if keep k then get (dropT R σ) k else none := fun k => get_filter keep _ k
  have hst1 : St cx Fr m2 Im' w' a ((dropT R σ).filter fun p => keep p.1) := by
    refine ⟨hmem2, hs0.df, hs0.nt, fun x d hx => ?_, fun k off d hx => ?_, fun g d hx => ?_, fun d hx => ?_, fun k d hx => ?_⟩
    · rw [hg1, if_pos rfl, hg0] at hx; simp only [touches] at hx; exact hmono (hs0.tm x d hx)
    · rw [hg1, if_pos rfl, hg0] at hx
      by_cases ht : touches R (.c k off) = true
      · rw [if_pos ht] at hx; cases hx
      · rw [if_neg ht] at hx
        obtain ⟨b, u, q1, q2, q3⟩ := hs0.ce k off d hx
        refine ⟨b, u, q1, ?_, hmono q3⟩
        refine (World.cell?_of_block (a := ⟨b, off, none⟩) (hsame b (ltOfCell q2) (fun hb => ?_) fun hb => hRBb b k hb q1)).trans q2
        rcases hb with ⟨k', off', d', hm, hb⟩ | ⟨X, J, hm, hb⟩ | ⟨k', d', hm, hb⟩
        · have := hmem.inj k k' b q1 hb
          subst this
          exact ht (by simp only [touches, List.any_eq_true]; exact ⟨_, hm, by simp⟩)
        · exact absurd hm (hnoj X J)
        · exact hmem.oblk k' k b hb q1
    · rw [hg1] at hx
      cases hn : rowN R g with
      | true => simp [keep, hn] at hx
      | false =>
        rw [if_pos (by simp [keep, hn]), hg0] at hx; simp only [touches] at hx
        obtain ⟨Rw, q1, q2⟩ := hs0.ro g d hx
        exact ⟨Rw, by simp [m2, hn, q1], q2.mono (fun b hb => hsame b (hmem.rlt q1 hb) (fun ht => hTr b g Rw ht q1 hb) fun ht => by rw [hRBr b g Rw ht q1 hb] at hn; cases hn) hle hki hi fun b o hb hh => (hib b o hh).elim id fun h2 => h2.elim (fun h2 => absurd (hmem.rlt q1 hb) (Nat.not_lt.2 h2)) fun ht => by rw [hRBr b g Rw ht q1 hb] at hn; cases hn⟩
    · rw [hg1, if_pos rfl, hg0] at hx
      have ht : touches R .j = false := by
        cases ht : touches R .j with
        | false => rfl
        | true =>
          simp only [touches, List.any_eq_true] at ht
          obtain ⟨⟨k, d'⟩, hp, hj⟩ := ht
          cases k <;> simp [isJ] at hj
          have := (w2 _ hp).2; cases this
      rw [ht] at hx
      obtain ⟨X, J, e, hX⟩ := hs0.jk d hx
      have hRX : ∀ b, X b → ¬ RB b := fun b hb ⟨g2, R2, q1, q2, q3⟩ => hX.row b g2 R2 hb q2 q3
      have hxs : ∀ b, X b → w'.heap[b]? = w.heap[b]? := fun b hb => hsame b (hX.lt b hb) (fun ht => hTX b X J ht hX hb) (hRX b hb)
      refine ⟨X, J, e, hX.stable _ hoff.size hxs, fun w2 hs2 hx2 => hX.stable w2 (Nat.le_trans hoff.size hs2) fun b hb => (hx2 b hb).trans (hxs b hb), fun b hb => Nat.lt_of_lt_of_le (hX.lt b hb) hoff.size, hX.own, fun b o hb hh => ?_, hX.blk, fun b g Rw hb hg ho => ?_, hX.obj⟩
      · rcases hib b o hh with h1 | h1 | h1
        · exact hX.nim b o hb h1
        · have := hX.lt b hb; omega
        · exact hRX b hb h1
      · rcases h2r hg with ⟨_, hg⟩ | ⟨hn, hg⟩
        · rcases hrown g Rw b hg ho with h1 | h1
          · have := hX.lt b hb; omega
          · exact hRX b hb h1
        · exact hX.row b g Rw hb hg ho
    · rw [hg1, if_pos rfl, hg0] at hx
      by_cases ht : touches R (.o k) = true
      · rw [if_pos ht] at hx; cases hx
      · rw [if_neg ht] at hx
        obtain ⟨b, q1, q2⟩ := hs0.ok k d hx
        refine ⟨b, q1, q2.mono (hsame b (hmem.olt k b q1) (fun hT => ?_) fun hb => hRBo b k hb q1) hle hki hi⟩
        rcases hT with ⟨k', off', d', hm, hb'⟩ | ⟨X', J', hm, hb'⟩ | ⟨k', d', hm, hb'⟩
        · exact hmem.oblk k k' b q1 hb'
        · exact hnoj X' J' hm
        · have := hmem.oinj k k' b q1 hb'
          subst this
          exact ht (by simp only [touches, List.any_eq_true]; exact ⟨_, hm, by simp⟩)
  have hW : Holds cx m2 Im' w' W := fun p hp => by
    have hok := w3 p hp
    have hg := hq4 p hp
    obtain ⟨key, d⟩ := p
    cases key with
    | c k off =>
      have hk : inN R k = true := hok.2
      rcases hg with hg | ⟨d', hg, e, _⟩
      · obtain ⟨b, x, q1, q2, q3⟩ := hs.ce k off d hg
        exact ⟨b, x, hm' k b hk q1, q2, hrel q3 hok.1⟩
      · obtain ⟨b, x, q1, q2, q3⟩ := hs.ce k off d' hg
        exact ⟨b, x, hm' k b hk q1, q2, hrel (e _ _ _ _ q3) hok.1⟩
    | o k =>
      have hk : inN R k = true := hok.2
      rcases hg with hg | ⟨d', hg, e, hf⟩
      · obtain ⟨b, q1, q2⟩ := hs.ok k d hg
        exact ⟨b, hmo' k b hk q1, (q2.cut hok.1).mono rfl hcutle (KeepI.refl _ _) fun _ _ h => h⟩
      · exact hf.elim
    | r g =>
      have hk : rowN R g = true := hok.2
      rcases hg with hg | ⟨d', hg, e, hf⟩
      · obtain ⟨Rw, q1, q2⟩ := hs.ro g d hg
        exact ⟨Rw, by simp [m2, hk, q1], (q2.cut hok.1).mono (fun _ _ => rfl) hcutle (KeepI.refl _ _) (fun _ _ h => h) fun _ _ _ h => h⟩
      · exact hf.elim
    | j => cases hok.2
    | t x => cases hok.2
  have hst2 := (hst1.putHolds hW).sub (σ' := puts (dropT R σ) W) fun k d hk => by
    by_cases hW : ∃ p ∈ W, p.1 = k
    · rw [← hk]; exact get_puts_in W _ _ k hW
    · have hW' : ∀ p ∈ W, p.1 ≠ k := fun p hp e => hW ⟨p, hp, e⟩
      rw [get_puts_not W _ _ hW'] at hk ⊢
      rw [hg1, if_pos]
      · exact hk
      · cases k with
        | r g =>
          show (!rowN R g) = true
          cases hn : rowN R g with
          | false => rfl
          | true =>
            have := (w6 g (by unfold rowN at hn; rwa [List.contains_iff_mem] at hn)).2
            simp only [List.any_eq_true] at this
            obtain ⟨p, hp, e⟩ := this
            exact absurd (Key.eq_iff.1 e) (hW' p hp)
        | _ => rfl
  have hfin : ∃ v' m2 Im2, Ending.returned v = .returned v' ∧ St cx Fr m2 Im2 w' a (puts (dropT R σ) W) ∧ Rel m2 Im2 w' v' V :=
    ⟨v, m2, Im', rfl, hst2, hrel (hq3 _ _ _ _ r2) w4⟩
  rcases hq1 with rfl | rfl
  · exact ⟨hs.df, v, r1, hfin⟩
  · exact ⟨hs.df, v, r1, hfin⟩
end Go.Proofs.Ytcblpjheoclkeaa

