/-
  Check: rule's and the document's. The known answer of the laws of layer 17. RuleOwns, walked in the deep way. A rule in its own numbers is a rule, in plain Lean. A typed pair in its own numbers: typed, a rule just where the pair is one; plain. subst.Apply, walked in the deep way. The known answer of the laws of layer 9. rule.Instance, walked in the deep way. Swap of rule and of the document. Orders: rule's and the document's. RuleChecks, walked in the deep way. rule.Typed alone. kind.Compare. term.all: which of two lists is less. term.Compare. RuleOrders, walked in the deep way. The law RuleKeeps.
-/
import Derived.Test.YtflbnonbfmmchaaGreatRowRuleKeepsp8
import Derived.Test.YtflbnonbfmmchaaGreatRowRuleKeepsp6
import Derived.Test.YtflbnonbfmmchaaGreatRowRuleKeepsp7
import Derived.Test.YtflbnonbfmmchaaGreatRowRuleKeepsp1
import Derived.Test.YtflbnonbfmmchaaGreatRowRuleKeepsp5
import Derived.Test.YtflbnonbfmmchaaGreatRowRuleKeepsp4
set_option maxRecDepth 100000
set_option maxHeartbeats 1000000
set_option linter.unusedVariables false
set_option linter.unusedSimpArgs false
namespace Go.Proofs.YtflbnonbfmmchaaGreat
open Go.RowKit
def TRG_3 : TI := ⟨1, false, [Value.int IntKind.i64 0], [], none, 8, 2, none, false⟩
theorem TRG_3_ok : TypOk Tryz.prog 3 TRG_3 := by constructor <;> kernel_rfl
def TRG_59 : TI := ⟨1, false, [Value.slice none 0 0], [], some 3, 24, 5, none, false⟩
theorem TRG_59_ok : TypOk Tryz.prog 59 TRG_59 := by constructor <;> kernel_rfl
def TRG_86 : TI := ⟨9, true, [Value.slice none 0 0, Value.int IntKind.i64 0, Value.int IntKind.i64 0, Value.slice none 0 0, Value.slice none 0 0, Value.int IntKind.i64 0, Value.int IntKind.i64 0, Value.slice none 0 0, Value.slice none 0 0], [(0, 4, true), (4, 4, true), (8, 1, false)], none, 152, 6, none, false⟩
theorem TRG_86_ok : TypOk Tryz.prog 86 TRG_86 := by constructor <;> kernel_rfl
def TRG_41 : TI := ⟨4, true, [Value.slice none 0 0, Value.int IntKind.i64 0, Value.int IntKind.i64 0, Value.slice none 0 0], [(0, 1, false), (1, 2, true), (3, 1, false)], none, 64, 6, none, false⟩
theorem TRG_41_ok : TypOk Tryz.prog 41 TRG_41 := by constructor <;> kernel_rfl
def TRG_39 : TI := ⟨1, false, [Value.slice none 0 0], [], some 41, 24, 5, none, false⟩
theorem TRG_39_ok : TypOk Tryz.prog 39 TRG_39 := by constructor <;> kernel_rfl
def TRG_35 : TI := ⟨3, true, [Value.int IntKind.i64 0, Value.slice none 0 0, Value.slice none 0 0], [(0, 1, false), (1, 1, false), (2, 1, false)], none, 56, 6, none, false⟩
theorem TRG_35_ok : TypOk Tryz.prog 35 TRG_35 := by constructor <;> kernel_rfl
def TRG_180 : TI := ⟨1, false, [Value.nilFunc], [], none, 8, 8, none, false⟩
theorem TRG_180_ok : TypOk Tryz.prog 180 TRG_180 := by constructor <;> kernel_rfl
def TRG_38 : TI := ⟨2, true, [Value.int IntKind.i64 0, Value.int IntKind.i64 0], [(0, 1, false), (1, 1, false)], none, 16, 6, none, true⟩
theorem TRG_38_ok : TypOk Tryz.prog 38 TRG_38 := by constructor <;> kernel_rfl
def TRG_45 : TI := ⟨1, false, [Value.int IntKind.i64 0], [], none, 8, 2, none, false⟩
theorem TRG_45_ok : TypOk Tryz.prog 45 TRG_45 := by constructor <;> kernel_rfl
def TRG : List (Nat × TI) := [(3, TRG_3), (59, TRG_59), (86, TRG_86), (41, TRG_41), (39, TRG_39), (35, TRG_35), (180, TRG_180), (38, TRG_38), (45, TRG_45)]
theorem TRG_ok : TabOk Tryz.prog TRG := ((((((((((TabOk.nil _).cons TRG_45_ok).cons TRG_38_ok).cons TRG_180_ok).cons TRG_35_ok).cons TRG_39_ok).cons TRG_41_ok).cons TRG_86_ok).cons TRG_59_ok).cons TRG_3_ok)
namespace Ru
def ms (t : Tm) : List Int := sortU (metasL [t])
def chk (p : Li.Pr) : Int := if p.l.kind ≠ 1 then 6 else if (Pn.uses p.l [] []).2 = false then 6 else if ((ms p.r).any fun x => !((ms p.l).contains x)) = true then 7 else 0
end Ru
theorem ruin_d (h : List Int) (x : Int) (hh : h.length ≤ 1000000) : CallC Tryz.prog 99 [.v (.int .i64 x), .p 24 0] [(.c 24 0, .sl 1 (eIs h) none)] [(.c 24 0, .sl 1 (eIs h) none)] (.v (.bool (!(h.contains x)))) := by
 have hc := contains_d x h hh
 rw [show (h.any fun y => decide (y = x)) = h.contains x by rw [Bool.eq_iff_iff]; simp] at hc
 refine calldw 25 8 [ResultVar.tmp 3] TRG_ok Tryz.func99 rfl Tryz.ntmps99 rfl fun cx hnt hn0 => ?_
 ·skip
  refine dw_seq ?_; refine dwk [] TRG_ok hnt fun K hK => ?_; refine hK _ _ ?_; clear hK K; refine dw_seq ?_; refine dwk [] TRG_ok hnt fun K hK => ?_; refine dcl (hc) ?_; refine hK _ _ ?_; clear hK K; refine dw_ret ?_
  exact reta rfl
theorem ruidx_d (h : List Int) (hh : h.length ≤ 1000000) (l : List Int) (hl : l.length ≤ 1000000) : CallC Tryz.prog 133 [.sl 1 (eIs l) none, .fn 99 [.p 24 0]] [(.c 24 0, .sl 1 (eIs h) none)] [(.c 24 0, .sl 1 (eIs h) none)] (.v (.int .i64 (fidx (fun x => !(h.contains x)) l))) := by
 obtain ⟨P, hP⟩ : ∃ P : Int → Bool, (fun x => !(h.contains x)) = P := ⟨_, rfl⟩
 have hmay : ∀ x, CallC Tryz.prog 99 [.v (.int .i64 x), .p 24 0] [(.c 24 0, .sl 1 (eIs h) none)] [(.c 24 0, .sl 1 (eIs h) none)] (.v (.bool (P x))) := fun x => hP ▸ ruin_d h x hh
 rw [hP]
 clear hP
 refine calldw 25 19 [ResultVar.tmp 4] TRG_ok Tryz.func133 rfl Tryz.ntmps133 rfl fun cx hnt hn0 => ?_
 ·skip
  refine dw_seq ?_; refine dwk [] TRG_ok hnt fun K hK => ?_; refine hK _ _ ?_; clear hK K; refine dw_seq ?_; refine dw_seq ?_; refine dwk [(7, .v (.int .i64 (↑l.length)))] TRG_ok hnt fun K hK => ?_; refine And.intro (dintE (by rw [eIs_len])) ?_; refine hK _ _ ?_; clear hK K; refine dw_block ?_
  refine dw_loop (ι := { j : Nat // ∀ i (h : i < l.length), i < j → P l[i] = false }) (fun j => [(.t 0, .sl 1 (eIs l) none), (.t 1, .fn 99 [.p 24 0]), (.t 7, .v (.int .i64 ↑l.length)), (.t 8, .v (.int .i64 ↑j.1)), (.c 24 0, .sl 1 (eIs h) none)]) 25 (fun j => l.length - j.1) (⟨0, fun i h1 h2 => by omega⟩) (VS.toA) fun j => ?_
  obtain ⟨j, hj⟩ := j
  dsimp only
  by_cases hlt : j < l.length
  ·have hf := hmay l[j]
   refine dw_seq ?_; refine dwk [(9, .v (.bool true))] TRG_ok hnt fun K hK => ?_; refine And.intro auT ?_; refine hK _ _ ?_; clear hK K; refine dw_seq ?_; refine dw_cond (t := true) rfl ?_; rw [if_pos rfl]; refine dw_skip ?_; refine dw_seq ?_; refine dw_block ?_; refine dw_seq ?_; refine dwk [] TRG_ok hnt fun K hK => ?_; refine hK _ _ ?_; clear hK K
   cases he : P l[j] with
   | true =>
    rw [he] at hf
    rw [fidx_at hlt he hj]
    refine dw_seq ?_; refine dwk [(14, .q [.v (.int .i64 (l[j]))])] TRG_ok hnt fun K hK => ?_; refine And.intro (elo (eIs_len l)) ?_; refine And.intro (elv (eIs_getD l j) rfl) ?_; refine dcl (hf) ?_; refine hK _ _ ?_; clear hK K; refine dw_cond (t := true) rfl ?_; rw [if_pos rfl]; refine dw_seq ?_; refine dwk [] TRG_ok hnt fun K hK => ?_; refine hK _ _ ?_; clear hK K; refine dw_ret ?_
    exact reta rfl
   | false =>
    rw [he] at hf
    refine dw_seq ?_; refine dwk [(14, .q [.v (.int .i64 (l[j]))])] TRG_ok hnt fun K hK => ?_; refine And.intro (elo (eIs_len l)) ?_; refine And.intro (elv (eIs_getD l j) rfl) ?_; refine dcl (hf) ?_; refine hK _ _ ?_; clear hK K; refine dw_cond (t := false) rfl ?_; rw [if_neg (by simp)]; refine dw_skip ?_; refine dwk [(18, .v (.int .i64 (↑(j + 1))))] TRG_ok hnt fun K hK => ?_; refine And.intro auI ?_; refine hK _ _ ?_; clear hK K
    refine ⟨⟨j + 1, fun i h1 h2 => if e : i = j then by subst e; exact he else hj i h1 (by omega)⟩, by first | omega | (dsimp only; omega), VS.toA⟩
  ·rw [fidx_no fun i h => hj i h (by omega)]
   refine dw_seq ?_; refine dwk [(9, .v (.bool false))] TRG_ok hnt fun K hK => ?_; refine And.intro auF ?_; refine hK _ _ ?_; clear hK K; refine dw_seq ?_; refine dw_cond (t := false) rfl ?_; rw [if_neg (by simp)]; refine dw_exit ?_; refine dw_seq ?_; refine dwk [] TRG_ok hnt fun K hK => ?_; refine hK _ _ ?_; clear hK K; refine dw_ret ?_
   exact reta rfl
theorem rucontains_d (h : List Int) (hh : h.length ≤ 1000000) (l : List Int) (hl : l.length ≤ 1000000) : CallC Tryz.prog 98 [.sl 1 (eIs l) none, .fn 99 [.p 24 0]] [(.c 24 0, .sl 1 (eIs h) none)] [(.c 24 0, .sl 1 (eIs h) none)] (.v (.bool (l.any fun x => !(h.contains x)))) := by
 have hi := ruidx_d h hh l hl
 rw [← fidx_any]
 refine calldw 25 9 [ResultVar.tmp 4] TRG_ok Tryz.func98 rfl Tryz.ntmps98 rfl fun cx hnt hn0 => ?_
 ·skip
  refine dw_seq ?_; refine dwk [] TRG_ok hnt fun K hK => ?_; refine hK _ _ ?_; clear hK K; refine dw_seq ?_; refine dwk [] TRG_ok hnt fun K hK => ?_; refine dcl (hi) ?_; refine hK _ _ ?_; clear hK K; refine dw_ret ?_
  exact reta rfl

theorem ms_len (t : Tm) (h : t.full ≤ 90000) : (Ru.ms t).length ≤ 90000 := by
  have h1 := metasL_len [t] 90000 (by simpa using h)
  have h2 := sortU_len (metasL [t])
  unfold Ru.ms
  simp at h1; omega
theorem eTms_1 (t : Tm) : eTms [t] = [[.sl 2 (eTys t.binds) none, .v (.int .i64 t.kind), .v (.int .i64 t.index), .sl 4 (eTms t.args) none]] := by rw [← eTm_eq]; rfl
set_option maxHeartbeats 2000000 in
theorem rucheck_d (b : Int) (C Mw : List Ty) (p : Li.Pr) (e : Int) (hl : p.l.full ≤ 10000 ∧ p.l.Fit) (hr : p.r.full ≤ 10000 ∧ p.r.Fit) (ht : PureC Tryz.prog 38 [.ag [.v (.int .i64 b), .sl 2 (eTys C) none, .sl 2 (eTys Mw) none], .ag (ePr p)] (.v (.int .i64 e))) :
  PureC Tryz.prog 39 [.ag [.v (.int .i64 b), .sl 2 (eTys C) none, .sl 2 (eTys Mw) none], .ag (ePr p)] (.v (.int .i64 (if e ≠ 0 then e else Ru.chk p))) := by
 have hI := is_d p.l (by have := hl.1; omega) hl.2
 have m1 := metas_d [p.l] (by simp) (by simp; omega)
 have m2 := metas_d [p.r] (by simp) (by simp; omega)
 have z1 := ms_len p.l (by omega)
 have z2 := ms_len p.r (by omega)
 rw [show sortU (metasL [p.l]) = Ru.ms p.l from rfl] at m1
 rw [show sortU (metasL [p.r]) = Ru.ms p.r from rfl] at m2
 have hc := rucontains_d (Ru.ms p.l) (by omega) (Ru.ms p.r) (by omega)
 unfold Ru.chk
 have e1 := eTms_1 p.l
 have e2 := eTms_1 p.r
 rw [ePr_at] at ht ⊢
 rw [eTm_eq] at hI
 by_cases he : e = 0
 ·subst he
  rw [if_neg (by simp)]
  by_cases hk : p.l.kind = 1
  ·rw [if_neg (by simp [hk])]
   cases hu : (Pn.uses p.l [] []).2 with
   | false =>
    rw [hu] at hI
    rw [if_pos rfl]
    refine calldw 0 34 [ResultVar.tmp 4] TRG_ok Tryz.func39 rfl Tryz.ntmps39 rfl fun cx hnt hn0 => ?_
    ·skip
     refine dw_seq ?_; refine dwk [] TRG_ok hnt fun K hK => ?_; refine hK _ _ ?_; clear hK K; refine dw_seq ?_; refine dw_seq ?_; refine dwk [] TRG_ok hnt fun K hK => ?_; refine dcl (ht) ?_; refine hK _ _ ?_; clear hK K; refine dw_seq ?_; refine dwk [(11, .v (.bool false))] TRG_ok hnt fun K hK => ?_; refine And.intro (bneF rfl) ?_; refine hK _ _ ?_; clear hK K; refine dw_cond (t := false) rfl ?_; rw [if_neg (by simp)]
     refine dw_skip ?_; refine dw_seq ?_; refine dw_seq ?_; refine dwk [(17, .v (.bool false))] TRG_ok hnt fun K hK => ?_; refine And.intro (bneF hk) ?_; refine dcl (hI) ?_; refine hK _ _ ?_; clear hK K; refine dw_cond (t := true) rfl ?_; rw [if_pos rfl]; refine dw_seq ?_; refine dwk [] TRG_ok hnt fun K hK => ?_; refine hK _ _ ?_; clear hK K; refine dw_ret ?_
     exact reta rfl
   | true =>
    rw [hu] at hI
    rw [if_neg (by simp)]
    cases hA : (Ru.ms p.r).any fun x => !((Ru.ms p.l).contains x) with
    | true =>
     rw [hA] at hc
     rw [if_pos rfl]
     refine calldw 0 34 [ResultVar.tmp 4] TRG_ok Tryz.func39 rfl Tryz.ntmps39 rfl fun cx hnt hn0 => ?_
     ·skip
      refine dw_seq ?_; refine dwk [] TRG_ok hnt fun K hK => ?_; refine hK _ _ ?_; clear hK K; refine dw_seq ?_; refine dw_seq ?_; refine dwk [] TRG_ok hnt fun K hK => ?_; refine dcl (ht) ?_; refine hK _ _ ?_; clear hK K; refine dw_seq ?_; refine dwk [(11, .v (.bool false))] TRG_ok hnt fun K hK => ?_; refine And.intro (bneF rfl) ?_; refine hK _ _ ?_; clear hK K; refine dw_cond (t := false) rfl ?_; rw [if_neg (by simp)]
      refine dw_skip ?_; refine dw_seq ?_; refine dw_seq ?_; refine dwk [(17, .v (.bool false))] TRG_ok hnt fun K hK => ?_; refine And.intro (bneF hk) ?_; refine dcl (hI) ?_; refine hK _ _ ?_; clear hK K; refine dw_cond (t := false) rfl ?_; rw [if_neg (by simp)]; refine dw_skip ?_; refine dw_seq ?_; refine dwk [(26, .sl 4 (eTms [p.l]) none)] TRG_ok hnt fun K hK => ?_; refine And.intro ((by rw [e1]; exact VLe.untag _ _ _)) ?_
      refine dcl (m1) ?_; refine hK _ _ ?_; clear hK K; refine dw_seq ?_; refine dw_seq ?_; refine dwk [(30, .sl 4 (eTms [p.r]) none)] TRG_ok hnt fun K hK => ?_; refine And.intro ((by rw [e2]; exact VLe.untag _ _ _)) ?_; refine dcl (m2) ?_; refine dcl (hc) ?_; refine hK _ _ ?_; clear hK K; refine dw_cond (t := true) rfl ?_; rw [if_pos rfl]; refine dw_seq ?_; refine dwk [] TRG_ok hnt fun K hK => ?_; refine hK _ _ ?_; clear hK K
      refine dw_ret ?_
      exact reta rfl
    | false =>
     rw [hA] at hc
     rw [if_neg (by simp)]
     refine calldw 0 34 [ResultVar.tmp 4] TRG_ok Tryz.func39 rfl Tryz.ntmps39 rfl fun cx hnt hn0 => ?_
     ·skip
      refine dw_seq ?_; refine dwk [] TRG_ok hnt fun K hK => ?_; refine hK _ _ ?_; clear hK K; refine dw_seq ?_; refine dw_seq ?_; refine dwk [] TRG_ok hnt fun K hK => ?_; refine dcl (ht) ?_; refine hK _ _ ?_; clear hK K; refine dw_seq ?_; refine dwk [(11, .v (.bool false))] TRG_ok hnt fun K hK => ?_; refine And.intro (bneF rfl) ?_; refine hK _ _ ?_; clear hK K; refine dw_cond (t := false) rfl ?_; rw [if_neg (by simp)]
      refine dw_skip ?_; refine dw_seq ?_; refine dw_seq ?_; refine dwk [(17, .v (.bool false))] TRG_ok hnt fun K hK => ?_; refine And.intro (bneF hk) ?_; refine dcl (hI) ?_; refine hK _ _ ?_; clear hK K; refine dw_cond (t := false) rfl ?_; rw [if_neg (by simp)]; refine dw_skip ?_; refine dw_seq ?_; refine dwk [(26, .sl 4 (eTms [p.l]) none)] TRG_ok hnt fun K hK => ?_; refine And.intro ((by rw [e1]; exact VLe.untag _ _ _)) ?_
      refine dcl (m1) ?_; refine hK _ _ ?_; clear hK K; refine dw_seq ?_; refine dw_seq ?_; refine dwk [(30, .sl 4 (eTms [p.r]) none)] TRG_ok hnt fun K hK => ?_; refine And.intro ((by rw [e2]; exact VLe.untag _ _ _)) ?_; refine dcl (m2) ?_; refine dcl (hc) ?_; refine hK _ _ ?_; clear hK K; refine dw_cond (t := false) rfl ?_; rw [if_neg (by simp)]; refine dw_skip ?_; refine dw_seq ?_; refine dwk [] TRG_ok hnt fun K hK => ?_
      refine hK _ _ ?_; clear hK K; refine dw_ret ?_
      exact reta rfl
  ·rw [if_pos hk]
   refine calldw 0 34 [ResultVar.tmp 4] TRG_ok Tryz.func39 rfl Tryz.ntmps39 rfl fun cx hnt hn0 => ?_
   ·skip
    refine dw_seq ?_; refine dwk [] TRG_ok hnt fun K hK => ?_; refine hK _ _ ?_; clear hK K; refine dw_seq ?_; refine dw_seq ?_; refine dwk [] TRG_ok hnt fun K hK => ?_; refine dcl (ht) ?_; refine hK _ _ ?_; clear hK K; refine dw_seq ?_; refine dwk [(11, .v (.bool false))] TRG_ok hnt fun K hK => ?_; refine And.intro (bneF rfl) ?_; refine hK _ _ ?_; clear hK K; refine dw_cond (t := false) rfl ?_; rw [if_neg (by simp)]
    refine dw_skip ?_; refine dw_seq ?_; refine dw_seq ?_; refine dwk [(17, .v (.bool true))] TRG_ok hnt fun K hK => ?_; refine And.intro (bneT hk) ?_; refine hK _ _ ?_; clear hK K; refine dw_cond (t := true) rfl ?_; rw [if_pos rfl]; refine dw_seq ?_; refine dwk [] TRG_ok hnt fun K hK => ?_; refine hK _ _ ?_; clear hK K; refine dw_ret ?_
    exact reta rfl
 ·rw [if_pos he]
  refine calldw 0 34 [ResultVar.tmp 4] TRG_ok Tryz.func39 rfl Tryz.ntmps39 rfl fun cx hnt hn0 => ?_
  ·skip
   refine dw_seq ?_; refine dwk [] TRG_ok hnt fun K hK => ?_; refine hK _ _ ?_; clear hK K; refine dw_seq ?_; refine dw_seq ?_; refine dwk [] TRG_ok hnt fun K hK => ?_; refine dcl (ht) ?_; refine hK _ _ ?_; clear hK K; refine dw_seq ?_; refine dwk [(11, .v (.bool true))] TRG_ok hnt fun K hK => ?_; refine And.intro (bneT he) ?_; refine hK _ _ ?_; clear hK K; refine dw_cond (t := true) rfl ?_; rw [if_pos rfl]
   refine dw_seq ?_; refine dwk [] TRG_ok hnt fun K hK => ?_; refine hK _ _ ?_; clear hK K; refine dw_ret ?_
   exact reta rfl
end Go.Proofs.YtflbnonbfmmchaaGreat

namespace Go.Proofs.YtflbnonbfmmchaaGreat
open Go.RowKit
def TRH_86 : TI := ⟨9, true, [Value.slice none 0 0, Value.int IntKind.i64 0, Value.int IntKind.i64 0, Value.slice none 0 0, Value.slice none 0 0, Value.int IntKind.i64 0, Value.int IntKind.i64 0, Value.slice none 0 0, Value.slice none 0 0], [(0, 4, true), (4, 4, true), (8, 1, false)], none, 152, 6, none, false⟩
theorem TRH_86_ok : TypOk Tryz.prog 86 TRH_86 := by constructor <;> kernel_rfl
def TRH_3 : TI := ⟨1, false, [Value.int IntKind.i64 0], [], none, 8, 2, none, false⟩
theorem TRH_3_ok : TypOk Tryz.prog 3 TRH_3 := by constructor <;> kernel_rfl
def TRH_41 : TI := ⟨4, true, [Value.slice none 0 0, Value.int IntKind.i64 0, Value.int IntKind.i64 0, Value.slice none 0 0], [(0, 1, false), (1, 2, true), (3, 1, false)], none, 64, 6, none, false⟩
theorem TRH_41_ok : TypOk Tryz.prog 41 TRH_41 := by constructor <;> kernel_rfl
def TRH_39 : TI := ⟨1, false, [Value.slice none 0 0], [], some 41, 24, 5, none, false⟩
theorem TRH_39_ok : TypOk Tryz.prog 39 TRH_39 := by constructor <;> kernel_rfl
def TRH_33 : TI := ⟨1, false, [Value.slice none 0 0], [], some 44, 24, 5, none, false⟩
theorem TRH_33_ok : TypOk Tryz.prog 33 TRH_33 := by constructor <;> kernel_rfl
def TRH_44 : TI := ⟨2, true, [Value.slice none 0 0, Value.int IntKind.i64 0], [(0, 1, false), (1, 1, false)], none, 32, 6, none, false⟩
theorem TRH_44_ok : TypOk Tryz.prog 44 TRH_44 := by constructor <;> kernel_rfl
def TRH_35 : TI := ⟨3, true, [Value.int IntKind.i64 0, Value.slice none 0 0, Value.slice none 0 0], [(0, 1, false), (1, 1, false), (2, 1, false)], none, 56, 6, none, false⟩
theorem TRH_35_ok : TypOk Tryz.prog 35 TRH_35 := by constructor <;> kernel_rfl
def TRH_45 : TI := ⟨1, false, [Value.int IntKind.i64 0], [], none, 8, 2, none, false⟩
theorem TRH_45_ok : TypOk Tryz.prog 45 TRH_45 := by constructor <;> kernel_rfl
def TRH_38 : TI := ⟨2, true, [Value.int IntKind.i64 0, Value.int IntKind.i64 0], [(0, 1, false), (1, 1, false)], none, 16, 6, none, true⟩
theorem TRH_38_ok : TypOk Tryz.prog 38 TRH_38 := by constructor <;> kernel_rfl
def TRH : List (Nat × TI) := [(86, TRH_86), (3, TRH_3), (41, TRH_41), (39, TRH_39), (33, TRH_33), (44, TRH_44), (35, TRH_35), (45, TRH_45), (38, TRH_38)]
theorem TRH_ok : TabOk Tryz.prog TRH := ((((((((((TabOk.nil _).cons TRH_38_ok).cons TRH_45_ok).cons TRH_35_ok).cons TRH_44_ok).cons TRH_33_ok).cons TRH_39_ok).cons TRH_41_ok).cons TRH_3_ok).cons TRH_86_ok)
namespace Ru
def kA : Ty := .mk [] 0
def kC : List Ty := [.mk [kA, kA] 0, .mk [kA] 0]
def km (i : Int) : Tm := .mk [] 2 i []
def kc (i : Int) (l : List Tm) : Tm := .mk [] 1 i l
def KP : Li.Pr := ⟨kc 0 [km 1, km 0], kc 1 [km 1], [kA, kA]⟩
def KQ : Li.Pr := ⟨kc 0 [km 0, km 1], kc 1 [km 0], [kA, kA]⟩
def KS : Li.Pr := ⟨kc 1 [km 0], kc 1 [km 1], [kA, kA]⟩
theorem km_fit (i : Int) (h1 : -1000 ≤ i) (h2 : i ≤ 1000) : (km i).Fit := Tm.fit_iff.2 ⟨by omega, by omega, nofun⟩
theorem kc_fit {i : Int} {l : List Tm} (h1 : -1000 ≤ i) (h2 : i ≤ 1000) (h : ∀ t ∈ l, t.Fit) : (kc i l).Fit := Tm.fit_iff.2 ⟨by omega, by omega, h⟩
theorem own_P : own KP = (KQ, 0) := by kernel_rfl
theorem own_Q : own KQ = (KQ, 0) := by kernel_rfl
theorem vari_PQ : vari KP KQ = true := by unfold vari; rw [own_P, own_Q]; kernel_rfl
theorem chk_at {p : Li.Pr} (h1 : p.l.kind = 1) (h2 : (Pn.uses p.l [] []).2 = true) : chk p = if ∃ x ∈ metasL [p.r], x ∉ metasL [p.l] then 7 else 0 := by
  unfold chk
  rw [if_neg (by simp [h1]), if_neg (by simp [h2])]
  have e : ((ms p.r).any fun x => !((ms p.l).contains x)) = true ↔ ∃ x ∈ metasL [p.r], x ∉ metasL [p.l] := by
    unfold ms
    rw [List.any_eq_true]
    constructor
    · rintro ⟨x, h, h2⟩
      refine ⟨x, ((sortU_spec _).2 x).1 h, fun h3 => ?_⟩
      rw [List.contains_iff_mem.2 (((sortU_spec _).2 x).2 h3)] at h2
      cases h2
    · rintro ⟨x, h, h2⟩
      refine ⟨x, ((sortU_spec _).2 x).2 h, ?_⟩
      rw [Bool.not_eq_true', Bool.eq_false_iff]
      exact fun h3 => h2 (((sortU_spec _).2 x).1 (List.contains_iff_mem.1 h3))
  by_cases h : ∃ x ∈ metasL [p.r], x ∉ metasL [p.l]
  · rw [if_pos (e.2 h), if_pos h]
  · rw [if_neg (fun g => h (e.1 g)), if_neg h]
theorem chk_P : chk KP = 0 := by
  rw [chk_at rfl (by kernel_rfl), if_neg]
  rw [show metasL [KP.r] = [1] by decide +kernel, show metasL [KP.l] = [1, 0] by decide +kernel]
  simp
theorem chk_S : chk KS = 7 := by
  rw [chk_at rfl (by kernel_rfl), if_pos]
  rw [show metasL [KS.r] = [1] by decide +kernel, show metasL [KS.l] = [0] by decide +kernel]
  exact ⟨1, by simp, by simp⟩
theorem kWd : RightWd 1 kC [kA, kA] := by
  refine ⟨by decide, fun t ht => ?_⟩
  have : t = kA ∨ t = .mk [kA, kA] 0 ∨ t = .mk [kA] 0 := by
    simp [kC] at ht
    rcases ht with h | h | h
    · exact .inr (.inl h)
    · exact .inr (.inr h)
    · exact .inl h
  rcases this with rfl | rfl | rfl
  · exact ⟨by decide, by decide, by simp [kA, Ty.low_iff]⟩
  · exact ⟨by decide, by decide, by simp [kA, Ty.low_iff]⟩
  · exact ⟨by decide, by decide, by simp [kA, Ty.low_iff]⟩
theorem good_P : Good 1 kC KP := ⟨kWd, by decide, by decide, kA, by kernel_rfl, rfl, by simp [KP, kc, km, kC, kA, IsOf, IsOfs, headTy, Ty.args, Ty.base], by simp [KP, kc, km, kC, kA, IsOf, IsOfs, headTy, Ty.args, Ty.base]⟩
theorem good_S : Good 1 kC KS := ⟨kWd, by decide, by decide, kA, by kernel_rfl, rfl, by simp [KS, kc, km, kC, kA, IsOf, IsOfs, headTy, Ty.args, Ty.base], by simp [KS, kc, km, kC, kA, IsOf, IsOfs, headTy, Ty.args, Ty.base]⟩
theorem fit_P : KP.l.Fit ∧ KP.r.Fit := ⟨kc_fit (by decide) (by decide) (by
  intro t ht
  simp at ht
  rcases ht with rfl | rfl
  · exact km_fit _ (by decide) (by decide)
  · exact km_fit _ (by decide) (by decide)), kc_fit (by decide) (by decide) (by
  intro t ht
  simp at ht
  subst ht
  exact km_fit _ (by decide) (by decide))⟩
theorem fit_Q : KQ.l.Fit ∧ KQ.r.Fit := ⟨kc_fit (by decide) (by decide) (by
  intro t ht
  simp at ht
  rcases ht with rfl | rfl
  · exact km_fit _ (by decide) (by decide)
  · exact km_fit _ (by decide) (by decide)), kc_fit (by decide) (by decide) (by
  intro t ht
  simp at ht
  subst ht
  exact km_fit _ (by decide) (by decide))⟩
theorem fit_S : KS.l.Fit ∧ KS.r.Fit := ⟨kc_fit (by decide) (by decide) (by
  intro t ht
  simp at ht
  subst ht
  exact km_fit _ (by decide) (by decide)), kc_fit (by decide) (by decide) (by
  intro t ht
  simp at ht
  subst ht
  exact km_fit _ (by decide) (by decide))⟩
end Ru
theorem rk1_d (i : Int) (l : List Tm) : PureC Tryz.prog 94 [.v (.int .i64 i), .sl 4 (eTms l) none] (.ag [.sl 2 [] none, .v (.int .i64 1), .v (.int .i64 i), .sl 4 (eTms l) none]) := by
 refine calldw 0 9 [ResultVar.cell 4 41] TRH_ok Tryz.func94 rfl Tryz.ntmps94 rfl fun cx hnt hn0 => ?_
 ·skip
  refine dw_seq ?_; refine dwk [] TRH_ok hnt fun K hK => ?_; refine hK _ _ ?_; clear hK K; refine dw_seq ?_; refine dwk [] TRH_ok hnt fun K hK => ?_; refine hK _ _ ?_; clear hK K; refine dw_ret ?_
  exact reta rfl
theorem rk2_d (i : Int) : PureC Tryz.prog 95 [.v (.int .i64 i)] (.ag [.sl 2 [] none, .v (.int .i64 2), .v (.int .i64 i), .sl 4 [] none]) := by
 refine calldw 0 6 [ResultVar.cell 2 41] TRH_ok Tryz.func95 rfl Tryz.ntmps95 rfl fun cx hnt hn0 => ?_
 ·skip
  refine dw_seq ?_; refine dwk [] TRH_ok hnt fun K hK => ?_; refine hK _ _ ?_; clear hK K; refine dw_seq ?_; refine dwk [] TRH_ok hnt fun K hK => ?_; refine hK _ _ ?_; clear hK K; refine dw_ret ?_
  exact reta rfl
theorem rkOf0_d : PureC Tryz.prog 56 [.v (.int .i64 0), .v (.slice none 0 0)] (.ag [.sl 2 [] none, .v (.int .i64 0)]) := CallC.vle (kOf_d 0 [] (by simp [Ty.sizes])) (.cons (VLe.refl _) (.cons (VLe.nil _) .nil)) (VLe.refl _)
theorem kSz : ∀ t ∈ Ru.kC ++ [Ru.kA, Ru.kA], t.size ≤ 400000 := fun t ht => by have := (Ru.kWd.2 t ht).1; omega
theorem kcheck_d (p : Li.Pr) (c : Int) (hm : p.m = [Ru.kA, Ru.kA]) (hg : Ru.Good 1 Ru.kC p) (hc : Ru.chk p = c) (hl : p.l.full ≤ 10000 ∧ p.l.Fit) (hr : p.r.full ≤ 10000 ∧ p.r.Fit) : PureC Tryz.prog 39 [.ag [.v (.int .i64 1), .sl 2 (eTys Ru.kC) none, .sl 2 (eTys []) none], .ag (ePr p)] (.v (.int .i64 c)) := by
  have h1 := rutyped0_d 1 Ru.kC [] p (by decide) (by rw [hm]; decide) hg ⟨by omega, hl.2⟩ ⟨by omega, hr.2⟩ (by rw [hm]; exact kSz)
  have h := rucheck_d 1 Ru.kC [] p 0 hl hr h1
  rw [if_neg (by simp), hc] at h
  exact h
set_option maxHeartbeats 4000000 in
theorem known17_d : PureC Tryz.prog 36 [] (.v (.bool true)) := by
 have ho := rkOf0_d
 have o1 := kOf_d 0 [Ru.kA, Ru.kA] (by decide)
 have o2 := kOf_d 0 [Ru.kA] (by decide)
 have hown := ruown_d Ru.KP ⟨by decide, Ru.fit_P.1⟩ ⟨by decide, Ru.fit_P.2⟩ (by decide) (by decide)
 rw [Ru.own_P] at hown
 have hv := ruvari_d Ru.KP Ru.KQ ⟨by decide, Ru.fit_P.1⟩ ⟨by decide, Ru.fit_P.2⟩ (by decide) (by decide) ⟨by decide, Ru.fit_Q.1⟩ ⟨by decide, Ru.fit_Q.2⟩ (by decide) (by decide)
 rw [Ru.vari_PQ] at hv
 have c1 := kcheck_d Ru.KP 0 rfl Ru.good_P Ru.chk_P ⟨by decide, Ru.fit_P.1⟩ ⟨by decide, Ru.fit_P.2⟩
 have c2 := kcheck_d Ru.KS 7 rfl Ru.good_S Ru.chk_S ⟨by decide, Ru.fit_S.1⟩ ⟨by decide, Ru.fit_S.2⟩
 have e1 : PureC Tryz.prog 20 [.ag [.sl 2 (eTys Ru.KQ.l.binds) none, .v (.int .i64 Ru.KQ.l.kind), .v (.int .i64 Ru.KQ.l.index), .sl 4 (eTms Ru.KQ.l.args) none], .ag [.sl 2 [] none, .v (.int .i64 1), .v (.int .i64 0), .sl 4 (eTms [Ru.km 0, Ru.km 1]) none]] (.v (.bool true)) := by
  have := equal2_d Ru.KQ.l (Ru.kc 0 [Ru.km 0, Ru.km 1])
  rw [decide_eq_true (show Ru.KQ.l = Ru.kc 0 [Ru.km 0, Ru.km 1] from rfl)] at this
  exact this
 have e2 : PureC Tryz.prog 20 [.ag [.sl 2 (eTys Ru.KQ.r.binds) none, .v (.int .i64 Ru.KQ.r.kind), .v (.int .i64 Ru.KQ.r.index), .sl 4 (eTms Ru.KQ.r.args) none], .ag [.sl 2 [] none, .v (.int .i64 1), .v (.int .i64 1), .sl 4 (eTms [Ru.km 0]) none]] (.v (.bool true)) := by
  have := equal2_d Ru.KQ.r (Ru.kc 1 [Ru.km 0])
  rw [decide_eq_true (show Ru.KQ.r = Ru.kc 1 [Ru.km 0] from rfl)] at this
  exact this
 dsimp only at hown
 rw [ePr_at, ePr_at] at hown hv
 rw [ePr_at] at c1 c2
 refine calldw 0 92 [ResultVar.tmp 0] TRH_ok Tryz.func36 rfl Tryz.ntmps36 rfl fun cx hnt hn0 => ?_
 ·skip
  refine dw_seq ?_; refine dwk [] TRH_ok hnt fun K hK => ?_; refine hK _ _ ?_; clear hK K; refine dw_seq ?_; refine dwk [] TRH_ok hnt fun K hK => ?_; refine dcl (ho) ?_; refine hK _ _ ?_; clear hK K; refine dw_seq ?_; refine dwkD [(9, .ag (eTy Ru.kA)), (10, .ag (eTy Ru.kA)), (11, .sl 2 (eTys [Ru.kA, Ru.kA]) none), (13, .ag (eTy Ru.kA)), (14, .sl 2 (eTys [Ru.kA]) none), (16, .sl 2 (eTys Ru.kC) none)] TRH_ok hnt fun K hK => ?_
  refine And.intro (auV) ?_; refine And.intro (auV) ?_; refine And.intro (VLe.untag _ _ _) ?_; refine dcl (o1) ?_; refine And.intro (auV) ?_; refine And.intro (VLe.untag _ _ _) ?_; refine dcl (o2) ?_; refine And.intro (VLe.untag _ _ _) ?_; refine hK _ _ (by kernel_rfl) ?_; clear hK K; refine dw_seq ?_; refine dwk [] TRH_ok hnt fun K hK => ?_; refine hK _ _ ?_; clear hK K; refine dw_seq ?_; refine dwk [] TRH_ok hnt fun K hK => ?_
  refine hK _ _ ?_; clear hK K; refine dw_seq ?_; refine dwkD [(23, .sl 4 (eTms [Ru.km 1, Ru.km 0]) none), (28, .sl 4 (eTms [Ru.km 1]) none), (30, .ag (eTy Ru.kA)), (31, .ag (eTy Ru.kA)), (32, .sl 2 (eTys [Ru.kA, Ru.kA]) none)] TRH_ok hnt fun K hK => ?_; refine dcl (rk2_d 1) ?_; refine dcl (rk2_d 0) ?_; refine And.intro (VLe.untag _ _ _) ?_; refine dcl (rk1_d 0 _) ?_; refine dcl (rk2_d 1) ?_; refine And.intro (VLe.untag _ _ _) ?_
  refine dcl (rk1_d 1 _) ?_; refine And.intro (auV) ?_; refine And.intro (auV) ?_; refine And.intro (VLe.untag _ _ _) ?_; refine hK _ _ (by kernel_rfl) ?_; clear hK K; refine dw_seq ?_; refine dwk [(35, .ag [.sl 2 (eTys Ru.KP.l.binds) none, .v (.int .i64 Ru.KP.l.kind), .v (.int .i64 Ru.KP.l.index), .sl 4 (eTms Ru.KP.l.args) none, .sl 2 (eTys Ru.KP.r.binds) none, .v (.int .i64 Ru.KP.r.kind), .v (.int .i64 Ru.KP.r.index), .sl 4 (eTms Ru.KP.r.args) none, .sl 2 (eTys Ru.KP.m) none])] TRH_ok hnt fun K hK => ?_
  refine And.intro (auV) ?_; refine dcl (hown) ?_; refine hK _ _ ?_; clear hK K; refine dw_seq ?_; refine dwkD [(40, .v (.bool true)), (49, .sl 4 (eTms [Ru.km 0, Ru.km 1]) none), (59, .sl 4 (eTms [Ru.km 0]) none), (64, .ag [.v (.int .i64 1), .sl 2 (eTys Ru.kC) none, .sl 2 (eTys []) none]), (65, .ag [.sl 2 (eTys Ru.KP.l.binds) none, .v (.int .i64 Ru.KP.l.kind), .v (.int .i64 Ru.KP.l.index), .sl 4 (eTms Ru.KP.l.args) none, .sl 2 (eTys Ru.KP.r.binds) none, .v (.int .i64 Ru.KP.r.kind), .v (.int .i64 Ru.KP.r.index), .sl 4 (eTms Ru.KP.r.args) none, .sl 2 (eTys Ru.KP.m) none]), (67, .v (.bool true)), (70, .ag [.v (.int .i64 1), .sl 2 (eTys Ru.kC) none, .sl 2 (eTys []) none]), (74, .sl 4 (eTms [Ru.km 0]) none), (79, .sl 4 (eTms [Ru.km 1]) none), (83, .ag [.sl 2 (eTys Ru.KS.l.binds) none, .v (.int .i64 Ru.KS.l.kind), .v (.int .i64 Ru.KS.l.index), .sl 4 (eTms Ru.KS.l.args) none, .sl 2 (eTys Ru.KS.r.binds) none, .v (.int .i64 Ru.KS.r.kind), .v (.int .i64 Ru.KS.r.index), .sl 4 (eTms Ru.KS.r.args) none, .sl 2 (eTys Ru.KS.m) none]), (85, .v (.bool true)), (88, .ag [.sl 2 (eTys Ru.KP.l.binds) none, .v (.int .i64 Ru.KP.l.kind), .v (.int .i64 Ru.KP.l.index), .sl 4 (eTms Ru.KP.l.args) none, .sl 2 (eTys Ru.KP.r.binds) none, .v (.int .i64 Ru.KP.r.kind), .v (.int .i64 Ru.KP.r.index), .sl 4 (eTms Ru.KP.r.args) none, .sl 2 (eTys Ru.KP.m) none])] TRH_ok hnt fun K hK => ?_
  refine And.intro (VLe.refl _) ?_; refine dcl (rk2_d 0) ?_; refine dcl (rk2_d 1) ?_; refine And.intro (VLe.untag _ _ _) ?_; refine dcl (rk1_d 0 _) ?_; refine dcl (e1) ?_; refine dcl (rk2_d 0) ?_; refine And.intro (VLe.untag _ _ _) ?_; refine dcl (rk1_d 1 _) ?_; refine dcl (e2) ?_; refine And.intro (auV) ?_; refine And.intro (auV) ?_; refine dcl (c1) ?_; refine And.intro (VLe.refl _) ?_; refine And.intro (auV) ?_
  refine dcl (rk2_d 0) ?_; refine And.intro (VLe.untag _ _ _) ?_; refine dcl (rk1_d 1 _) ?_; refine dcl (rk2_d 1) ?_; refine And.intro (VLe.untag _ _ _) ?_; refine dcl (rk1_d 1 _) ?_; refine And.intro (auV) ?_; refine dcl (c2) ?_; refine And.intro (VLe.refl _) ?_; refine And.intro (auV) ?_; refine dcl (hv) ?_; refine hK _ _ (by kernel_rfl) ?_; clear hK K; refine dw_ret ?_
  exact reta rfl
end Go.Proofs.YtflbnonbfmmchaaGreat

namespace Go.Proofs.YtflbnonbfmmchaaGreat
open Go.RowKit
namespace Ru
def rg : Nat → List Int
  | 0 => []
  | n + 1 => rg n ++ [(n : Int)]
theorem rg_len : ∀ n, (rg n).length = n
  | 0 => rfl
  | n + 1 => by rw [rg]; simp [rg_len n]
theorem rg_mem : ∀ (n : Nat) (x : Int), x ∈ rg n ↔ 0 ≤ x ∧ x < n
  | 0, x => by
    constructor
    · intro h; cases h
    · intro h; omega
  | n + 1, x => by
    rw [rg, List.mem_append, rg_mem n x, List.mem_singleton]
    push_cast
    omega
structure Sm (p : Li.Pr) : Prop where
  l : p.l.full ≤ 150 ∧ p.l.Fit
  r : p.r.full ≤ 150 ∧ p.r.Fit
  ml : p.m.length ≤ 300
  m : ∀ t ∈ p.m, t.size ≤ 60
theorem mt_size {M : List Ty} (h : ∀ t ∈ M, t.size ≤ 60) (x : Int) : (mt M x).size ≤ 60 := by
  unfold mt
  rw [List.getD_eq_getElem?_getD]
  cases hx : M[x.toNat]? with
  | none => simp [Ty.size, Ty.sizes]
  | some t => exact h t (List.mem_of_getElem? hx)
theorem Sm.own {p : Li.Pr} (h : Sm p) : Sm (own p).1 := by
  by_cases hb : (tr p.r (tr p.l []).1).1.any (bad p.m) = true
  · have : Ru.own p = (.z, 10) := by unfold Ru.own; rw [if_pos hb]
    rw [this]
    exact ⟨⟨by decide, Tm.fit_iff.2 ⟨by decide, by decide, nofun⟩⟩, ⟨by decide, Tm.fit_iff.2 ⟨by decide, by decide, nofun⟩⟩, by decide, nofun⟩
  · have e : Ru.own p = (⟨(tr p.l []).2, (tr p.r (tr p.l []).1).2, (tr p.r (tr p.l []).1).1.map (mt p.m)⟩, 0) := by unfold Ru.own; rw [if_neg hb]
    rw [e]
    have g1 := tr_grow p.l []
    have g2 := tr_grow p.r (tr p.l []).1
    have := h.l.1
    have := h.r.1
    simp only [List.length_nil, Nat.zero_add] at g1
    refine ⟨⟨?_, ?_⟩, ⟨?_, ?_⟩, ?_, fun t ht => ?_⟩
    · show (tr p.l []).2.full ≤ 150
      rw [tr_full]; exact h.l.1
    · exact tr_fit p.l [] (by simp; omega) h.l.2
    · show (tr p.r (tr p.l []).1).2.full ≤ 150
      rw [tr_full]; exact h.r.1
    · exact tr_fit p.r _ (by omega) h.r.2
    · show (List.map _ _).length ≤ 300
      rw [List.length_map]; omega
    · obtain ⟨x, _, rfl⟩ := List.mem_map.1 ht
      exact mt_size h.m x
theorem Sm.sizes {p : Li.Pr} (h : Sm p) : Ty.sizes p.m ≤ 18000 := by
  have := sizes_le22 h.m
  have := h.ml
  omega
theorem Sm.of {p : Li.Pr} (h : fewP p = true) (hf : p.l.Fit ∧ p.r.Fit) : Sm p := by
  obtain ⟨h1, h2, h3⟩ := fewP_ok h
  exact ⟨⟨h1.1, hf.1⟩, ⟨h1.2, hf.2⟩, by omega, h3⟩
end Ru
end Go.Proofs.YtflbnonbfmmchaaGreat

namespace Go.Proofs.YtflbnonbfmmchaaGreat
open Go.RowKit
namespace Ru
/-! sizes -/
theorem rns_size_of {f : List Int} {l : List Tm} (h : ∀ t ∈ l, (rn f t).size = t.size) : Tm.sizes (rns f l) = Tm.sizes l := by
  induction l with
  | nil => simp [rns]
  | cons t l ih =>
    have h1 := h t (by simp)
    have h2 := ih fun u hu => h u (by simp [hu])
    rw [rns]; simp only [Tm.sizes]; omega
theorem rn_size (f : List Int) (t : Tm) : (rn f t).size = t.size := by
  induction t using Tm.ind with
  | h b k i a ih => rw [rn_eq, Tm.size_eq, Tm.size_eq, rns_size_of ih]
theorem rns_depth_of {f : List Int} {l : List Tm} (h : ∀ t ∈ l, (rn f t).depth = t.depth) : Tm.depths (rns f l) = Tm.depths l := by
  induction l with
  | nil => simp [rns]
  | cons t l ih =>
    have h1 := h t (by simp)
    have h2 := ih fun u hu => h u (by simp [hu])
    rw [rns]; simp only [Tm.depths]; rw [h1, h2]
theorem rn_depth (f : List Int) (t : Tm) : (rn f t).depth = t.depth := by
  induction t using Tm.ind with
  | h b k i a ih => rw [rn_eq, Tm.depth_eq, Tm.depth_eq, rns_depth_of ih]
theorem rn_rt (f : List Int) (t : Tm) : Li.rt (rn f t) = Li.rt t := by unfold Li.rt; rw [rn_size, rn_depth]
/-! metavariables -/
mutual
def AllIn (o : List Int) : Tm → Prop
  | .mk _ k i a => (k = 2 → i ∈ o) ∧ AllIns o a
def AllIns (o : List Int) : List Tm → Prop
  | [] => True
  | t :: l => AllIn o t ∧ AllIns o l
end
theorem allIn_eq (o : List Int) (b : List Ty) (k i : Int) (a : List Tm) : AllIn o (.mk b k i a) ↔ (k = 2 → i ∈ o) ∧ AllIns o a := by rw [AllIn]
theorem trs_in_of {l : List Tm} (h : ∀ t ∈ l, ∀ o f, (∃ s, f = (tr t o).1 ++ s) → AllIn f t) : ∀ o f, (∃ s, f = (trs l o).1 ++ s) → AllIns f l := by
  induction l with
  | nil => intro o f _; simp [AllIns]
  | cons t l ih =>
    intro o f hf
    rw [trs] at hf
    dsimp only at hf
    obtain ⟨s2, h2⟩ := trs_pre_of (fun t _ => tr_pre t) (l := l) (tr t o).1
    have h3 := ih (fun u hu => h u (by simp [hu])) _ f hf
    obtain ⟨s, hs⟩ := hf
    rw [AllIns]
    exact ⟨h t (by simp) o f ⟨s2 ++ s, by rw [hs, h2, List.append_assoc]⟩, h3⟩
theorem tr_in (t : Tm) : ∀ o f, (∃ s, f = (tr t o).1 ++ s) → AllIn f t := by
  induction t using Tm.ind with
  | h b k i a ih =>
    intro o f hf
    rw [tr_eq] at hf
    dsimp only at hf
    refine (allIn_eq ..).2 ⟨fun hk => ?_, trs_in_of ih _ f hf⟩
    obtain ⟨s, hs⟩ := hf
    obtain ⟨s2, h2⟩ := trs_pre_of (fun t _ => tr_pre t) (l := a) (if k = 2 then met o i else o)
    rw [if_pos hk] at h2 hs
    rw [hs, h2]
    exact List.mem_append_left _ (List.mem_append_left _ (met_mem o i))
theorem ix_get {m : Int} : ∀ {o : List Int}, m ∈ o → o[ix m o]? = some m
  | [], h => by cases h
  | x :: l, h => by
    rw [ix]
    by_cases hx : x = m
    · rw [if_pos hx]; simp [hx]
    · rw [if_neg hx]
      have := ix_get (m := m) (o := l) (by rcases List.mem_cons.1 h with h | h; exact absurd h.symm hx; exact h)
      simpa using this
/-! typed -/
variable {C M : List Ty} {o : List Int}
theorem head_rn {X : List Ty} {k i : Int} (ho : ∀ x ∈ o, 0 ≤ x ∧ x < M.length) (hi : k = 2 → i ∈ o) : headTy C (o.map (mt M)) X k (if k = 2 ∧ i ∈ o then (ix i o : Int) else i) = headTy C M X k i := by
  by_cases hk : k = 2
  · have hm := hi hk
    rw [if_pos ⟨hk, hm⟩]
    obtain ⟨h0, h1⟩ := ho i hm
    obtain ⟨n, rfl⟩ := Int.eq_ofNat_of_zero_le h0
    subst hk
    rw [headTy_2, headTy_2, List.getElem?_map, ix_get hm, Option.map_some, mt_at (show n < M.length by omega), List.getElem?_eq_getElem (show n < M.length by omega)]
  · rw [if_neg fun h => hk h.1]
    unfold headTy
    split
    · rfl
    · split
      · rfl
      · split
        · rfl
        · first | rfl | rw [if_neg hk, if_neg hk]
theorem isOfs_rn_of {l : List Tm} (h : ∀ t ∈ l, ∀ X u, AllIn o t → IsOf C M t X u → IsOf C (o.map (mt M)) (rn o t) X u) : ∀ X us, AllIns o l → IsOfs C M l X us → IsOfs C (o.map (mt M)) (rns o l) X us := by
  induction l with
  | nil =>
    intro X us _ hu
    rw [rns]
    cases us with
    | nil => rw [IsOfs]; trivial
    | cons u us => rw [IsOfs] at hu; exact hu.elim
  | cons t l ih =>
    intro X us ha hu
    rw [AllIns] at ha
    rw [rns]
    cases us with
    | nil => simp [IsOfs] at hu
    | cons u us =>
      rw [IsOfs] at hu ⊢
      exact ⟨h t (by simp) X u ha.1 hu.1, ih (fun v hv => h v (by simp [hv])) X us ha.2 hu.2⟩
theorem isOf_rn (ho : ∀ x ∈ o, 0 ≤ x ∧ x < M.length) (t : Tm) : ∀ X u, AllIn o t → IsOf C M t X u → IsOf C (o.map (mt M)) (rn o t) X u := by
  induction t using Tm.ind with
  | h b k i a ih =>
    intro X u ha hu
    rw [allIn_eq] at ha
    rw [rn_eq]
    obtain ⟨h1, h, h2, h3, h4⟩ := isOf_mk.1 hu
    exact isOf_mk.2 ⟨h1, h, by rw [head_rn ho ha.1]; exact h2, h3, isOfs_rn_of ih _ _ ha.2 h4⟩
/-! patterns -/
mutual
def K0 : Tm → Prop
  | .mk _ k _ a => k ≠ 2 ∧ K0s a
def K0s : List Tm → Prop
  | [] => True
  | t :: l => K0 t ∧ K0s l
end
theorem k0_eq (b : List Ty) (k i : Int) (a : List Tm) : K0 (.mk b k i a) ↔ k ≠ 2 ∧ K0s a := by rw [K0]
theorem rns_k0_of {f : List Int} {l : List Tm} (h : ∀ t ∈ l, K0 t → rn f t = t) : K0s l → rns f l = l := by
  induction l with
  | nil => intro _; simp [rns]
  | cons t l ih =>
    intro hk
    rw [K0s] at hk
    rw [rns, h t (by simp) hk.1, ih (fun u hu => h u (by simp [hu])) hk.2]
theorem rn_k0 (f : List Int) (t : Tm) : K0 t → rn f t = t := by
  induction t using Tm.ind with
  | h b k i a ih =>
    intro hk
    rw [k0_eq] at hk
    rw [rn_eq, if_neg fun h => hk.1 h.1, rns_k0_of ih hk.2]
theorem rns_k0 (f : List Int) (l : List Tm) : K0s l → rns f l = l := rns_k0_of fun t _ => rn_k0 f t
theorem k0s_of {f : List Int} {l : List Tm} (h : ∀ t ∈ l, K0 (rn f t) → K0 t) : K0s (rns f l) → K0s l := by
  induction l with
  | nil => intro _; simp [K0s]
  | cons t l ih =>
    intro hk
    rw [rns, K0s] at hk
    rw [K0s]
    exact ⟨h t (by simp) hk.1, ih (fun u hu => h u (by simp [hu])) hk.2⟩
theorem k0_of (f : List Int) (t : Tm) : K0 (rn f t) → K0 t := by
  induction t using Tm.ind with
  | h b k i a ih =>
    intro hk
    rw [rn_eq, k0_eq] at hk
    exact (k0_eq ..).2 ⟨hk.1, k0s_of ih hk.2⟩
theorem etas_k0_of {l : List Ty} (h : ∀ t ∈ l, ∀ i, K0 (Ty.eta t 0 i)) : K0s (Ty.etas l) := by
  induction l with
  | nil => simp [Ty.etas, K0s]
  | cons t l ih =>
    rw [Ty.etas, K0s]
    exact ⟨h t (by simp) _, ih fun u hu => h u (by simp [hu])⟩
theorem eta_k0 (t : Ty) : ∀ i, K0 (Ty.eta t 0 i) := by
  induction t using Ty.ind with
  | h l b ih =>
    intro i
    rw [Ty.eta_eq, k0_eq]
    exact ⟨by decide, etas_k0_of ih⟩
theorem rns_etas (f : List Int) (a : List Tm) (b : List Ty) : rns f a = Ty.etas b ↔ a = Ty.etas b := by
  constructor
  · intro h
    have h1 : K0s (rns f a) := by rw [h]; exact etas_k0_of fun t _ => eta_k0 t
    rw [← rns_k0 f a (k0s_of (fun t _ => k0_of f t) h1), h]
  · rintro rfl; exact rns_k0 f _ (etas_k0_of fun t _ => eta_k0 t)
theorem isVar_rn (f : List Int) (n : Int) (acc : List Int) (t : Tm) : Pn.isVar n acc (rn f t) = Pn.isVar n acc t ∧ (Pn.isVar n acc t = true → (rn f t).headIx = t.headIx) := by
  obtain ⟨b, k, i, a⟩ := t
  rw [rn_eq]
  by_cases hk : k = 0
  · subst hk
    rw [if_neg (fun h => absurd h.1 (by decide))]
    refine ⟨?_, fun _ => rfl⟩
    have e : longB (.mk b 0 i (rns f a)) = longB (.mk b 0 i a) := by
      unfold longB
      have : decide (rns f a = Ty.etas b) = decide (a = Ty.etas b) := by rw [decide_eq_decide]; exact rns_etas f a b
      show (decide (rns f a = Ty.etas b) && _) = (decide (a = Ty.etas b) && _)
      rw [this]; rfl
    unfold Pn.isVar
    rw [e]; rfl
  · have h1 : ∀ (x : Int) (c : List Tm), Pn.isVar n acc (.mk b k x c) = false := fun x c => by
      unfold Pn.isVar
      rw [show decide ((Tm.mk b k x c).kind = 0) = false from decide_eq_false hk, Bool.false_and, Bool.and_false]
    rw [h1, h1]
    exact ⟨rfl, fun h => by cases h⟩
theorem varsL_rn (f : List Int) (n : Int) : ∀ (l : List Tm) (acc : List Int), Pn.varsL n (rns f l) acc = Pn.varsL n l acc
  | [], acc => by rw [rns]
  | t :: l, acc => by
    obtain ⟨h1, h2⟩ := isVar_rn f n acc t
    rw [rns, Pn.varsL, Pn.varsL, h1]
    by_cases hv : Pn.isVar n acc t = true
    · rw [if_pos hv, if_pos hv, h2 hv, varsL_rn f n l]
    · rw [if_neg hv, if_neg hv]
theorem usess_rn_of {f : List Int} {l : List Tm} (h : ∀ t ∈ l, ∀ ar p, (Pn.uses (rn f t) ar p).2 = (Pn.uses t ar p).2) : ∀ ar p j, (Pn.usess (rns f l) ar p j).2 = (Pn.usess l ar p j).2 := by
  induction l with
  | nil => intro ar p j; rw [rns]
  | cons t l ih =>
    intro ar p j
    rw [rns, Pn.usess, Pn.usess, h t (by simp)]
    split
    · exact ih (fun u hu => h u (by simp [hu])) ar p (j + 1)
    · rfl
theorem uses_rn (f : List Int) (t : Tm) : ∀ ar p, (Pn.uses (rn f t) ar p).2 = (Pn.uses t ar p).2 := by
  induction t using Tm.ind with
  | h b k i a ih =>
    intro ar p
    rw [rn_eq, Pn.uses_eq, Pn.uses_eq, varsL_rn]
    by_cases hk : k = 2
    · rw [if_pos hk, if_pos hk]
      cases Pn.varsL ((ar ++ b).length : Nat) a [] <;> rfl
    · rw [if_neg hk, if_neg hk]
      exact usess_rn_of ih _ _ _
/-! which metavariables -/
def g (f : List Int) (x : Int) : Int := if x ∈ f then (ix x f : Int) else x
theorem metasP_app (a b : List (Nat × Nat × Tm)) : metasP (a ++ b) = metasP a ++ metasP b := List.filterMap_append ..
theorem metasP_rn_of {f : List Int} {l : List Tm} (h : ∀ t ∈ l, ∀ s d, metasP ((rn f t).pre s d) = (metasP (t.pre s d)).map (g f)) : ∀ s d, metasP (Tm.pres (rns f l) s d) = (metasP (Tm.pres l s d)).map (g f) := by
  induction l with
  | nil => intro s d; simp [rns, Tm.pres, metasP]
  | cons t l ih =>
    intro s d
    rw [rns, Tm.pres, Tm.pres, metasP_app, metasP_app, h t (by simp), ih (fun u hu => h u (by simp [hu])), List.map_append]
theorem metasP_rn (f : List Int) (t : Tm) : ∀ s d, metasP ((rn f t).pre s d) = (metasP (t.pre s d)).map (g f) := by
  induction t using Tm.ind with
  | h b k i a ih =>
    intro s d
    have h := metasP_rn_of ih (s + b.length) (d + 1)
    rw [rn_eq, Tm.pre_eq, Tm.pre_eq]
    unfold metasP at h ⊢
    rw [List.filterMap_cons, List.filterMap_cons]
    by_cases hk : k = 2
    · simp only [kindT, indexT, hk, if_true, true_and, List.map_cons]
      rw [h]; rfl
    · simp only [kindT, hk, if_false]
      exact h
theorem metasL_rn (f : List Int) (t : Tm) : metasL [rn f t] = (metasL [t]).map (g f) := by
  unfold metasL
  simp only [List.flatMap_cons, List.flatMap_nil, List.append_nil]
  exact metasP_rn f t 0 1
end Ru
end Go.Proofs.YtflbnonbfmmchaaGreat

namespace Go.Proofs.YtflbnonbfmmchaaGreat
open Go.RowKit
namespace Ru
variable {C M : List Ty}
theorem rng_in_of {l : List Tm} (h : ∀ t ∈ l, ∀ X u, IsOf C M t X u → ∀ s d, ∀ x ∈ metasP (t.pre s d), 0 ≤ x ∧ x < M.length) : ∀ X us, IsOfs C M l X us → ∀ s d, ∀ x ∈ metasP (Tm.pres l s d), 0 ≤ x ∧ x < M.length := by
  induction l with
  | nil => intro X us _ s d x hx; simp [Tm.pres, metasP] at hx
  | cons t l ih =>
    intro X us hu s d x hx
    cases us with
    | nil => rw [IsOfs] at hu; exact hu.elim
    | cons u us =>
      rw [IsOfs] at hu
      rw [Tm.pres, metasP_app] at hx
      rcases List.mem_append.1 hx with hx | hx
      · exact h t (by simp) X u hu.1 s d x hx
      · exact ih (fun v hv => h v (by simp [hv])) X us hu.2 s d x hx
theorem rng_in (t : Tm) : ∀ X u, IsOf C M t X u → ∀ s d, ∀ x ∈ metasP (t.pre s d), 0 ≤ x ∧ x < M.length := by
  induction t using Tm.ind with
  | h b k i a ih =>
    intro X u hu s d x hx
    obtain ⟨h1, h, h2, h3, h4⟩ := isOf_mk.1 hu
    have hr := rng_in_of ih _ _ h4 (s + b.length) (d + 1)
    rw [Tm.pre_eq] at hx
    unfold metasP at hx hr
    rw [List.filterMap_cons] at hx
    by_cases hk : k = 2
    · simp only [kindT, indexT, hk, if_true, List.mem_cons] at hx
      rcases hx with rfl | hx
      · subst hk
        by_cases hn : x < 0
        · rw [headTy_neg hn] at h2; cases h2
        · obtain ⟨n, rfl⟩ := Int.eq_ofNat_of_zero_le (Int.not_lt.1 hn)
          rw [headTy_2] at h2
          have := (List.getElem?_eq_some_iff.1 h2).1
          omega
      · exact hr x hx
    · simp only [kindT, hk, if_false] at hx
      exact hr x hx
theorem pre_mk {b : List Ty} {k i : Int} {a : List Tm} (s d : Nat) : metasP ((Tm.mk b k i a).pre s d) = (if k = 2 then [i] else []) ++ metasP (Tm.pres a (s + b.length) (d + 1)) := by
  rw [Tm.pre_eq]
  unfold metasP
  rw [List.filterMap_cons]
  by_cases hk : k = 2
  · simp [kindT, indexT, hk]
  · simp [kindT, hk]
theorem met_mem' {o : List Int} {i x : Int} (h : x ∈ met o i) : x ∈ o ∨ x = i := by
  unfold met at h
  split at h
  · exact .inl h
  · rcases List.mem_append.1 h with h | h
    · exact .inl h
    · exact .inr (List.mem_singleton.1 h)
theorem trs_P_of (P : Int → Prop) {l : List Tm} (h : ∀ t ∈ l, ∀ o s d, (∀ x ∈ o, P x) → (∀ x ∈ metasP (t.pre s d), P x) → ∀ x ∈ (tr t o).1, P x) : ∀ o s d, (∀ x ∈ o, P x) → (∀ x ∈ metasP (Tm.pres l s d), P x) → ∀ x ∈ (trs l o).1, P x := by
  induction l with
  | nil => intro o s d ho _ x hx; rw [trs] at hx; exact ho x hx
  | cons t l ih =>
    intro o s d ho hm
    rw [Tm.pres, metasP_app] at hm
    rw [trs]
    exact ih (fun u hu => h u (by simp [hu])) _ s d (h t (by simp) o s d ho fun x hx => hm x (List.mem_append_left _ hx)) fun x hx => hm x (List.mem_append_right _ hx)
theorem tr_P (P : Int → Prop) (t : Tm) : ∀ o s d, (∀ x ∈ o, P x) → (∀ x ∈ metasP (t.pre s d), P x) → ∀ x ∈ (tr t o).1, P x := by
  induction t using Tm.ind with
  | h b k i a ih =>
    intro o s d ho hm
    rw [pre_mk] at hm
    rw [tr_eq]
    refine trs_P_of P ih _ (s + b.length) (d + 1) ?_ fun x hx => hm x (List.mem_append_right _ hx)
    intro x hx
    by_cases hk : k = 2
    · rw [if_pos hk] at hx
      rcases met_mem' hx with h | rfl
      · exact ho x h
      · exact hm x (List.mem_append_left _ (by rw [if_pos hk]; simp))
    · rw [if_neg hk] at hx; exact ho x hx
theorem allIns_of {o : List Int} {l : List Tm} (h : ∀ t ∈ l, AllIn o t → ∀ s d, ∀ x ∈ metasP (t.pre s d), x ∈ o) : AllIns o l → ∀ s d, ∀ x ∈ metasP (Tm.pres l s d), x ∈ o := by
  induction l with
  | nil => intro _ s d x hx; simp [Tm.pres, metasP] at hx
  | cons t l ih =>
    intro ha s d x hx
    rw [AllIns] at ha
    rw [Tm.pres, metasP_app] at hx
    rcases List.mem_append.1 hx with hx | hx
    · exact h t (by simp) ha.1 s d x hx
    · exact ih (fun v hv => h v (by simp [hv])) ha.2 s d x hx
theorem allIn_mem {o : List Int} (t : Tm) : AllIn o t → ∀ s d, ∀ x ∈ metasP (t.pre s d), x ∈ o := by
  induction t using Tm.ind with
  | h b k i a ih =>
    intro ha s d x hx
    rw [allIn_eq] at ha
    rw [pre_mk] at hx
    rcases List.mem_append.1 hx with hx | hx
    · by_cases hk : k = 2
      · rw [if_pos hk, List.mem_singleton] at hx; subst hx; exact ha.1 hk
      · rw [if_neg hk] at hx; cases hx
    · exact allIns_of ih ha.2 _ _ x hx
theorem metasL_one (t : Tm) : metasL [t] = metasP (t.pre 0 1) := by
  unfold metasL; simp
theorem g_inj {o : List Int} {x y : Int} (hx : x ∈ o) (hy : y ∈ o) (h : g o x = g o y) : x = y := by
  unfold g at h
  rw [if_pos hx, if_pos hy] at h
  have h1 := ix_get hx
  have h2 := ix_get hy
  have : ix x o = ix y o := by omega
  rw [this, h2] at h1
  exact (Option.some.inj h1).symm
theorem own_all {b : Int} {p : Li.Pr} (hg : Good b C p) : (own p).2 = 0 ∧ Good b C (own p).1 ∧ chk (own p).1 = chk p ∧ (chk p = 0 → (sortU (metasL [(own p).1.l])).length = (own p).1.m.length) := by
  obtain ⟨o, ho⟩ : ∃ o, (tr p.r (tr p.l []).1).1 = o := ⟨_, rfl⟩
  have e := own_eq p o ho
  obtain ⟨hw, hl, hr, u, hu, hua, hi1, hi2⟩ := hg
  have mem : ∀ x ∈ o, x ∈ metasL [p.l] ∨ x ∈ metasL [p.r] := by
    rw [← ho, metasL_one, metasL_one]
    exact tr_P (fun x => x ∈ metasP (p.l.pre 0 1) ∨ x ∈ metasP (p.r.pre 0 1)) p.r _ 0 1 (tr_P (fun x => x ∈ metasP (p.l.pre 0 1) ∨ x ∈ metasP (p.r.pre 0 1)) p.l [] 0 1 (fun x hx => by cases hx) fun x hx => .inl hx) fun x hx => .inr hx
  have hin : ∀ x ∈ o, 0 ≤ x ∧ x < p.m.length := fun x hx => by
    rcases mem x hx with h | h
    · rw [metasL_one] at h; exact rng_in p.l [] u hi1 0 1 x h
    · rw [metasL_one] at h; exact rng_in p.r [] u hi2 0 1 x h
  have hb : o.any (bad p.m) = false := by
    rw [List.any_eq_false]
    intro x hx
    have := hin x hx
    unfold bad
    rw [decide_eq_true_eq]; omega
  rw [if_neg (by rw [hb]; simp)] at e
  obtain ⟨s2, hs2⟩ := tr_pre p.r (tr p.l []).1
  have aL : AllIn o p.l := tr_in p.l [] o ⟨s2, by rw [← ho, hs2]⟩
  have aR : AllIn o p.r := tr_in p.r (tr p.l []).1 o ⟨[], by rw [ho]; simp⟩
  have mL : ∀ x ∈ metasL [p.l], x ∈ o := fun x hx => by rw [metasL_one] at hx; exact allIn_mem p.l aL 0 1 x hx
  have mR : ∀ x ∈ metasL [p.r], x ∈ o := fun x hx => by rw [metasL_one] at hx; exact allIn_mem p.r aR 0 1 x hx
  have nd : o.Nodup := by rw [← ho]; exact tr_nodup _ _ (tr_nodup _ _ (by simp))
  rw [e]
  dsimp only
  have hkr : (rn o p.l).kind = p.l.kind := by generalize p.l = t; obtain ⟨_, _, _, _⟩ := t; rw [rn_eq]; rfl
  have eR : metasL [rn o p.r] = (metasL [p.r]).map (g o) := metasL_rn o p.r
  have eL : metasL [rn o p.l] = (metasL [p.l]).map (g o) := metasL_rn o p.l
  have hex : (∃ y ∈ metasL [rn o p.r], y ∉ metasL [rn o p.l]) ↔ ∃ x ∈ metasL [p.r], x ∉ metasL [p.l] := by
    rw [eR, eL]
    constructor
    · rintro ⟨y, hy, hn⟩
      obtain ⟨x, hx, rfl⟩ := List.mem_map.1 hy
      exact ⟨x, hx, fun h => hn (List.mem_map.2 ⟨x, h, rfl⟩)⟩
    · rintro ⟨x, hx, hn⟩
      refine ⟨g o x, List.mem_map.2 ⟨x, hx, rfl⟩, fun h => ?_⟩
      obtain ⟨z, hz, hzx⟩ := List.mem_map.1 h
      have := g_inj (mL z hz) (mR x hx) hzx
      subst this
      exact hn hz
  have hck : chk ⟨rn o p.l, rn o p.r, o.map (mt p.m)⟩ = chk p := by
    by_cases hk : p.l.kind = 1
    · cases hus : (Pn.uses p.l [] []).2 with
      | false =>
        have h1 : chk ⟨rn o p.l, rn o p.r, o.map (mt p.m)⟩ = 6 := by
          unfold chk
          dsimp only
          rw [if_neg (by simp [hkr, hk]), if_pos (by rw [uses_rn]; exact hus)]
        have h2 : chk p = 6 := by
          unfold chk
          rw [if_neg (by simp [hk]), if_pos hus]
        rw [h1, h2]
      | true =>
        rw [chk_at (p := ⟨rn o p.l, rn o p.r, o.map (mt p.m)⟩) (by show (rn o p.l).kind = 1; rw [hkr]; exact hk) (by show (Pn.uses (rn o p.l) [] []).2 = true; rw [uses_rn]; exact hus), chk_at hk hus]
        by_cases h : ∃ x ∈ metasL [p.r], x ∉ metasL [p.l]
        · rw [if_pos h, if_pos (hex.2 h)]
        · rw [if_neg h, if_neg (fun h' => h (hex.1 h'))]
    · unfold chk
      dsimp only
      rw [if_pos (by rw [hkr]; exact hk), if_pos hk]
  refine ⟨rfl, ⟨⟨?_, ?_⟩, ?_, ?_, u, ?_, hua, isOf_rn hin p.l [] u aL hi1, isOf_rn hin p.r [] u aR hi2⟩, hck, ?_⟩
  · have h1 := nodup_le o (rg p.m.length) nd fun x hx => (rg_mem _ _).2 (hin x hx)
    rw [rg_len] at h1
    rw [List.length_map]
    have := hw.1; omega
  · intro t ht
    rcases List.mem_append.1 ht with ht | ht
    · exact hw.2 t (List.mem_append_left _ ht)
    · obtain ⟨x, hx, rfl⟩ := List.mem_map.1 ht
      obtain ⟨h0, h1⟩ := hin x hx
      obtain ⟨n, rfl⟩ := Int.eq_ofNat_of_zero_le h0
      rw [mt_at (show n < p.m.length by omega)]
      exact hw.2 _ (List.mem_append_right _ (List.getElem_mem _))
  · show Li.rt (rn o p.l) = true
    rw [rn_rt]; exact hl
  · show Li.rt (rn o p.r) = true
    rw [rn_rt]; exact hr
  · show tyOf C (o.map (mt p.m)) (rn o p.l) = some u
    rw [← hu]
    generalize p.l = t at aL
    obtain ⟨tb, tk, ti, ta⟩ := t
    rw [allIn_eq] at aL
    rw [rn_eq]
    unfold tyOf
    show Option.map _ (headTy C (o.map (mt p.m)) ([] ++ tb) tk (if tk = 2 ∧ ti ∈ o then (ix ti o : Int) else ti)) = Option.map _ (headTy C p.m ([] ++ tb) tk ti)
    rw [head_rn hin aL.1]; rfl
  · intro hc
    have hno : ¬ ∃ x ∈ metasL [p.r], x ∉ metasL [p.l] := by
      have hk : p.l.kind = 1 := by
        unfold chk at hc
        by_cases h : p.l.kind = 1
        · exact h
        · rw [if_pos h] at hc; cases hc
      have hus : (Pn.uses p.l [] []).2 = true := by
        unfold chk at hc
        rw [if_neg (by simp [hk])] at hc
        cases h : (Pn.uses p.l [] []).2 with
        | true => rfl
        | false => rw [if_pos h] at hc; cases hc
      rw [chk_at hk hus] at hc
      intro h; rw [if_pos h] at hc; cases hc
    have hol : ∀ x ∈ o, x ∈ metasL [p.l] := fun x hx => by
      rcases mem x hx with h | h
      · exact h
      · by_cases h2 : x ∈ metasL [p.l]
        · exact h2
        · exact absurd ⟨x, h, h2⟩ hno
    have hsp := sortU_spec (metasL [rn o p.l])
    have hset : ∀ y, y ∈ sortU (metasL [rn o p.l]) ↔ 0 ≤ y ∧ y < (o.length : Nat) := fun y => by
      rw [hsp.2, eL, List.mem_map]
      constructor
      · rintro ⟨x, hx, rfl⟩
        have hxo := mL x hx
        have := (List.getElem?_eq_some_iff.1 (ix_get hxo)).1
        unfold g; rw [if_pos hxo]; omega
      · rintro ⟨h0, h1⟩
        obtain ⟨n, rfl⟩ := Int.eq_ofNat_of_zero_le h0
        have hn : n < o.length := by omega
        have hxo : o[n] ∈ o := List.getElem_mem hn
        refine ⟨o[n], hol _ hxo, ?_⟩
        unfold g; rw [if_pos hxo]
        have h2 := List.getElem?_eq_some_iff.1 (ix_get hxo)
        obtain ⟨h3, h4⟩ := h2
        have heq : ix o[n] o = n := by
          rcases Nat.lt_trichotomy (ix o[n] o) n with h5 | h5 | h5
          · exact absurd h4 (List.pairwise_iff_getElem.1 nd _ _ h3 hn h5)
          · exact h5
          · exact absurd h4.symm (List.pairwise_iff_getElem.1 nd _ _ hn h3 h5)
        omega
    show (sortU (metasL [rn o p.l])).length = (o.map (mt p.m)).length
    rw [List.length_map]
    have n1 : (sortU (metasL [rn o p.l])).Nodup := hsp.1.imp fun h => by omega
    have n2 : ∀ n, (rg n).Nodup := fun n => by
      induction n with
      | zero => simp [rg]
      | succ n ih =>
        rw [rg, List.nodup_append]
        refine ⟨ih, by simp, fun x hx y hy h => ?_⟩
        rw [List.mem_singleton] at hy
        rw [rg_mem] at hx
        omega
    have l1 := nodup_le _ (rg o.length) n1 fun x hx => (rg_mem _ _).2 ((hset x).1 hx)
    have l2 := nodup_le (rg o.length) _ (n2 _) fun x hx => (hset x).2 ((rg_mem _ _).1 hx)
    rw [rg_len] at l1 l2
    omega
end Ru
end Go.Proofs.YtflbnonbfmmchaaGreat

namespace Go.Proofs.YtflbnonbfmmchaaGreat
open Go.RowKit

def swR (kw kb : Nat) (l : List (Int × Tm)) (s : Nm.St) : List (Key × D) := [(.c kw 0, .o kb), (.c kw 1, .sl 5 (ePairs l) none), (.c kw 2, .v (.int .i64 s.e)), (.o kb, .ob (BudJ s.left s.dry))]
theorem sthr_at (kw kb : Nat) (hk : kw ≠ kb) (l : List (Int × Tm)) (hl : l.length ≤ 1000000) (t : Tm) (ht : Wide t) (ins : Int) (s : Nm.St) (hs : InR s) (ho : thOk l t ins s) :
    CallC Tryz.prog 65 [.p kw 0, .ag (eTm t), .v (.int .i64 ins)] (swR kw kb l s) (swR kw kb l (Sb.through l t ins s).2) (.ag (eTm (Sb.through l t ins s).1)) := by
  have h := (sthr_d l hl t ht ins s hs ho).ren (ren2 kw kb) (by simp [renOk, swE, D.ok, D.oks, rnames, inN, ckey, eTm_ok, eTms_ok, eTys_ok, ePairs_ok]) (by
    intro k h1 k' h2
    simp [rnames, swE] at h1 h2
    rcases h1 with rfl | rfl <;> rcases h2 with rfl | rfl <;> simp [ren2, hk, hk.symm])
  simpa [D.ren, eTm_ren, eTms_ren, ePairs_ren, swE, swR, renE, Key.ren, ren2] using h

theorem app_1 {l : List (Int × Tm)} {t : Tm} {left : Int} {dry : Bool} (h : Sb.right l = false) : Sb.apply l t left dry = (Nm.tz, ⟨left, dry, 0, 1⟩) := if_pos h
theorem app_2 {l : List (Int × Tm)} {t : Tm} {left : Int} {dry : Bool} (h : Sb.right l = true) : Sb.apply l t left dry =
    (let r := Sb.through l t 0 ⟨left, dry, 0, 0⟩; let s : Nm.St := if r.2.e = 0 ∧ ¬ (r.1.size ≤ 5000 ∧ r.1.depth ≤ 60) then { r.2 with e := 2 } else r.2; if s.e ≠ 0 then (Nm.tz, s) else (r.1, s)) := if_neg (by rw [h]; simp)
def endA (t : Tm) (s : Nm.St) : Tm × Nm.St := let s' : Nm.St := if s.e = 0 ∧ ¬ (t.size ≤ 5000 ∧ t.depth ≤ 60) then { s with e := 2 } else s; if s'.e ≠ 0 then (Nm.tz, s') else (t, s')
theorem end_1 {t : Tm} (h : t.size ≤ 5000 ∧ t.depth ≤ 60) (l : Int) (d : Bool) (c : Int) : endA t ⟨l, d, c, 0⟩ = (t, ⟨l, d, c, 0⟩) := by
  have : ¬ ((0 : Int) = 0 ∧ ¬ (t.size ≤ 5000 ∧ t.depth ≤ 60)) := fun h' => h'.2 h
  unfold endA; dsimp only; rw [if_neg this]; simp
theorem end_2 {t : Tm} (h : ¬ (t.size ≤ 5000 ∧ t.depth ≤ 60)) (l : Int) (d : Bool) (c : Int) : endA t ⟨l, d, c, 0⟩ = (Nm.tz, ⟨l, d, c, 2⟩) := by
  have : (0 : Int) = 0 ∧ ¬ (t.size ≤ 5000 ∧ t.depth ≤ 60) := ⟨rfl, h⟩
  unfold endA; dsimp only; rw [if_pos this]; rfl
theorem end_3 {t : Tm} {e : Int} (h : e ≠ 0) (l : Int) (d : Bool) (c : Int) : endA t ⟨l, d, c, e⟩ = (Nm.tz, ⟨l, d, c, e⟩) := by
  have : ¬ (e = 0 ∧ ¬ (t.size ≤ 5000 ∧ t.depth ≤ 60)) := fun h' => h h'.1
  unfold endA; dsimp only; rw [if_neg this]; exact if_pos h

set_option maxHeartbeats 1000000 in
theorem apply_d (l : List (Int × Tm)) (hl : l.length ≤ 1000000) (t : Tm) (ht : Wide t) (left : Int) (dry : Bool) (h0 : 0 ≤ left ∧ left ≤ 1000000000) (ho : Sb.right l = true → thOk l t 0 ⟨left, dry, 0, 0⟩ ∧ ((Sb.through l t 0 ⟨left, dry, 0, 0⟩).2.e = 0 → DoneOk (Sb.through l t 0 ⟨left, dry, 0, 0⟩).1)) :
  CallC Tryz.prog 18 [.sl 5 (ePairs l) none, .ag (eTm t), .o 1] [(.o 1, .ob (BudJ left dry))] [(.o 1, .ob (BudJ (Sb.apply l t left dry).2.left (Sb.apply l t left dry).2.dry))] (.tu [.ag (eTm (Sb.apply l t left dry).1), .v (.int .i64 (Sb.apply l t left dry).2.e)]) := by
 obtain ⟨p, hp⟩ : ∃ p, Sb.apply l t left dry = p := ⟨_, rfl⟩
 rw [hp]
 have hrt := sright_d l hl
 have hth := fun h => sthr_at 15 1 (by decide) l hl t ht 0 ⟨left, dry, 0, 0⟩ h0 (ho h).1
 rw [eTm_eq t] at hth ⊢
 refine call_of_dw 2 50 [ResultVar.cell 6 41, ResultVar.tmp 7] TS2_ok (by kernel_rfl) Tryz.func18 rfl Tryz.ntmps18 rfl (by simp) ?dwords ?dbody
 case dwords => simp [wordsOk, D.ok, D.oks, rnames, inN, ckey, eTm_ok, eTms_ok, eTys_ok, ePairs_ok]
 case dbody =>
  intro cx hnt hn0
  refine dw_seq ?_; refine dwk [] TS2_ok hnt fun K hK => ?_; refine hK _ _ ?_; clear hK K; refine dw_seq (dw_seq ?_)
  cases hr : Sb.right l with
  | false =>
   rw [hr] at hrt
   rw [app_1 hr] at hp
   subst hp
   refine dwk [] TS2_ok hnt fun K hK => ?_; refine dcl (hrt) ?_; refine hK _ _ ?_; clear hK K; refine dw_cond (t := true) rfl ?_; rw [if_pos rfl]; refine dw_seq ?_; refine dwk [] TS2_ok hnt fun K hK => ?_; refine hK _ _ ?_; clear hK K; refine dw_ret ?_
   rw [tz_eq]
   exact retv (N := 0) (.inr rfl) rfl (by repeat first | exact VLe.refl _ | exact VLe.nil _ | exact VLe.untag _ _ _ | refine VLe.ag ?_ | refine VLe.tu ?_ | refine VLeL.cons ?_ ?_ | exact VLeL.nil) (by repeat first | exact trivial | refine And.intro rfl ?_)
  | true =>
   rw [hr] at hrt
   have ho := (ho hr).2
   have hth := hth hr
   rw [app_2 hr] at hp
   obtain ⟨r, hrr⟩ : ∃ r, Sb.through l t 0 ⟨left, dry, 0, 0⟩ = r := ⟨_, rfl⟩
   rw [hrr] at hp ho hth
   have hp : endA r.1 r.2 = p := hp
   clear hrr
   obtain ⟨u, s1⟩ := r
   obtain ⟨left', dry', count, er⟩ := s1
   dsimp only at hp ho hth
   refine dwk [] TS2_ok hnt fun K hK => ?_; refine dcl (hrt) ?_; refine hK _ _ ?_; clear hK K; refine dw_cond (t := false) rfl ?_; rw [if_neg (by simp)]; refine dw_skip ?_; refine dw_seq ?_; refine dwk [] TS2_ok hnt fun K hK => ?_; refine hK _ _ ?_; clear hK K; refine dw_seq ?_
   have hru : er = 0 → PureC Tryz.prog 61 [.ag (eTm u)] (.v (.bool (decide (u.size ≤ 5000 ∧ u.depth ≤ 60)))) := fun h => right_d u (by have := (ho h).right; omega)
   have hcu : er = 0 → (u.size ≤ 5000 ∧ u.depth ≤ 60) → PureC Tryz.prog 66 [.ag (eTm u)] (.ag (eTm u)) := fun h h' => copyW_d u ((ho h).copy h').1 ((ho h).copy h').2
   rw [eTm_eq u] at hth hru hcu
   refine dwk [] TS2_ok hnt fun K hK => ?_; refine dcl (hth) ?_; refine hK _ _ ?_; clear hK K; refine dw_seq (dw_seq ?_)
   by_cases he : er = 0
   ·subst he
    have hru := hru rfl
    by_cases hR : u.size ≤ 5000 ∧ u.depth ≤ 60
    ·have hcu := hcu rfl hR
     rw [end_1 hR] at hp
     subst hp
     rw [decide_eq_true hR] at hru
     refine dwk [(29, .v (.bool true))] TS2_ok hnt fun K hK => ?_; refine And.intro (VLe.refl _) ?_; refine dcl (hru) ?_; refine hK _ _ ?_; clear hK K; refine dw_cond (t := false) rfl ?_; rw [if_neg (by simp)]; refine dw_skip ?_; refine dw_seq (dw_seq ?_); refine dwk [(42, .v (.bool false))] TS2_ok hnt fun K hK => ?_; refine And.intro (VLe.refl _) ?_; refine hK _ _ ?_; clear hK K; refine dw_cond (t := false) rfl ?_
     rw [if_neg (by simp)]; refine dw_skip ?_; refine dw_seq ?_; refine dwk [] TS2_ok hnt fun K hK => ?_; refine dcl (hcu) ?_; refine hK _ _ ?_; clear hK K; refine dw_ret ?_
     rw [eTm_eq]
     exact retv (N := 0) (.inr rfl) rfl (by repeat first | exact VLe.refl _ | exact VLe.nil _ | exact VLe.untag _ _ _ | refine VLe.ag ?_ | refine VLe.tu ?_ | refine VLeL.cons ?_ ?_ | exact VLeL.nil) (by repeat first | exact trivial | refine And.intro rfl ?_)
    ·rw [end_2 hR] at hp
     subst hp
     rw [decide_eq_false hR] at hru
     refine dwk [(29, .v (.bool true))] TS2_ok hnt fun K hK => ?_; refine And.intro (VLe.refl _) ?_; refine dcl (hru) ?_; refine hK _ _ ?_; clear hK K; refine dw_cond (t := true) rfl ?_; rw [if_pos rfl]; refine dwk [] TS2_ok hnt fun K hK => ?_; refine hK _ _ ?_; clear hK K; refine dw_seq (dw_seq ?_); refine dwk [(42, .v (.bool true))] TS2_ok hnt fun K hK => ?_; refine And.intro (VLe.refl _) ?_; refine hK _ _ ?_; clear hK K
     refine dw_cond (t := true) rfl ?_; rw [if_pos rfl]; refine dw_seq ?_; refine dwkD [] TS2_ok hnt fun K hK => ?_; refine hK _ _ (by kernel_rfl) ?_; clear hK K; refine dw_ret ?_
     rw [tz_eq]
     exact retv (N := 0) (.inr rfl) rfl (by repeat first | exact VLe.refl _ | exact VLe.nil _ | exact VLe.untag _ _ _ | refine VLe.ag ?_ | refine VLe.tu ?_ | refine VLeL.cons ?_ ?_ | exact VLeL.nil) (by repeat first | exact trivial | refine And.intro rfl ?_)
   ·rw [end_3 he] at hp
    subst hp
    refine dwk [(29, .v (.bool false))] TS2_ok hnt fun K hK => ?_; refine And.intro (VLe.of_eq (by simp [he])) ?_; refine hK _ _ ?_; clear hK K; refine dw_cond (t := false) rfl ?_; rw [if_neg (by simp)]; refine dw_skip ?_; refine dw_seq (dw_seq ?_); refine dwk [(42, .v (.bool true))] TS2_ok hnt fun K hK => ?_; refine And.intro (VLe.of_eq (by simp [he])) ?_; refine hK _ _ ?_; clear hK K; refine dw_cond (t := true) rfl ?_
    rw [if_pos rfl]; refine dw_seq ?_; refine dwkD [] TS2_ok hnt fun K hK => ?_; refine hK _ _ (by kernel_rfl) ?_; clear hK K; refine dw_ret ?_
    rw [tz_eq]
    exact retv (N := 0) (.inr rfl) rfl (by repeat first | exact VLe.refl _ | exact VLe.nil _ | exact VLe.untag _ _ _ | refine VLe.ag ?_ | refine VLe.tu ?_ | refine VLeL.cons ?_ ?_ | exact VLeL.nil) (by repeat first | exact trivial | refine And.intro rfl ?_)
end Go.Proofs.YtflbnonbfmmchaaGreat

namespace Go.Proofs.YtflbnonbfmmchaaGreat
open Go.RowKit
theorem apply_at (kb : Nat) (l : List (Int × Tm)) (hl : l.length ≤ 1000000) (t : Tm) (ht : Wide t) (left : Int) (dry : Bool) (h0 : 0 ≤ left ∧ left ≤ 1000000000) (ho : Sb.right l = true → thOk l t 0 ⟨left, dry, 0, 0⟩ ∧ ((Sb.through l t 0 ⟨left, dry, 0, 0⟩).2.e = 0 → DoneOk (Sb.through l t 0 ⟨left, dry, 0, 0⟩).1)) :
    CallC Tryz.prog 18 [.sl 5 (ePairs l) none, .ag (eTm t), .o kb] [(.o kb, .ob (BudJ left dry))] [(.o kb, .ob (BudJ (Sb.apply l t left dry).2.left (Sb.apply l t left dry).2.dry))] (.tu [.ag (eTm (Sb.apply l t left dry).1), .v (.int .i64 (Sb.apply l t left dry).2.e)]) := by
  have h := (apply_d l hl t ht left dry h0 ho).ren (fun _ => kb) (by simp [renOk, D.ok, D.oks, rnames, inN, ckey, eTm_ok, ePairs_ok]) (by
    intro k h1 k' h2 _
    simp [rnames] at h1 h2
    rw [h1, h2])
  simpa [D.ren, D.rens, eTm_ren, ePairs_ren, renE, Key.ren] using h
end Go.Proofs.YtflbnonbfmmchaaGreat

namespace Go.Proofs.YtflbnonbfmmchaaGreat
open Go.RowKit
def TRPI_41 : TI := ⟨4, true, [Value.slice none 0 0, Value.int IntKind.i64 0, Value.int IntKind.i64 0, Value.slice none 0 0], [(0, 1, false), (1, 2, true), (3, 1, false)], none, 64, 6, none, false⟩
theorem TRPI_41_ok : TypOk Tryz.prog 41 TRPI_41 := by constructor <;> kernel_rfl
def TRPI_86 : TI := ⟨9, true, [Value.slice none 0 0, Value.int IntKind.i64 0, Value.int IntKind.i64 0, Value.slice none 0 0, Value.slice none 0 0, Value.int IntKind.i64 0, Value.int IntKind.i64 0, Value.slice none 0 0, Value.slice none 0 0], [(0, 4, true), (4, 4, true), (8, 1, false)], none, 152, 6, none, false⟩
theorem TRPI_86_ok : TypOk Tryz.prog 86 TRPI_86 := by constructor <;> kernel_rfl
def TRPI_45 : TI := ⟨1, false, [Value.int IntKind.i64 0], [], none, 8, 2, none, false⟩
theorem TRPI_45_ok : TypOk Tryz.prog 45 TRPI_45 := by constructor <;> kernel_rfl
def TRPI_51 : TI := ⟨1, false, [Value.slice none 0 0], [], some 79, 24, 5, none, false⟩
theorem TRPI_51_ok : TypOk Tryz.prog 51 TRPI_51 := by constructor <;> kernel_rfl
def TRPI_56 : TI := ⟨1, false, [Value.pointer none], [], none, 8, 4, none, false⟩
theorem TRPI_56_ok : TypOk Tryz.prog 56 TRPI_56 := by constructor <;> kernel_rfl
def TRPI_79 : TI := ⟨5, true, [Value.int IntKind.i64 0, Value.slice none 0 0, Value.int IntKind.i64 0, Value.int IntKind.i64 0, Value.slice none 0 0], [(0, 1, false), (1, 4, true)], none, 72, 6, none, false⟩
theorem TRPI_79_ok : TypOk Tryz.prog 79 TRPI_79 := by constructor <;> kernel_rfl
def TRPI : List (Nat × TI) := [(41, TRPI_41), (86, TRPI_86), (45, TRPI_45), (51, TRPI_51), (56, TRPI_56), (79, TRPI_79)]
theorem TRPI_ok : TabOk Tryz.prog TRPI := (((((((TabOk.nil _).cons TRPI_79_ok).cons TRPI_56_ok).cons TRPI_51_ok).cons TRPI_45_ok).cons TRPI_86_ok).cons TRPI_41_ok)
namespace Ru
def inst (l : List (Int × Tm)) (p : Li.Pr) (left : Int) : Tm × Tm × Int :=
  if (Sb.apply l p.l left false).2.e ≠ 0 then (Nm.tz, Nm.tz, (Sb.apply l p.l left false).2.e)
  else if (Sb.apply l p.r (Sb.apply l p.l left false).2.left (Sb.apply l p.l left false).2.dry).2.e ≠ 0 then (Nm.tz, Nm.tz, (Sb.apply l p.r (Sb.apply l p.l left false).2.left (Sb.apply l p.l left false).2.dry).2.e)
  else ((Sb.apply l p.l left false).1, (Sb.apply l p.r (Sb.apply l p.l left false).2.left (Sb.apply l p.l left false).2.dry).1, 0)
end Ru
theorem apply_left {l : List (Int × Tm)} {t : Tm} {left : Int} {dry : Bool} (h : 0 ≤ left ∧ left ≤ 1000000000) : 0 ≤ (Sb.apply l t left dry).2.left ∧ (Sb.apply l t left dry).2.left ≤ 1000000000 := by
  unfold Sb.apply
  split
  · exact h
  · have h1 := through_in l t 0 ⟨left, dry, 0, 0⟩ h
    dsimp only
    generalize Sb.through l t 0 ⟨left, dry, 0, 0⟩ = r at h1
    by_cases hc : r.2.e = 0 ∧ ¬ (r.1.size ≤ 5000 ∧ r.1.depth ≤ 60)
    · rw [if_pos hc]; split <;> exact h1
    · rw [if_neg hc]; split <;> exact h1
theorem apply_less {l : List (Int × Tm)} {t : Tm} {left : Int} {dry : Bool} {B : Nat} (hl : ∀ p ∈ l, Bnd B p.2) (ht : Bnd B t) (h : 0 ≤ left ∧ left ≤ 1000000000) : (Sb.apply l t left dry).2.e = 0 → (Sb.apply l t left dry).2.left ≤ left ∧ ((Sb.apply l t left dry).1.size ≤ 5000 ∧ (Sb.apply l t left dry).1.depth ≤ 60) ∧ Bnd B (Sb.apply l t left dry).1 := by
  unfold Sb.apply
  by_cases hr : Sb.right l = false
  · rw [if_pos hr]; intro e; cases e
  · rw [if_neg hr]
    have h1 := Sb.grow l hl t ht 0 ⟨left, dry, 0, 0⟩ h
    dsimp only
    generalize Sb.through l t 0 ⟨left, dry, 0, 0⟩ = r at h1
    by_cases hc : r.2.e = 0 ∧ ¬ (r.1.size ≤ 5000 ∧ r.1.depth ≤ 60)
    · rw [if_pos hc]
      rw [if_pos (by show (2 : Int) ≠ 0; decide)]
      intro e; cases e
    · rw [if_neg hc]
      by_cases hp : r.2.e = 0
      · rw [if_neg (fun h => h hp)]
        intro _
        have h2 := h1 hp
        have h3 := Tm.size_pos r.1
        refine ⟨by have := h2.2.1; dsimp only at this ⊢; omega, ?_, h2.2.2⟩
        by_cases h5 : r.1.size ≤ 5000 ∧ r.1.depth ≤ 60
        · exact h5
        · exact absurd ⟨hp, h5⟩ hc
      · rw [if_pos hp]
        intro e; exact absurd e hp
set_option maxHeartbeats 2000000 in
theorem instance_d (l : List (Int × Tm)) (hl : l.length ≤ 1000000) (p : Li.Pr) (hw : ∀ q ∈ l, Bnd 150 q.2 ∧ Wide q.2) (h1 : Bnd 150 p.l ∧ Wide p.l) (h2 : Bnd 150 p.r ∧ Wide p.r) (left : Int) (h0 : 0 ≤ left ∧ left ≤ 20000) :
  ∃ s : Nm.St, CallC Tryz.prog 42 [.ag (ePr p), .sl 5 (ePairs l) none, .o 1] [(.o 1, .ob (BudJ left false))] [(.o 1, .ob (BudJ s.left s.dry))] (.tu [.ag (eTm (Ru.inst l p left).1), .ag (eTm (Ru.inst l p left).2.1), .v (.int .i64 (Ru.inst l p left).2.2)]) := by
 have hb : ∀ q ∈ l, Bnd 150 q.2 := fun q hq => (hw q hq).1
 have hA := apply_at 1 l hl p.l h1.2 left false ⟨h0.1, by omega⟩ (fun _ => Sb.apply_ok (B := 150) 20000 (by decide) (by decide) (by decide) l hw p.l h1.1 left h0 false)
 have hi := apply_left (l := l) (t := p.l) (left := left) (dry := false) ⟨h0.1, by omega⟩
 have hle := apply_less (l := l) (t := p.l) (left := left) (dry := false) hb h1.1 ⟨h0.1, by omega⟩
 unfold Ru.inst
 generalize Sb.apply l p.l left false = r1 at hA hi hle ⊢
 by_cases he1 : r1.2.e = 0
 ·rw [if_neg (fun h => h he1)]
  rw [he1] at hA
  have hB := apply_at 1 l hl p.r h2.2 r1.2.left r1.2.dry hi (fun _ => Sb.apply_ok (B := 150) 20000 (by decide) (by decide) (by decide) l hw p.r h2.1 r1.2.left ⟨hi.1, by have := (hle he1).1; omega⟩ r1.2.dry)
  generalize Sb.apply l p.r r1.2.left r1.2.dry = r2 at hB ⊢
  refine ⟨r2.2, ?_⟩
  by_cases he2 : r2.2.e = 0
  ·rw [if_neg (fun h => h he2)]
   rw [he2] at hB
   dsimp only
   rw [eTm_eq, eTm_eq] at hA hB
   rw [ePr_at, eTm_eq, eTm_eq]
   refine calldw 2 40 [ResultVar.cell 6 41, ResultVar.cell 7 41, ResultVar.tmp 8] TRPI_ok Tryz.func42 rfl Tryz.ntmps42 rfl fun cx hnt hn0 => ?_
   ·skip
    refine dw_seq ?_; refine dwk [] TRPI_ok hnt fun K hK => ?_; refine hK _ _ ?_; clear hK K; refine dw_seq ?_; refine dwk [] TRPI_ok hnt fun K hK => ?_; refine dcl (hA) ?_; refine hK _ _ ?_; clear hK K; refine dw_seq ?_; refine dw_seq ?_; refine dwk [(21, .v (.bool false))] TRPI_ok hnt fun K hK => ?_; refine And.intro (bneF rfl) ?_; refine hK _ _ ?_; clear hK K; refine dw_cond (t := false) rfl ?_; rw [if_neg (by simp)]
    refine dw_skip ?_; refine dw_seq ?_; refine dwk [] TRPI_ok hnt fun K hK => ?_; refine dcl (hB) ?_; refine hK _ _ ?_; clear hK K; refine dw_seq ?_; refine dw_seq ?_; refine dwk [(34, .v (.bool false))] TRPI_ok hnt fun K hK => ?_; refine And.intro (bneF rfl) ?_; refine hK _ _ ?_; clear hK K; refine dw_cond (t := false) rfl ?_; rw [if_neg (by simp)]; refine dw_skip ?_; refine dw_seq ?_; refine dwkD [] TRPI_ok hnt fun K hK => ?_
    refine hK _ _ (by kernel_rfl) ?_; clear hK K; refine dw_ret ?_
    exact reta rfl
  ·rw [if_pos he2]
   dsimp only
   rw [eTm_eq, eTm_eq] at hA hB
   rw [ePr_at, tz_eq]
   refine calldw 2 40 [ResultVar.cell 6 41, ResultVar.cell 7 41, ResultVar.tmp 8] TRPI_ok Tryz.func42 rfl Tryz.ntmps42 rfl fun cx hnt hn0 => ?_
   ·skip
    refine dw_seq ?_; refine dwk [] TRPI_ok hnt fun K hK => ?_; refine hK _ _ ?_; clear hK K; refine dw_seq ?_; refine dwk [] TRPI_ok hnt fun K hK => ?_; refine dcl (hA) ?_; refine hK _ _ ?_; clear hK K; refine dw_seq ?_; refine dw_seq ?_; refine dwk [(21, .v (.bool false))] TRPI_ok hnt fun K hK => ?_; refine And.intro (bneF rfl) ?_; refine hK _ _ ?_; clear hK K; refine dw_cond (t := false) rfl ?_; rw [if_neg (by simp)]
    refine dw_skip ?_; refine dw_seq ?_; refine dwk [] TRPI_ok hnt fun K hK => ?_; refine dcl (hB) ?_; refine hK _ _ ?_; clear hK K; refine dw_seq ?_; refine dw_seq ?_; refine dwk [(34, .v (.bool true))] TRPI_ok hnt fun K hK => ?_; refine And.intro (bneT he2) ?_; refine hK _ _ ?_; clear hK K; refine dw_cond (t := true) rfl ?_; rw [if_pos rfl]; refine dw_seq ?_; refine dwk [] TRPI_ok hnt fun K hK => ?_
    refine hK _ _ ?_; clear hK K; refine dw_ret ?_
    exact reta rfl
 ·rw [if_pos he1]
  refine ⟨r1.2, ?_⟩
  dsimp only
  rw [eTm_eq, eTm_eq] at hA
  rw [ePr_at, tz_eq]
  refine calldw 2 40 [ResultVar.cell 6 41, ResultVar.cell 7 41, ResultVar.tmp 8] TRPI_ok Tryz.func42 rfl Tryz.ntmps42 rfl fun cx hnt hn0 => ?_
  ·skip
   refine dw_seq ?_; refine dwk [] TRPI_ok hnt fun K hK => ?_; refine hK _ _ ?_; clear hK K; refine dw_seq ?_; refine dwk [] TRPI_ok hnt fun K hK => ?_; refine dcl (hA) ?_; refine hK _ _ ?_; clear hK K; refine dw_seq ?_; refine dw_seq ?_; refine dwk [(21, .v (.bool true))] TRPI_ok hnt fun K hK => ?_; refine And.intro (bneT he1) ?_; refine hK _ _ ?_; clear hK K; refine dw_cond (t := true) rfl ?_; rw [if_pos rfl]
   refine dw_seq ?_; refine dwk [] TRPI_ok hnt fun K hK => ?_; refine hK _ _ ?_; clear hK K; refine dw_ret ?_
   exact reta rfl
end Go.Proofs.YtflbnonbfmmchaaGreat

namespace Go.Proofs.YtflbnonbfmmchaaGreat
open Go.RowKit
def TRS_44 : TI := ⟨2, true, [Value.slice none 0 0, Value.int IntKind.i64 0], [(0, 1, false), (1, 1, false)], none, 32, 6, none, false⟩
theorem TRS_44_ok : TypOk Tryz.prog 44 TRS_44 := by constructor <;> kernel_rfl
def TRS_33 : TI := ⟨1, false, [Value.slice none 0 0], [], some 44, 24, 5, none, false⟩
theorem TRS_33_ok : TypOk Tryz.prog 33 TRS_33 := by constructor <;> kernel_rfl
def TRS : List (Nat × TI) := [(44, TRS_44), (33, TRS_33)]
theorem TRS_ok : TabOk Tryz.prog TRS := (((TabOk.nil _).cons TRS_33_ok).cons TRS_44_ok)
namespace Ru
end Ru
theorem rutypes_d (M : List Ty) (h : Ty.sizes M ≤ 800000) : PureC Tryz.prog 101 [.sl 2 (eTys M) none] (.sl 2 (eTys M) none) := by
 have ha := arrow_d (.mk [] 0) M (by rw [ty_size]; simp [Ty.sizes]; omega)
 simp only [eTy_eq, args_mk', base_mk', List.append_nil] at ha
 refine calldw 0 7 [ResultVar.tmp 2] TRS_ok Tryz.func101 rfl Tryz.ntmps101 rfl fun cx hnt hn0 => ?_
 ·skip
  refine dw_seq ?_; refine dwk [] TRS_ok hnt fun K hK => ?_; refine hK _ _ ?_; clear hK K; refine dw_seq ?_; refine dwk [(3, .ag [.sl 2 (eTys []) none, .v (.int .i64 0)])] TRS_ok hnt fun K hK => ?_; refine And.intro (auV) ?_; refine dcl (ha) ?_; refine hK _ _ ?_; clear hK K; refine dw_ret ?_
  exact reta rfl
end Go.Proofs.YtflbnonbfmmchaaGreat

namespace Go.Proofs.YtflbnonbfmmchaaGreat
open Go.RowKit
def TRM_35 : TI := ⟨3, true, [Value.int IntKind.i64 0, Value.slice none 0 0, Value.slice none 0 0], [(0, 1, false), (1, 1, false), (2, 1, false)], none, 56, 6, none, false⟩
theorem TRM_35_ok : TypOk Tryz.prog 35 TRM_35 := by constructor <;> kernel_rfl
def TRM_33 : TI := ⟨1, false, [Value.slice none 0 0], [], some 44, 24, 5, none, false⟩
theorem TRM_33_ok : TypOk Tryz.prog 33 TRM_33 := by constructor <;> kernel_rfl
def TRM_24 : TI := ⟨3, true, [Value.int IntKind.i64 0, Value.slice none 0 0, Value.slice none 0 0], [(0, 1, false), (1, 1, false), (2, 1, false)], none, 56, 6, none, false⟩
theorem TRM_24_ok : TypOk Tryz.prog 24 TRM_24 := by constructor <;> kernel_rfl
def TRM_22 : TI := ⟨1, false, [Value.slice none 0 0], [], some 103, 24, 5, none, false⟩
theorem TRM_22_ok : TypOk Tryz.prog 22 TRM_22 := by constructor <;> kernel_rfl
def TRM_86 : TI := ⟨9, true, [Value.slice none 0 0, Value.int IntKind.i64 0, Value.int IntKind.i64 0, Value.slice none 0 0, Value.slice none 0 0, Value.int IntKind.i64 0, Value.int IntKind.i64 0, Value.slice none 0 0, Value.slice none 0 0], [(0, 4, true), (4, 4, true), (8, 1, false)], none, 152, 6, none, false⟩
theorem TRM_86_ok : TypOk Tryz.prog 86 TRM_86 := by constructor <;> kernel_rfl
def TRM_3 : TI := ⟨1, false, [Value.int IntKind.i64 0], [], none, 8, 2, none, false⟩
theorem TRM_3_ok : TypOk Tryz.prog 3 TRM_3 := by constructor <;> kernel_rfl
def TRM_103 : TI := ⟨2, true, [Value.slice none 0 0, Value.int IntKind.i64 0], [(0, 1, false), (1, 1, false)], none, 32, 6, none, false⟩
theorem TRM_103_ok : TypOk Tryz.prog 103 TRM_103 := by constructor <;> kernel_rfl
def TRM_44 : TI := ⟨2, true, [Value.slice none 0 0, Value.int IntKind.i64 0], [(0, 1, false), (1, 1, false)], none, 32, 6, none, false⟩
theorem TRM_44_ok : TypOk Tryz.prog 44 TRM_44 := by constructor <;> kernel_rfl
def TRM : List (Nat × TI) := [(35, TRM_35), (33, TRM_33), (24, TRM_24), (22, TRM_22), (86, TRM_86), (3, TRM_3), (103, TRM_103), (44, TRM_44)]
theorem TRM_ok : TabOk Tryz.prog TRM := (((((((((TabOk.nil _).cons TRM_44_ok).cons TRM_103_ok).cons TRM_3_ok).cons TRM_86_ok).cons TRM_22_ok).cons TRM_24_ok).cons TRM_33_ok).cons TRM_35_ok)
namespace Ru
end Ru
theorem twd_d (b : Int) (C M : List Ty) (h1 : Ty.sizes C ≤ 900000) (h2 : Ty.sizes M ≤ 900000) : PureC Tryz.prog 11 [.ag [.v (.int .i64 b), .sl 2 (eTys C) none, .sl 2 (eTys M) none]] (.ag [.v (.int .i64 b), .sl 2 (eTys C) none, .sl 2 (eTys M) none]) := by
 have hC := toTys_d C h1
 have hM := toTys_d M h2
 refine calldw 0 12 [ResultVar.cell 2 35] TRM_ok Tryz.func11 rfl Tryz.ntmps11 rfl fun cx hnt hn0 => ?_
 ·skip
  refine dw_seq ?_; refine dwk [] TRM_ok hnt fun K hK => ?_; refine hK _ _ ?_; clear hK K; refine dw_seq ?_; refine dwkD [] TRM_ok hnt fun K hK => ?_; refine dcl (hC) ?_; refine dcl (hM) ?_; refine hK _ _ (by kernel_rfl) ?_; clear hK K; refine dw_ret ?_
  exact reta rfl
theorem ruworld_d (b : Int) (C Mw : List Ty) (p : Li.Pr) (h1 : Ty.sizes C ≤ 800000) (h2 : Ty.sizes p.m ≤ 800000) : PureC Tryz.prog 41 [.ag [.v (.int .i64 b), .sl 2 (eTys C) none, .sl 2 (eTys Mw) none], .ag (ePr p)] (.ag [.v (.int .i64 b), .sl 2 (eTys C) none, .sl 2 (eTys p.m) none]) := by
 have hC := rutypes_d C h1
 have hM := rutypes_d p.m h2
 rw [ePr_at]
 refine calldw 0 14 [ResultVar.cell 4 35] TRM_ok Tryz.func41 rfl Tryz.ntmps41 rfl fun cx hnt hn0 => ?_
 ·skip
  refine dw_seq ?_; refine dwk [] TRM_ok hnt fun K hK => ?_; refine hK _ _ ?_; clear hK K; refine dw_seq ?_; refine dwkD [] TRM_ok hnt fun K hK => ?_; refine dcl (hC) ?_; refine dcl (hM) ?_; refine hK _ _ (by kernel_rfl) ?_; clear hK K; refine dw_ret ?_
  exact reta rfl
end Go.Proofs.YtflbnonbfmmchaaGreat

namespace Go.Proofs.YtflbnonbfmmchaaGreat
open Go.RowKit
namespace Ru
def wB (C M : List Ty) : Bool := decide (C.length ≤ 20 ∧ M.length ≤ 20) && (C ++ M).all few4B
end Ru
theorem smallW_d (b : Int) (C M : List Ty) : PureC Tryz.prog 9 [.ag [.v (.int .i64 b), .sl 2 (eTys C) none, .sl 2 (eTys M) none], .v (.slice none 0 0)] (.v (.bool (Ru.wB C M))) := by
  unfold Ru.wB
  by_cases h : C.length ≤ 20 ∧ M.length ≤ 20
  · have := small_d b C M [] h.1 h.2 (by simp)
    rw [List.append_nil] at this
    rw [decide_eq_true h, Bool.true_and]
    exact CallC.vle this (.cons (VLe.refl _) (.cons (VLe.nil _) .nil)) (VLe.refl _)
  · have := small_no b C M [] (fun h2 => h ⟨h2.1, h2.2.1⟩)
    rw [decide_eq_false h, Bool.false_and]
    exact CallC.vle this (.cons (VLe.refl _) (.cons (VLe.nil _) .nil)) (VLe.refl _)
end Go.Proofs.YtflbnonbfmmchaaGreat

namespace Go.Proofs.YtflbnonbfmmchaaGreat
open Go.RowKit
def TRUR_35 : TI := ⟨3, true, [Value.int IntKind.i64 0, Value.slice none 0 0, Value.slice none 0 0], [(0, 1, false), (1, 1, false), (2, 1, false)], none, 56, 6, none, false⟩
theorem TRUR_35_ok : TypOk Tryz.prog 35 TRUR_35 := by constructor <;> kernel_rfl
def TRUR_41 : TI := ⟨4, true, [Value.slice none 0 0, Value.int IntKind.i64 0, Value.int IntKind.i64 0, Value.slice none 0 0], [(0, 1, false), (1, 2, true), (3, 1, false)], none, 64, 6, none, false⟩
theorem TRUR_41_ok : TypOk Tryz.prog 41 TRUR_41 := by constructor <;> kernel_rfl
def TRUR_86 : TI := ⟨9, true, [Value.slice none 0 0, Value.int IntKind.i64 0, Value.int IntKind.i64 0, Value.slice none 0 0, Value.slice none 0 0, Value.int IntKind.i64 0, Value.int IntKind.i64 0, Value.slice none 0 0, Value.slice none 0 0], [(0, 4, true), (4, 4, true), (8, 1, false)], none, 152, 6, none, false⟩
theorem TRUR_86_ok : TypOk Tryz.prog 86 TRUR_86 := by constructor <;> kernel_rfl
def TRUR_33 : TI := ⟨1, false, [Value.slice none 0 0], [], some 44, 24, 5, none, false⟩
theorem TRUR_33_ok : TypOk Tryz.prog 33 TRUR_33 := by constructor <;> kernel_rfl
def TRUR_44 : TI := ⟨2, true, [Value.slice none 0 0, Value.int IntKind.i64 0], [(0, 1, false), (1, 1, false)], none, 32, 6, none, false⟩
theorem TRUR_44_ok : TypOk Tryz.prog 44 TRUR_44 := by constructor <;> kernel_rfl
def TRUR_3 : TI := ⟨1, false, [Value.int IntKind.i64 0], [], none, 8, 2, none, false⟩
theorem TRUR_3_ok : TypOk Tryz.prog 3 TRUR_3 := by constructor <;> kernel_rfl
def TRUR_45 : TI := ⟨1, false, [Value.int IntKind.i64 0], [], none, 8, 2, none, false⟩
theorem TRUR_45_ok : TypOk Tryz.prog 45 TRUR_45 := by constructor <;> kernel_rfl
def TRUR : List (Nat × TI) := [(35, TRUR_35), (41, TRUR_41), (86, TRUR_86), (33, TRUR_33), (44, TRUR_44), (3, TRUR_3), (45, TRUR_45)]
theorem TRUR_ok : TabOk Tryz.prog TRUR := ((((((((TabOk.nil _).cons TRUR_45_ok).cons TRUR_3_ok).cons TRUR_44_ok).cons TRUR_33_ok).cons TRUR_86_ok).cons TRUR_41_ok).cons TRUR_35_ok)
set_option maxHeartbeats 4000000 in
theorem rutypedD_d (b : Int) (C Mw : List Ty) (p : Li.Pr) (hl : p.l.full ≤ 20000 ∧ p.l.Fit) (hr : p.r.full ≤ 20000 ∧ p.r.Fit) (hC : C.length ≤ 900000) (hM : p.m.length ≤ 900000) (hs : ∀ t ∈ C ++ p.m, t.size ≤ 400000) :
  ∃ c : Int, (c = 0 ↔ Ru.Good b C p) ∧ PureC Tryz.prog 38 [.ag [.v (.int .i64 b), .sl 2 (eTys C) none, .sl 2 (eTys Mw) none], .ag (ePr p)] (.v (.int .i64 c)) := by
 obtain ⟨w, hw⟩ : ∃ w : Bool, w = true ↔ RightWd b C p.m := by
  by_cases h : RightWd b C p.m
  ·exact ⟨true, by simp [h]⟩
  ·exact ⟨false, by simp [h]⟩
 have hW1 := tworld_d b C p.m w hw hs
 have r1 := right_d p.l (by omega)
 have r2 := right_d p.r (by omega)
 rw [show decide (p.l.size ≤ 5000 ∧ p.l.depth ≤ 60) = Li.rt p.l from rfl] at r1
 rw [show decide (p.r.size ≤ 5000 ∧ p.r.depth ≤ 60) = Li.rt p.r from rfl] at r2
 have t1 := ttype_d b C p.m p.l (by have := hl.2; generalize p.l = t at this; cases t; exact (Tm.fit_iff.1 this).2.1) (by omega) (by omega) (by omega)
 rw [ePr_at]
 rw [eTm_eq] at r1 r2 t1
 cases w with
 | false =>
  refine ⟨1, ⟨fun h => absurd h (by decide), fun h => absurd (hw.2 h.w) (by simp)⟩, ?_⟩
  ·skip
   refine calldw 0 59 [ResultVar.tmp 4] TRUR_ok Tryz.func38 rfl Tryz.ntmps38 rfl fun cx hnt hn0 => ?_
   ·skip
    refine dw_seq ?_; refine dwk [] TRUR_ok hnt fun K hK => ?_; refine hK _ _ ?_; clear hK K; refine dw_seq ?_; refine dwk [] TRUR_ok hnt fun K hK => ?_; refine hK _ _ ?_; clear hK K; refine dw_seq ?_; refine dw_block ?_; refine dw_seq ?_; refine dwk [] TRUR_ok hnt fun K hK => ?_; refine dcl (hW1) ?_; refine hK _ _ ?_; clear hK K; refine dw_cond (t := true) rfl ?_; rw [if_pos rfl]; refine dw_seq ?_; refine dwk [] TRUR_ok hnt fun K hK => ?_
    refine hK _ _ ?_; clear hK K; refine dw_ret ?_
    exact reta rfl
 | true =>
 cases hL : Li.rt p.l with
 | false =>
  rw [hL] at r1
  refine ⟨2, ⟨fun h => absurd h (by decide), fun h => absurd h.l (by rw [hL]; simp)⟩, ?_⟩
  ·skip
   refine calldw 0 59 [ResultVar.tmp 4] TRUR_ok Tryz.func38 rfl Tryz.ntmps38 rfl fun cx hnt hn0 => ?_
   ·skip
    refine dw_seq ?_; refine dwk [] TRUR_ok hnt fun K hK => ?_; refine hK _ _ ?_; clear hK K; refine dw_seq ?_; refine dwk [] TRUR_ok hnt fun K hK => ?_; refine hK _ _ ?_; clear hK K; refine dw_seq ?_; refine dw_block ?_; refine dw_seq ?_; refine dwk [] TRUR_ok hnt fun K hK => ?_; refine dcl (hW1) ?_; refine hK _ _ ?_; clear hK K; refine dw_cond (t := false) rfl ?_; rw [if_neg (by simp)]; refine dw_seq ?_
    refine dwk [] TRUR_ok hnt fun K hK => ?_; refine dcl (r1) ?_; refine hK _ _ ?_; clear hK K; refine dw_cond (t := true) rfl ?_; rw [if_pos rfl]; refine dw_seq ?_; refine dwk [] TRUR_ok hnt fun K hK => ?_; refine hK _ _ ?_; clear hK K; refine dw_ret ?_
    exact reta rfl
 | true =>
 rw [hL] at r1
 cases hR : Li.rt p.r with
 | false =>
  rw [hR] at r2
  refine ⟨2, ⟨fun h => absurd h (by decide), fun h => absurd h.r (by rw [hR]; simp)⟩, ?_⟩
  ·skip
   refine calldw 0 59 [ResultVar.tmp 4] TRUR_ok Tryz.func38 rfl Tryz.ntmps38 rfl fun cx hnt hn0 => ?_
   ·skip
    refine dw_seq ?_; refine dwk [] TRUR_ok hnt fun K hK => ?_; refine hK _ _ ?_; clear hK K; refine dw_seq ?_; refine dwk [] TRUR_ok hnt fun K hK => ?_; refine hK _ _ ?_; clear hK K; refine dw_seq ?_; refine dw_block ?_; refine dw_seq ?_; refine dwk [] TRUR_ok hnt fun K hK => ?_; refine dcl (hW1) ?_; refine hK _ _ ?_; clear hK K; refine dw_cond (t := false) rfl ?_; rw [if_neg (by simp)]; refine dw_seq ?_
    refine dwk [] TRUR_ok hnt fun K hK => ?_; refine dcl (r1) ?_; refine dcl (r2) ?_; refine hK _ _ ?_; clear hK K; refine dw_cond (t := true) rfl ?_; rw [if_pos rfl]; refine dw_seq ?_; refine dwk [] TRUR_ok hnt fun K hK => ?_; refine hK _ _ ?_; clear hK K; refine dw_ret ?_
    exact reta rfl
 | true =>
 rw [hR] at r2
 obtain ⟨o, ho⟩ : ∃ o, tyOf C p.m p.l = o := ⟨_, rfl⟩
 rw [ho] at t1
 cases o with
 | none =>
  simp only [Option.getD_none, Option.isSome_none, Bool.false_eq_true, if_false] at t1
  rw [tyZ_eq] at t1
  refine ⟨5, ⟨fun h => absurd h (by decide), fun h => (by obtain ⟨u, h, _⟩ := h.u; rw [ho] at h; cases h)⟩, ?_⟩
  ·skip
   refine calldw 0 59 [ResultVar.tmp 4] TRUR_ok Tryz.func38 rfl Tryz.ntmps38 rfl fun cx hnt hn0 => ?_
   ·skip
    refine dw_seq ?_; refine dwk [] TRUR_ok hnt fun K hK => ?_; refine hK _ _ ?_; clear hK K; refine dw_seq ?_; refine dwk [] TRUR_ok hnt fun K hK => ?_; refine hK _ _ ?_; clear hK K; refine dw_seq ?_; refine dw_block ?_; refine dw_seq ?_; refine dwk [] TRUR_ok hnt fun K hK => ?_; refine dcl (hW1) ?_; refine hK _ _ ?_; clear hK K; refine dw_cond (t := false) rfl ?_; rw [if_neg (by simp)]; refine dw_seq ?_
    refine dwk [] TRUR_ok hnt fun K hK => ?_; refine dcl (r1) ?_; refine dcl (r2) ?_; refine hK _ _ ?_; clear hK K; refine dw_cond (t := false) rfl ?_; rw [if_neg (by simp)]; refine dw_skip ?_; refine dw_seq ?_; refine dwk [] TRUR_ok hnt fun K hK => ?_; refine dcl (t1) ?_; refine hK _ _ ?_; clear hK K; refine dw_seq ?_; refine dw_seq ?_; refine dwk [(39, .v (.bool true))] TRUR_ok hnt fun K hK => ?_; refine And.intro (bneT (by decide)) ?_
    refine hK _ _ ?_; clear hK K; refine dw_cond (t := true) rfl ?_; rw [if_pos rfl]; refine dw_seq ?_; refine dwk [] TRUR_ok hnt fun K hK => ?_; refine hK _ _ ?_; clear hK K; refine dw_ret ?_
    exact reta rfl
 | some u =>
 simp only [Option.getD_some, Option.isSome_some, if_true] at t1
 rw [eTy_eq] at t1
 by_cases hu : u.args = []
 ·have hu0 : u.args.length = 0 := by rw [hu]; rfl
  by_cases hi1 : IsOf C p.m p.l [] u
  ·have k1 := ruclos_d b C p.m u p.l 0 (by omega) (by omega) (checkYes hL hi1) (by omega) hl.2
   rw [decide_eq_true rfl] at k1
   rw [eTm_eq] at k1
   by_cases hi2 : IsOf C p.m p.r [] u
   ·have k2 := ruclos_d b C p.m u p.r 0 (by omega) (by omega) (checkYes hR hi2) (by omega) hr.2
    rw [decide_eq_true rfl] at k2
    rw [eTm_eq] at k2
    refine ⟨0, ⟨fun _ => ⟨hw.1 rfl, hL, hR, u, ho, hu, hi1, hi2⟩, fun _ => rfl⟩, ?_⟩
    ·skip
     refine calldw 0 59 [ResultVar.tmp 4] TRUR_ok Tryz.func38 rfl Tryz.ntmps38 rfl fun cx hnt hn0 => ?_
     ·skip
      refine dw_seq ?_; refine dwk [] TRUR_ok hnt fun K hK => ?_; refine hK _ _ ?_; clear hK K; refine dw_seq ?_; refine dwk [] TRUR_ok hnt fun K hK => ?_; refine hK _ _ ?_; clear hK K; refine dw_seq ?_; refine dw_block ?_; refine dw_seq ?_; refine dwk [] TRUR_ok hnt fun K hK => ?_; refine dcl (hW1) ?_; refine hK _ _ ?_; clear hK K; refine dw_cond (t := false) rfl ?_; rw [if_neg (by simp)]; refine dw_seq ?_
      refine dwk [] TRUR_ok hnt fun K hK => ?_; refine dcl (r1) ?_; refine dcl (r2) ?_; refine hK _ _ ?_; clear hK K; refine dw_cond (t := false) rfl ?_; rw [if_neg (by simp)]; refine dw_skip ?_; refine dw_seq ?_; refine dwk [] TRUR_ok hnt fun K hK => ?_; refine dcl (t1) ?_; refine hK _ _ ?_; clear hK K; refine dw_seq ?_; refine dw_seq ?_; refine dwk [(39, .v (.bool false)), (43, .v (.int .i64 (↑u.args.length))), (44, .v (.bool false))] TRUR_ok hnt fun K hK => ?_
      refine And.intro (bneF rfl) ?_; refine And.intro (dintE (by rw [eTys_len])) ?_; refine And.intro auF ?_; refine hK _ _ ?_; clear hK K; refine dw_cond (t := false) rfl ?_; rw [if_neg (by simp)]; refine dw_skip ?_; refine dw_seq ?_; refine dwk [] TRUR_ok hnt fun K hK => ?_; refine hK _ _ ?_; clear hK K; refine dw_seq ?_; refine dw_seq ?_; refine dwk [] TRUR_ok hnt fun K hK => ?_; refine dcl (k1) ?_; refine dcl (k2) ?_
      refine hK _ _ ?_; clear hK K; refine dw_cond (t := false) rfl ?_; rw [if_neg (by simp)]; refine dw_skip ?_; refine dw_seq ?_; refine dwk [] TRUR_ok hnt fun K hK => ?_; refine hK _ _ ?_; clear hK K; refine dw_ret ?_
      exact reta rfl
   ·have k2 := ruclos_d b C p.m u p.r 5 (by omega) (by omega) (checkNo hR hi2) (by omega) hr.2
    rw [decide_eq_false (by decide)] at k2
    rw [eTm_eq] at k2
    refine ⟨5, ⟨fun h => absurd h (by decide), fun h => (by obtain ⟨u', h, _, _, h4⟩ := h.u; rw [ho] at h; cases h; exact absurd h4 hi2)⟩, ?_⟩
    ·skip
     refine calldw 0 59 [ResultVar.tmp 4] TRUR_ok Tryz.func38 rfl Tryz.ntmps38 rfl fun cx hnt hn0 => ?_
     ·skip
      refine dw_seq ?_; refine dwk [] TRUR_ok hnt fun K hK => ?_; refine hK _ _ ?_; clear hK K; refine dw_seq ?_; refine dwk [] TRUR_ok hnt fun K hK => ?_; refine hK _ _ ?_; clear hK K; refine dw_seq ?_; refine dw_block ?_; refine dw_seq ?_; refine dwk [] TRUR_ok hnt fun K hK => ?_; refine dcl (hW1) ?_; refine hK _ _ ?_; clear hK K; refine dw_cond (t := false) rfl ?_; rw [if_neg (by simp)]; refine dw_seq ?_
      refine dwk [] TRUR_ok hnt fun K hK => ?_; refine dcl (r1) ?_; refine dcl (r2) ?_; refine hK _ _ ?_; clear hK K; refine dw_cond (t := false) rfl ?_; rw [if_neg (by simp)]; refine dw_skip ?_; refine dw_seq ?_; refine dwk [] TRUR_ok hnt fun K hK => ?_; refine dcl (t1) ?_; refine hK _ _ ?_; clear hK K; refine dw_seq ?_; refine dw_seq ?_; refine dwk [(39, .v (.bool false)), (43, .v (.int .i64 (↑u.args.length))), (44, .v (.bool false))] TRUR_ok hnt fun K hK => ?_
      refine And.intro (bneF rfl) ?_; refine And.intro (dintE (by rw [eTys_len])) ?_; refine And.intro auF ?_; refine hK _ _ ?_; clear hK K; refine dw_cond (t := false) rfl ?_; rw [if_neg (by simp)]; refine dw_skip ?_; refine dw_seq ?_; refine dwk [] TRUR_ok hnt fun K hK => ?_; refine hK _ _ ?_; clear hK K; refine dw_seq ?_; refine dw_seq ?_; refine dwk [] TRUR_ok hnt fun K hK => ?_; refine dcl (k1) ?_; refine dcl (k2) ?_
      refine hK _ _ ?_; clear hK K; refine dw_cond (t := true) rfl ?_; rw [if_pos rfl]; refine dw_seq ?_; refine dwk [] TRUR_ok hnt fun K hK => ?_; refine hK _ _ ?_; clear hK K; refine dw_ret ?_
      exact reta rfl
  ·have k1 := ruclos_d b C p.m u p.l 5 (by omega) (by omega) (checkNo hL hi1) (by omega) hl.2
   rw [decide_eq_false (by decide)] at k1
   rw [eTm_eq] at k1
   refine ⟨5, ⟨fun h => absurd h (by decide), fun h => (by obtain ⟨u', h, _, h3, _⟩ := h.u; rw [ho] at h; cases h; exact absurd h3 hi1)⟩, ?_⟩
   ·skip
    refine calldw 0 59 [ResultVar.tmp 4] TRUR_ok Tryz.func38 rfl Tryz.ntmps38 rfl fun cx hnt hn0 => ?_
    ·skip
     refine dw_seq ?_; refine dwk [] TRUR_ok hnt fun K hK => ?_; refine hK _ _ ?_; clear hK K; refine dw_seq ?_; refine dwk [] TRUR_ok hnt fun K hK => ?_; refine hK _ _ ?_; clear hK K; refine dw_seq ?_; refine dw_block ?_; refine dw_seq ?_; refine dwk [] TRUR_ok hnt fun K hK => ?_; refine dcl (hW1) ?_; refine hK _ _ ?_; clear hK K; refine dw_cond (t := false) rfl ?_; rw [if_neg (by simp)]; refine dw_seq ?_
     refine dwk [] TRUR_ok hnt fun K hK => ?_; refine dcl (r1) ?_; refine dcl (r2) ?_; refine hK _ _ ?_; clear hK K; refine dw_cond (t := false) rfl ?_; rw [if_neg (by simp)]; refine dw_skip ?_; refine dw_seq ?_; refine dwk [] TRUR_ok hnt fun K hK => ?_; refine dcl (t1) ?_; refine hK _ _ ?_; clear hK K; refine dw_seq ?_; refine dw_seq ?_; refine dwk [(39, .v (.bool false)), (43, .v (.int .i64 (↑u.args.length))), (44, .v (.bool false))] TRUR_ok hnt fun K hK => ?_
     refine And.intro (bneF rfl) ?_; refine And.intro (dintE (by rw [eTys_len])) ?_; refine And.intro auF ?_; refine hK _ _ ?_; clear hK K; refine dw_cond (t := false) rfl ?_; rw [if_neg (by simp)]; refine dw_skip ?_; refine dw_seq ?_; refine dwk [] TRUR_ok hnt fun K hK => ?_; refine hK _ _ ?_; clear hK K; refine dw_seq ?_; refine dw_seq ?_; refine dwk [] TRUR_ok hnt fun K hK => ?_; refine dcl (k1) ?_; refine hK _ _ ?_; clear hK K
     refine dw_cond (t := true) rfl ?_; rw [if_pos rfl]; refine dw_seq ?_; refine dwk [] TRUR_ok hnt fun K hK => ?_; refine hK _ _ ?_; clear hK K; refine dw_ret ?_
     exact reta rfl
 ·have hu0 : 0 < u.args.length := List.length_pos_iff.2 hu
  refine ⟨5, ⟨fun h => absurd h (by decide), fun h => (by obtain ⟨u', h, h2, _⟩ := h.u; rw [ho] at h; cases h; exact absurd h2 hu)⟩, ?_⟩
  ·skip
   refine calldw 0 59 [ResultVar.tmp 4] TRUR_ok Tryz.func38 rfl Tryz.ntmps38 rfl fun cx hnt hn0 => ?_
   ·skip
    refine dw_seq ?_; refine dwk [] TRUR_ok hnt fun K hK => ?_; refine hK _ _ ?_; clear hK K; refine dw_seq ?_; refine dwk [] TRUR_ok hnt fun K hK => ?_; refine hK _ _ ?_; clear hK K; refine dw_seq ?_; refine dw_block ?_; refine dw_seq ?_; refine dwk [] TRUR_ok hnt fun K hK => ?_; refine dcl (hW1) ?_; refine hK _ _ ?_; clear hK K; refine dw_cond (t := false) rfl ?_; rw [if_neg (by simp)]; refine dw_seq ?_
    refine dwk [] TRUR_ok hnt fun K hK => ?_; refine dcl (r1) ?_; refine dcl (r2) ?_; refine hK _ _ ?_; clear hK K; refine dw_cond (t := false) rfl ?_; rw [if_neg (by simp)]; refine dw_skip ?_; refine dw_seq ?_; refine dwk [] TRUR_ok hnt fun K hK => ?_; refine dcl (t1) ?_; refine hK _ _ ?_; clear hK K; refine dw_seq ?_; refine dw_seq ?_; refine dwk [(39, .v (.bool false)), (43, .v (.int .i64 (↑u.args.length))), (44, .v (.bool true))] TRUR_ok hnt fun K hK => ?_
    refine And.intro (bneF rfl) ?_; refine And.intro (dintE (by rw [eTys_len])) ?_; refine And.intro auT ?_; refine hK _ _ ?_; clear hK K; refine dw_cond (t := true) rfl ?_; rw [if_pos rfl]; refine dw_seq ?_; refine dwk [] TRUR_ok hnt fun K hK => ?_; refine hK _ _ ?_; clear hK K; refine dw_ret ?_
    exact reta rfl
end Go.Proofs.YtflbnonbfmmchaaGreat

namespace Go.Proofs.YtflbnonbfmmchaaGreat
open Go.RowKit

end Go.Proofs.YtflbnonbfmmchaaGreat

namespace Go.Proofs.YtflbnonbfmmchaaGreat
open Go.RowKit

end Go.Proofs.YtflbnonbfmmchaaGreat

namespace Go.Proofs.YtflbnonbfmmchaaGreat
open Go.RowKit

end Go.Proofs.YtflbnonbfmmchaaGreat

namespace Go.Proofs.YtflbnonbfmmchaaGreat
open Go.RowKit
def TRJ_29 : TI := ⟨4, true, [Value.slice none 0 0, Value.int IntKind.i64 0, Value.int IntKind.i64 0, Value.slice none 0 0], [(0, 1, false), (1, 2, true), (3, 1, false)], none, 64, 6, none, false⟩
theorem TRJ_29_ok : TypOk Tryz.prog 29 TRJ_29 := by constructor <;> kernel_rfl
def TRJ_82 : TI := ⟨9, true, [Value.slice none 0 0, Value.int IntKind.i64 0, Value.int IntKind.i64 0, Value.slice none 0 0, Value.slice none 0 0, Value.int IntKind.i64 0, Value.int IntKind.i64 0, Value.slice none 0 0, Value.slice none 0 0], [(0, 4, true), (4, 4, true), (8, 1, false)], none, 152, 6, none, false⟩
theorem TRJ_82_ok : TypOk Tryz.prog 82 TRJ_82 := by constructor <;> kernel_rfl
def TRJ_44 : TI := ⟨2, true, [Value.slice none 0 0, Value.int IntKind.i64 0], [(0, 1, false), (1, 1, false)], none, 32, 6, none, false⟩
theorem TRJ_44_ok : TypOk Tryz.prog 44 TRJ_44 := by constructor <;> kernel_rfl
def TRJ_3 : TI := ⟨1, false, [Value.int IntKind.i64 0], [], none, 8, 2, none, false⟩
theorem TRJ_3_ok : TypOk Tryz.prog 3 TRJ_3 := by constructor <;> kernel_rfl
def TRJ_33 : TI := ⟨1, false, [Value.slice none 0 0], [], some 44, 24, 5, none, false⟩
theorem TRJ_33_ok : TypOk Tryz.prog 33 TRJ_33 := by constructor <;> kernel_rfl
def TRJ : List (Nat × TI) := [(29, TRJ_29), (82, TRJ_82), (44, TRJ_44), (3, TRJ_3), (33, TRJ_33)]
theorem TRJ_ok : TabOk Tryz.prog TRJ := ((((((TabOk.nil _).cons TRJ_33_ok).cons TRJ_3_ok).cons TRJ_44_ok).cons TRJ_82_ok).cons TRJ_29_ok)

theorem rsize_d (t : Tm) (h : t.full ≤ 400000) : PureC Tryz.prog 93 [.ag (eTm t)] (.v (.int .i64 t.size)) := by
  refine pure_below (by kernel_rfl) fun m Im w vs hv => ?_
  match vs, hv with
  | [x1], hv =>
    obtain ⟨b, k, i, a, rfl, ht⟩ := agTm hv.1
    refine (size6_r t ht w (by have := Tm.size_le_full t; omega) (Keep.refl _ _)).mono ?_
    rintro e w' ⟨rfl, hb⟩
    exact ⟨_, rfl, hb, fun _ _ _ => .v _⟩
namespace Ru
def wt (p : Li.Pr) : Int := (p.l.size : Int) + (p.r.size : Int)
def cmp (a b : Li.Pr) : Int := orl (sgn (wt a) (wt b)) (orl (Tm.cmp a.l b.l) (orl (Tm.cmp a.r b.r) (Tm.cmpB a.m b.m)))
end Ru
theorem rwt_d (p : Li.Pr) (h1 : p.l.full ≤ 400000) (h2 : p.r.full ≤ 400000) : PureC Tryz.prog 35 [.ag (ePr p)] (.v (.int .i64 (Ru.wt p))) := by
 have c1 := rsize_d p.l h1
 have c2 := rsize_d p.r h2
 have z1 := Tm.size_le_full p.l
 have z2 := Tm.size_le_full p.r
 rw [ePr_at]
 rw [eTm_eq] at c1 c2
 unfold Ru.wt
 refine calldw 0 10 [ResultVar.tmp 2] TRJ_ok Tryz.func35 rfl Tryz.ntmps35 rfl fun cx hnt hn0 => ?_
 ·skip
  refine dw_seq ?_; refine dwk [] TRJ_ok hnt fun K hK => ?_; refine hK _ _ ?_; clear hK K; refine dw_seq ?_; refine dwkD [(9, .v (.int .i64 (((p.l.size) + (p.r.size)))))] TRJ_ok hnt fun K hK => ?_; refine dcl (c1) ?_; refine dcl (c2) ?_; refine And.intro auI ?_; refine hK _ _ (by kernel_rfl) ?_; clear hK K; refine dw_ret ?_
  exact reta rfl
end Go.Proofs.YtflbnonbfmmchaaGreat

namespace Go.Proofs.YtflbnonbfmmchaaGreat
open Go.RowKit
def TRKQ_35 : TI := ⟨3, true, [Value.int IntKind.i64 0, Value.slice none 0 0, Value.slice none 0 0], [(0, 1, false), (1, 1, false), (2, 1, false)], none, 56, 6, none, false⟩
theorem TRKQ_35_ok : TypOk Tryz.prog 35 TRKQ_35 := by constructor <;> kernel_rfl
def TRKQ_86 : TI := ⟨9, true, [Value.slice none 0 0, Value.int IntKind.i64 0, Value.int IntKind.i64 0, Value.slice none 0 0, Value.slice none 0 0, Value.int IntKind.i64 0, Value.int IntKind.i64 0, Value.slice none 0 0, Value.slice none 0 0], [(0, 4, true), (4, 4, true), (8, 1, false)], none, 152, 6, none, false⟩
theorem TRKQ_86_ok : TypOk Tryz.prog 86 TRKQ_86 := by constructor <;> kernel_rfl
def TRKQ_45 : TI := ⟨1, false, [Value.int IntKind.i64 0], [], none, 8, 2, none, false⟩
theorem TRKQ_45_ok : TypOk Tryz.prog 45 TRKQ_45 := by constructor <;> kernel_rfl
def TRKQ_41 : TI := ⟨4, true, [Value.slice none 0 0, Value.int IntKind.i64 0, Value.int IntKind.i64 0, Value.slice none 0 0], [(0, 1, false), (1, 2, true), (3, 1, false)], none, 64, 6, none, false⟩
theorem TRKQ_41_ok : TypOk Tryz.prog 41 TRKQ_41 := by constructor <;> kernel_rfl
def TRKQ_82 : TI := ⟨9, true, [Value.slice none 0 0, Value.int IntKind.i64 0, Value.int IntKind.i64 0, Value.slice none 0 0, Value.slice none 0 0, Value.int IntKind.i64 0, Value.int IntKind.i64 0, Value.slice none 0 0, Value.slice none 0 0], [(0, 4, true), (4, 4, true), (8, 1, false)], none, 152, 6, none, false⟩
theorem TRKQ_82_ok : TypOk Tryz.prog 82 TRKQ_82 := by constructor <;> kernel_rfl
def TRKQ_33 : TI := ⟨1, false, [Value.slice none 0 0], [], some 44, 24, 5, none, false⟩
theorem TRKQ_33_ok : TypOk Tryz.prog 33 TRKQ_33 := by constructor <;> kernel_rfl
def TRKQ_44 : TI := ⟨2, true, [Value.slice none 0 0, Value.int IntKind.i64 0], [(0, 1, false), (1, 1, false)], none, 32, 6, none, false⟩
theorem TRKQ_44_ok : TypOk Tryz.prog 44 TRKQ_44 := by constructor <;> kernel_rfl
def TRKQ_24 : TI := ⟨3, true, [Value.int IntKind.i64 0, Value.slice none 0 0, Value.slice none 0 0], [(0, 1, false), (1, 1, false), (2, 1, false)], none, 56, 6, none, false⟩
theorem TRKQ_24_ok : TypOk Tryz.prog 24 TRKQ_24 := by constructor <;> kernel_rfl
def TRKQ_3 : TI := ⟨1, false, [Value.int IntKind.i64 0], [], none, 8, 2, none, false⟩
theorem TRKQ_3_ok : TypOk Tryz.prog 3 TRKQ_3 := by constructor <;> kernel_rfl
def TRKQ_176 : TI := ⟨1, false, [Value.slice none 0 0], [], some 82, 24, 5, none, false⟩
theorem TRKQ_176_ok : TypOk Tryz.prog 176 TRKQ_176 := by constructor <;> kernel_rfl
def TRKQ_39 : TI := ⟨1, false, [Value.slice none 0 0], [], some 41, 24, 5, none, false⟩
theorem TRKQ_39_ok : TypOk Tryz.prog 39 TRKQ_39 := by constructor <;> kernel_rfl
def TRKQ_67 : TI := ⟨1, false, [Value.slice none 0 0], [], some 156, 24, 5, none, false⟩
theorem TRKQ_67_ok : TypOk Tryz.prog 67 TRKQ_67 := by constructor <;> kernel_rfl
def TRKQ_51 : TI := ⟨1, false, [Value.slice none 0 0], [], some 79, 24, 5, none, false⟩
theorem TRKQ_51_ok : TypOk Tryz.prog 51 TRKQ_51 := by constructor <;> kernel_rfl
def TRKQ_22 : TI := ⟨1, false, [Value.slice none 0 0], [], some 103, 24, 5, none, false⟩
theorem TRKQ_22_ok : TypOk Tryz.prog 22 TRKQ_22 := by constructor <;> kernel_rfl
def TRKQ_59 : TI := ⟨1, false, [Value.slice none 0 0], [], some 3, 24, 5, none, false⟩
theorem TRKQ_59_ok : TypOk Tryz.prog 59 TRKQ_59 := by constructor <;> kernel_rfl
def TRKQ_56 : TI := ⟨1, false, [Value.pointer none], [], none, 8, 4, none, false⟩
theorem TRKQ_56_ok : TypOk Tryz.prog 56 TRKQ_56 := by constructor <;> kernel_rfl
def TRKQ_79 : TI := ⟨5, true, [Value.int IntKind.i64 0, Value.slice none 0 0, Value.int IntKind.i64 0, Value.int IntKind.i64 0, Value.slice none 0 0], [(0, 1, false), (1, 4, true)], none, 72, 6, none, false⟩
theorem TRKQ_79_ok : TypOk Tryz.prog 79 TRKQ_79 := by constructor <;> kernel_rfl
def TRKQ_156 : TI := ⟨5, true, [Value.int IntKind.i64 0, Value.slice none 0 0, Value.int IntKind.i64 0, Value.int IntKind.i64 0, Value.slice none 0 0], [(0, 1, false), (1, 4, true)], none, 72, 6, none, false⟩
theorem TRKQ_156_ok : TypOk Tryz.prog 156 TRKQ_156 := by constructor <;> kernel_rfl
def TRKQ_103 : TI := ⟨2, true, [Value.slice none 0 0, Value.int IntKind.i64 0], [(0, 1, false), (1, 1, false)], none, 32, 6, none, false⟩
theorem TRKQ_103_ok : TypOk Tryz.prog 103 TRKQ_103 := by constructor <;> kernel_rfl
def TRKQ : List (Nat × TI) := [(35, TRKQ_35), (86, TRKQ_86), (45, TRKQ_45), (41, TRKQ_41), (82, TRKQ_82), (33, TRKQ_33), (44, TRKQ_44), (24, TRKQ_24), (3, TRKQ_3), (176, TRKQ_176), (39, TRKQ_39), (67, TRKQ_67), (51, TRKQ_51), (22, TRKQ_22), (59, TRKQ_59), (56, TRKQ_56), (79, TRKQ_79), (156, TRKQ_156), (103, TRKQ_103)]
theorem TRKQ_ok : TabOk Tryz.prog TRKQ := ((((((((((((((((((((TabOk.nil _).cons TRKQ_103_ok).cons TRKQ_156_ok).cons TRKQ_79_ok).cons TRKQ_56_ok).cons TRKQ_59_ok).cons TRKQ_22_ok).cons TRKQ_51_ok).cons TRKQ_67_ok).cons TRKQ_39_ok).cons TRKQ_176_ok).cons TRKQ_3_ok).cons TRKQ_24_ok).cons TRKQ_44_ok).cons TRKQ_33_ok).cons TRKQ_82_ok).cons TRKQ_41_ok).cons TRKQ_45_ok).cons TRKQ_86_ok).cons TRKQ_35_ok)
namespace Ru
theorem chkL_ok {C M : List Ty} {code : Tm → Ty → Int} (hc : ∀ t u, checkCode C M t [] u (code t u)) : ∀ {l : List (Int × Tm)}, chkL code M l = 0 → ∀ p ∈ l, ∃ h, headTy C M [] 2 p.1 = some h ∧ IsOf C M p.2 [] h
  | [], _, p, hp => by cases hp
  | q :: l, h, p, hp => by
    rw [chkL] at h
    cases hh : headTy [] M [] 2 q.1 with
    | none => rw [hh] at h; cases h
    | some u =>
      rw [hh] at h
      dsimp only at h
      by_cases hcd : code q.2 u = 0
      · rw [if_neg (fun h => h hcd)] at h
        rcases List.mem_cons.1 hp with rfl | hp
        · have h1 := hc p.2 u
          rw [hcd] at h1
          unfold checkCode at h1
          refine ⟨u, ?_, ?_⟩
          · rw [← hh]; unfold headTy; rfl
          · rcases h1 with h1 | h1 | h1
            · exact absurd h1.2 (by decide)
            · exact absurd h1.2.2 (by decide)
            · exact h1.2.1
        · exact chkL_ok hc h p hp
      · rw [if_pos hcd] at h; exact absurd h hcd
theorem inst_ok {b : Int} {C : List Ty} {p : Li.Pr} {s : List (Int × Tm)} {u : Ty} (hi1 : IsOf C p.m p.l [] u) (hi2 : IsOf C p.m p.r [] u) (hr : Sb.right s = true) (hs : ∀ q ∈ s, (∃ h, headTy C p.m [] 2 q.1 = some h ∧ IsOf C p.m q.2 [] h) ∧ Bnd 150 q.2 ∧ q.2.full ≤ 1000000)
    (h1 : Bnd 150 p.l ∧ p.l.full ≤ 1000) (h2 : Bnd 150 p.r ∧ p.r.full ≤ 1000) :
    (inst s p 5000).2.2 ≠ 1 ∧ ((inst s p 5000).2.2 = 0 → (IsOf C p.m (inst s p 5000).1 [] u ∧ ((inst s p 5000).1.size ≤ 5000 ∧ (inst s p 5000).1.depth ≤ 60) ∧ Bnd 150 (inst s p 5000).1) ∧ (IsOf C p.m (inst s p 5000).2.1 [] u ∧ ((inst s p 5000).2.1.size ≤ 5000 ∧ (inst s p 5000).2.1.depth ≤ 60) ∧ Bnd 150 (inst s p 5000).2.1)) := by
  have hb : ∀ q ∈ s, Bnd 150 q.2 := fun q hq => (hs q hq).2.1
  have k1 := Sb.apply_keeps (C := C) (M := p.m) (B := 150) (by decide) s [] hr hs p.l u hi1 h1.1 (by have := h1.2; simp; omega) 5000 false ⟨by decide, by decide⟩
  have i1 := apply_left (l := s) (t := p.l) (left := 5000) (dry := false) ⟨by decide, by decide⟩
  have l1 := apply_less (l := s) (t := p.l) (left := 5000) (dry := false) hb h1.1 ⟨by decide, by decide⟩
  unfold inst
  generalize Sb.apply s p.l 5000 false = r1 at k1 i1 l1 ⊢
  by_cases he1 : r1.2.e = 0
  · rw [if_neg (fun h => h he1)]
    have k2 := Sb.apply_keeps (C := C) (M := p.m) (B := 150) (by decide) s [] hr hs p.r u hi2 h2.1 (by have := h2.2; simp; omega) r1.2.left r1.2.dry i1
    have l2 := apply_less (l := s) (t := p.r) (left := r1.2.left) (dry := r1.2.dry) hb h2.1 i1
    generalize Sb.apply s p.r r1.2.left r1.2.dry = r2 at k2 l2 ⊢
    by_cases he2 : r2.2.e = 0
    · rw [if_neg (fun h => h he2)]
      exact ⟨by show (0 : Int) ≠ 1; decide, fun _ => ⟨⟨k1.2 he1, (l1 he1).2.1, (l1 he1).2.2⟩, ⟨k2.2 he2, (l2 he2).2.1, (l2 he2).2.2⟩⟩⟩
    · rw [if_pos he2]
      exact ⟨k2.1, fun e => absurd e he2⟩
  · rw [if_pos he1]
    exact ⟨k1.1, fun e => absurd e he1⟩
theorem code0 {C M : List Ty} {t : Tm} {u : Ty} (h : IsOf C M t [] u) (hs : t.size ≤ 5000 ∧ t.depth ≤ 60) : checkCode C M t [] u 0 := .inr (.inr ⟨hs, h, rfl⟩)
theorem full5000 {t : Tm} (h : Bnd 150 t) (hs : t.size ≤ 5000) : t.full ≤ 755000 := by
  have h1 := Bnd.full t h
  have h2 : t.size * (150 + 1) ≤ 5000 * 151 := Nat.mul_le_mul hs (by decide)
  omega
end Ru
theorem code_ex2 (C M X : List Ty) (t : Tm) (u : Ty) : ∃ c, checkCode C M t X u c := by
  by_cases h1 : t.size ≤ 5000 ∧ t.depth ≤ 60
  · by_cases h2 : IsOf C M t X u
    · exact ⟨0, .inr (.inr ⟨h1, h2, rfl⟩)⟩
    · exact ⟨5, .inr (.inl ⟨h1, h2, rfl⟩)⟩
  · exact ⟨2, .inl ⟨h1, rfl⟩⟩
theorem instance_at (kb : Nat) (l : List (Int × Tm)) (hl : l.length ≤ 1000000) (p : Li.Pr) (hw : ∀ q ∈ l, Bnd 150 q.2 ∧ Wide q.2) (h1 : Bnd 150 p.l ∧ Wide p.l) (h2 : Bnd 150 p.r ∧ Wide p.r) (left : Int) (h0 : 0 ≤ left ∧ left ≤ 20000) :
    ∃ s : Nm.St, CallC Tryz.prog 42 [.ag (ePr p), .sl 5 (ePairs l) none, .o kb] [(.o kb, .ob (BudJ left false))] [(.o kb, .ob (BudJ s.left s.dry))] (.tu [.ag (eTm (Ru.inst l p left).1), .ag (eTm (Ru.inst l p left).2.1), .v (.int .i64 (Ru.inst l p left).2.2)]) := by
  obtain ⟨s, h⟩ := instance_d l hl p hw h1 h2 left h0
  refine ⟨s, ?_⟩
  have hpr : D.rens (fun _ => kb) (ePr p) = ePr p := D.rens_id (f := fun _ => false) (g := fun _ => false) (fun _ h => by cases h) _ (ePr_ok _ _ p)
  have h := h.ren (fun _ => kb) (by simp [renOk, D.ok, D.oks, rnames, inN, ckey, eTm_ok, ePairs_ok, ePr_ok]) (by
    intro k h1 k' h2 _
    simp [rnames] at h1 h2
    rw [h1, h2])
  simpa [D.ren, D.rens, eTm_ren, ePairs_ren, hpr, renE, Key.ren] using h
set_option maxRecDepth 100000 in
set_option maxHeartbeats 8000000 in
theorem ruleKeeps_d (b : Int) (C Mw : List Ty) (p : Li.Pr) (l : List (Int × Tm)) (hp : p.l.Fit ∧ p.r.Fit) (hl : l.length ≤ 9223372036854775807) (hfl : ∀ q ∈ l, q.2.Fit ∧ q.1 ≤ 9223372036854775807) :
  PureC Tryz.prog 6 [.ag [.v (.int .i64 b), .sl 2 (eTys C) none, .sl 2 (eTys Mw) none], .ag (ePr p), .sl 5 (ePairs l) none] (.v (.bool true)) := by
 have hk := known17_d
 have hF := few17_d [p] (by simp)
 rw [show [p].all fewP = fewP p by simp] at hF
 have eP : ePrs [p] = [[.sl 2 (eTys p.l.binds) none, .v (.int .i64 p.l.kind), .v (.int .i64 p.l.index), .sl 4 (eTms p.l.args) none, .sl 2 (eTys p.r.binds) none, .v (.int .i64 p.r.kind), .v (.int .i64 p.r.index), .sl 4 (eTms p.r.args) none, .sl 2 (eTys p.m) none]] := rfl
 have hSm := smallW_d b C Mw
 have hF9 := few9_d l hl fun p _ h => wide_full _ (by have := fewB_full h; omega)
 cases hf : fewP p with
 | false =>
  rw [hf] at hF
  rw [ePr_at]
  refine calldw 0 144 [ResultVar.tmp 6] TRKQ_ok Tryz.func6 rfl Tryz.ntmps6 rfl fun cx hnt hn0 => ?_
  ·skip
   refine dw_seq ?_; refine dwk [] TRKQ_ok hnt fun K hK => ?_; refine hK _ _ ?_; clear hK K; refine dw_seq ?_; refine dw_seq ?_; refine dwk [(19, .sl 9 (ePrs [p]) none)] TRKQ_ok hnt fun K hK => ?_; refine And.intro ((by rw [eP]; exact VLe.untag _ _ _)) ?_; refine dcl (hF) ?_; refine hK _ _ ?_; clear hK K; refine dw_cond (t := true) rfl ?_; rw [if_pos rfl]; refine dw_seq ?_; refine dwk [] TRKQ_ok hnt fun K hK => ?_
   refine dcl (hk) ?_; refine hK _ _ ?_; clear hK K; refine dw_ret ?_
   exact reta rfl
 | true =>
 cases hs : Ru.wB C Mw with
 | false =>
  rw [hf] at hF
  rw [hs] at hSm
  rw [ePr_at]
  refine calldw 0 144 [ResultVar.tmp 6] TRKQ_ok Tryz.func6 rfl Tryz.ntmps6 rfl fun cx hnt hn0 => ?_
  ·skip
   refine dw_seq ?_; refine dwk [] TRKQ_ok hnt fun K hK => ?_; refine hK _ _ ?_; clear hK K; refine dw_seq ?_; refine dw_seq ?_; refine dwk [(19, .sl 9 (ePrs [p]) none)] TRKQ_ok hnt fun K hK => ?_; refine And.intro ((by rw [eP]; exact VLe.untag _ _ _)) ?_; refine dcl (hF) ?_; refine dcl (hSm) ?_; refine hK _ _ ?_; clear hK K; refine dw_cond (t := true) rfl ?_; rw [if_pos rfl]; refine dw_seq ?_; refine dwk [] TRKQ_ok hnt fun K hK => ?_
   refine dcl (hk) ?_; refine hK _ _ ?_; clear hK K; refine dw_ret ?_
   exact reta rfl
 | true =>
 cases h9 : few9 l with
 | false =>
  rw [hf] at hF
  rw [hs] at hSm
  rw [h9] at hF9
  rw [ePr_at]
  refine calldw 0 144 [ResultVar.tmp 6] TRKQ_ok Tryz.func6 rfl Tryz.ntmps6 rfl fun cx hnt hn0 => ?_
  ·skip
   refine dw_seq ?_; refine dwk [] TRKQ_ok hnt fun K hK => ?_; refine hK _ _ ?_; clear hK K; refine dw_seq ?_; refine dw_seq ?_; refine dwk [(19, .sl 9 (ePrs [p]) none)] TRKQ_ok hnt fun K hK => ?_; refine And.intro ((by rw [eP]; exact VLe.untag _ _ _)) ?_; refine dcl (hF) ?_; refine dcl (hSm) ?_; refine dcl (hF9) ?_; refine hK _ _ ?_; clear hK K; refine dw_cond (t := true) rfl ?_; rw [if_pos rfl]; refine dw_seq ?_
   refine dwk [] TRKQ_ok hnt fun K hK => ?_; refine dcl (hk) ?_; refine hK _ _ ?_; clear hK K; refine dw_ret ?_
   exact reta rfl
 | true =>
 rw [hf] at hF
 rw [hs] at hSm
 rw [h9] at hF9
 have sp := Ru.Sm.of hf hp
 have zp := sp.sizes
 have hpl := sp.l
 have hpr := sp.r
 have hml := sp.ml
 have hWt := rwt_d p (by omega) (by omega)
 by_cases hwt : (60 : Int) < Ru.wt p
 ·rw [ePr_at] at hWt ⊢
  refine calldw 0 144 [ResultVar.tmp 6] TRKQ_ok Tryz.func6 rfl Tryz.ntmps6 rfl fun cx hnt hn0 => ?_
  ·skip
   refine dw_seq ?_; refine dwk [] TRKQ_ok hnt fun K hK => ?_; refine hK _ _ ?_; clear hK K; refine dw_seq ?_; refine dw_seq ?_; refine dwk [(19, .sl 9 (ePrs [p]) none), (35, .v (.bool true))] TRKQ_ok hnt fun K hK => ?_; refine And.intro ((by rw [eP]; exact VLe.untag _ _ _)) ?_; refine dcl (hF) ?_; refine dcl (hSm) ?_; refine dcl (hF9) ?_; refine dcl (hWt) ?_; refine And.intro auT ?_; refine hK _ _ ?_; clear hK K
   refine dw_cond (t := true) rfl ?_; rw [if_pos rfl]; refine dw_seq ?_; refine dwk [] TRKQ_ok hnt fun K hK => ?_; refine dcl (hk) ?_; refine hK _ _ ?_; clear hK K; refine dw_ret ?_
   exact reta rfl
 unfold Ru.wB at hs
 rw [Bool.and_eq_true, decide_eq_true_eq] at hs
 have hCM : ∀ t ∈ C ++ Mw, t.size ≤ 60 := fun t ht => fewT60 (List.all_eq_true.1 hs.2 t ht)
 have hC60 : ∀ t ∈ C, t.size ≤ 60 := fun t ht => hCM t (List.mem_append_left _ ht)
 have zC : Ty.sizes C ≤ 1200 := by have := sizes_le22 hC60; have := hs.1.1; omega
 have zM : Ty.sizes Mw ≤ 1200 := by have := sizes_le22 (fun t ht => hCM t (List.mem_append_right _ ht)); have := hs.1.2; omega
 have hcl := hs.1.1
 have hWd := twd_d b C Mw (by omega) (by omega)
 have hTo := to17_d p (by omega) (by omega) (by omega)
 have hsf : ∀ q ∈ l.take 10, q.2.full ≤ 150 ∧ q.2.Fit ∧ q.1 ≤ 9223372036854775807 := fun q hq => by
  have := List.all_eq_true.1 h9 q hq
  simp only [Bool.and_eq_true] at this
  exact ⟨(fewB_full this.1).1, hfl q (List.mem_of_mem_take hq)⟩
 have hT9 := to9_d l hl fun q hq => by have := (hsf q hq).1; omega
 obtain ⟨s, hse⟩ : ∃ s, l.take 10 = s := ⟨_, rfl⟩
 have hsl : s.length ≤ 10 := by rw [← hse, List.length_take]; omega
 rw [hse] at hT9 hsf
 have hCs : ∀ t ∈ C ++ p.m, t.size ≤ 400000 := fun t ht => by
  rcases List.mem_append.1 ht with h | h
  ·have := hC60 t h; omega
  ·have := sp.m t h; omega
 obtain ⟨ep, ge, T1⟩ := rutypedD_d b C Mw p ⟨by omega, hpl.2⟩ ⟨by omega, hpr.2⟩ (by omega) (by omega) hCs
 have K1 := rucheck_d b C Mw p ep ⟨by omega, hpl.2⟩ ⟨by omega, hpr.2⟩ T1
 by_cases hep : ep = 0
 rotate_left
 ·rw [if_pos hep] at K1
  rw [ePr_at] at hTo hWt T1 K1 ⊢
  refine calldw 0 144 [ResultVar.tmp 6] TRKQ_ok Tryz.func6 rfl Tryz.ntmps6 rfl fun cx hnt hn0 => ?_
  ·skip
   refine dw_seq ?_; refine dwk [] TRKQ_ok hnt fun K hK => ?_; refine hK _ _ ?_; clear hK K; refine dw_seq ?_; refine dw_seq ?_; refine dwk [(19, .sl 9 (ePrs [p]) none), (35, .v (.bool false))] TRKQ_ok hnt fun K hK => ?_; refine And.intro ((by rw [eP]; exact VLe.untag _ _ _)) ?_; refine dcl (hF) ?_; refine dcl (hSm) ?_; refine dcl (hF9) ?_; refine dcl (hWt) ?_; refine And.intro auF ?_; refine hK _ _ ?_; clear hK K
   refine dw_cond (t := false) rfl ?_; rw [if_neg (by simp)]; refine dw_skip ?_; refine dw_seq ?_; refine dwkD [] TRKQ_ok hnt fun K hK => ?_; refine dcl (hWd) ?_; refine dcl (hTo) ?_; refine dcl (hT9) ?_; refine hK _ _ (by kernel_rfl) ?_; clear hK K; refine dw_seq ?_; refine dw_seq ?_; refine dwk [(47, .v (.bool true))] TRKQ_ok hnt fun K hK => ?_; refine dcl (T1) ?_; refine And.intro (bneT hep) ?_; refine hK _ _ ?_; clear hK K
   refine dw_cond (t := true) rfl ?_; rw [if_pos rfl]; refine dw_seq ?_; refine dwk [(53, .v (.bool true))] TRKQ_ok hnt fun K hK => ?_; refine dcl (hk) ?_; refine dcl (K1) ?_; refine And.intro (bneT hep) ?_; refine hK _ _ ?_; clear hK K; refine dw_ret ?_
   exact reta rfl
 subst hep
 have hg := ge.1 rfl
 rw [if_neg (fun h => h rfl)] at K1
 obtain ⟨o0, og, ock, oln⟩ := Ru.own_all hg
 have so := sp.own
 have hO := ruown_d p ⟨by omega, hpl.2⟩ ⟨by omega, hpr.2⟩ (fun t h => by have := sp.m t h; omega) (by omega)
 rw [o0] at hO
 generalize (Ru.own p).1 = q at hO og ock oln so
 have ql := so.l
 have qr := so.r
 have qml := so.ml
 have hCq : ∀ t ∈ C ++ q.m, t.size ≤ 400000 := fun t ht => by
  rcases List.mem_append.1 ht with h | h
  ·have := hC60 t h; omega
  ·have := so.m t h; omega
 have Tq := rutyped0_d b C Mw q (by omega) (by omega) og ⟨by omega, ql.2⟩ ⟨by omega, qr.2⟩ hCq
 have Kq := rucheck_d b C Mw q 0 ⟨by omega, ql.2⟩ ⟨by omega, qr.2⟩ Tq
 rw [if_neg (fun h => h rfl), ock] at Kq
 have hMe := metas_d [q.l] (by simp) (fun t ht => by rw [List.mem_singleton] at ht; subst ht; omega)
 have eQ : eTms [q.l] = [[.sl 2 (eTys q.l.binds) none, .v (.int .i64 q.l.kind), .v (.int .i64 q.l.index), .sl 4 (eTms q.l.args) none]] := by rw [← eTm_eq]; rfl
 have hrw := ruworld_d b C Mw p (by omega) (by omega)
 obtain ⟨code, hcode⟩ : ∃ code : Tm → Ty → Int, ∀ t u, checkCode C p.m t [] u (code t u) := ⟨fun t u => Classical.choose (code_ex2 C p.m [] t u), fun t u => Classical.choose_spec (code_ex2 C p.m [] t u)⟩
 have hSC0 := scheck_d b C p.m [] s (by omega) code hcode (fun x hx => ⟨by have := (hsf x hx).1; simp; omega, (hsf x hx).2⟩) fun u hu => by have := sp.m u hu; omega
 have hSC : PureC Tryz.prog 28 [.ag [.v (.int .i64 b), .sl 2 (eTys C) none, .sl 2 (eTys p.m) none], .v (.slice none 0 0), .sl 5 (ePairs s) none] (.v (.int .i64 (if Sb.right s = true then chkL code p.m s else 1))) := CallC.vle hSC0 (.cons (VLe.refl _) (.cons (VLe.nil _) (.cons (VLe.refl _) .nil))) (VLe.refl _)
 clear hSC0
 obtain ⟨_, _, _, u, hu, hua, hi1, hi2⟩ := hg
 have hix : p.l.index ≤ 9223372036854775807 := by have h := hpl.2; generalize p.l = t at h; obtain ⟨_, _, _, _⟩ := t; exact (Tm.fit_iff.1 h).2.1
 have hTy := ttype_d b C p.m p.l hix (by omega) (by omega) (by omega)
 rw [hu] at hTy
 simp only [Option.getD_some, Option.isSome_some, if_true] at hTy
 obtain ⟨ck, hck⟩ : ∃ ck, Ru.chk p = ck := ⟨_, rfl⟩
 rw [hck] at K1 Kq oln
 obtain ⟨cs, hcs⟩ : ∃ cs, (if Sb.right s = true then chkL code p.m s else 1) = cs := ⟨_, rfl⟩
 rw [hcs] at hSC
 have bl : Bnd 150 p.l := Bnd.of_full p.l (by omega) hpl.2
 have br : Bnd 150 p.r := Bnd.of_full p.r (by omega) hpr.2
 have hsw : ∀ x ∈ s, Bnd 150 x.2 ∧ Wide x.2 := fun x hx => ⟨Bnd.of_full x.2 (hsf x hx).1 (hsf x hx).2.1, wide_full _ (by have := (hsf x hx).1; omega)⟩
 obtain ⟨st, hI⟩ := instance_at 100 s (by omega) p hsw ⟨bl, wide_full _ (by omega)⟩ ⟨br, wide_full _ (by omega)⟩ 5000 ⟨by decide, by decide⟩
 have hinst := fun (h : cs = 0) => by
  have hr : Sb.right s = true := by
   cases hr : Sb.right s with
   | true => rfl
   | false => rw [hr, if_neg (by simp)] at hcs; omega
  rw [hr, if_pos rfl, h] at hcs
  exact Ru.inst_ok (b := b) hi1 hi2 hr (fun x hx => ⟨Ru.chkL_ok hcode hcs x hx, (hsw x hx).1, by have := (hsf x hx).1; omega⟩) ⟨bl, by omega⟩ ⟨br, by omega⟩
 clear hcs
 obtain ⟨⟨ia, ib, ie⟩, hri⟩ : ∃ r, Ru.inst s p 5000 = r := ⟨_, rfl⟩
 rw [hri] at hI hinst
 dsimp only at hI hinst
 obtain ⟨U, hU⟩ : ∃ U, sortU (metasL [q.l]) = U := ⟨_, rfl⟩
 rw [hU] at hMe oln
 rw [ePr_at p] at hTo hWt T1 K1 hO hrw hI ⊢
 rw [ePr_at q] at hO Tq Kq
 rw [eTm_eq, eTy_eq] at hTy
 rw [eTm_eq, eTm_eq] at hI
 refine calldw 0 144 [ResultVar.tmp 6] TRKQ_ok Tryz.func6 rfl Tryz.ntmps6 rfl fun cx hnt hn0 => ?_
 ·skip
  refine dw_seq ?_; refine dwk [] TRKQ_ok hnt fun K hK => ?_; refine hK _ _ ?_; clear hK K; refine dw_seq ?_; refine dw_seq ?_; refine dwk [(19, .sl 9 (ePrs [p]) none), (35, .v (.bool false))] TRKQ_ok hnt fun K hK => ?_; refine And.intro ((by rw [eP]; exact VLe.untag _ _ _)) ?_; refine dcl (hF) ?_; refine dcl (hSm) ?_; refine dcl (hF9) ?_; refine dcl (hWt) ?_; refine And.intro auF ?_; refine hK _ _ ?_; clear hK K
  refine dw_cond (t := false) rfl ?_; rw [if_neg (by simp)]; refine dw_skip ?_; refine dw_seq ?_; refine dwkD [] TRKQ_ok hnt fun K hK => ?_; refine dcl (hWd) ?_; refine dcl (hTo) ?_; refine dcl (hT9) ?_; refine hK _ _ (by kernel_rfl) ?_; clear hK K; refine dw_seq ?_; refine dw_seq ?_; refine dwk [(47, .v (.bool false))] TRKQ_ok hnt fun K hK => ?_; refine dcl (T1) ?_; refine And.intro (bneF rfl) ?_; refine hK _ _ ?_; clear hK K
  refine dw_cond (t := false) rfl ?_; rw [if_neg (by simp)]; refine dw_skip ?_; refine dw_seq ?_; refine dwk [] TRKQ_ok hnt fun K hK => ?_; refine dcl (hO) ?_; refine hK _ _ ?_; clear hK K
  refine dw_cut (τ := [(.t 7, .p 28 0), (.t 8, .p 29 0), (.t 9, .sl 5 (ePairs s) none), (.c 28 0, .v (.int .i64 b)), (.c 28 1, .sl 2 (eTys C) none), (.c 28 2, .sl 2 (eTys Mw) none), (.c 29 0, .sl 2 (eTys p.l.binds) none), (.c 29 1, .v (.int .i64 p.l.kind)), (.c 29 2, .v (.int .i64 p.l.index)), (.c 29 3, .sl 4 (eTms p.l.args) none), (.c 29 4, .sl 2 (eTys p.r.binds) none), (.c 29 5, .v (.int .i64 p.r.kind)), (.c 29 6, .v (.int .i64 p.r.index)), (.c 29 7, .sl 4 (eTms p.r.args) none), (.c 29 8, .sl 2 (eTys p.m) none)]) (N1 := 79) ?_ ?_
  ·by_cases hc0 : ck = 0
   ·have hlen := oln hc0
    subst hc0
    refine dw_seq ?_; refine dwkD [(61, .v (.bool false)), (66, .v (.bool false)), (75, .v (.bool false)), (81, .v (.bool true)), (85, .sl 4 (eTms [q.l]) none), (87, .v (.int .i64 (↑U.length))), (90, .v (.int .i64 (↑q.m.length))), (91, .v (.bool false))] TRKQ_ok hnt fun K hK => ?_; refine And.intro (bneF rfl) ?_; refine dcl (Tq) ?_; refine And.intro (bneF rfl) ?_; refine dcl (K1) ?_; refine dcl (Kq) ?_
    refine And.intro (bneF rfl) ?_; refine dcl (K1) ?_; refine And.intro (beqT rfl) ?_; refine And.intro ((by rw [eQ]; exact VLe.untag _ _ _)) ?_; refine dcl (hMe) ?_; refine And.intro (dintE (by rw [eIs_len])) ?_; refine And.intro (dintE (by rw [eTys_len])) ?_; refine And.intro (bneF (by omega)) ?_; refine hK _ _ (by kernel_rfl) ?_; clear hK K; refine dw_cond (t := false) rfl ?_; rw [if_neg (by simp)]
    refine dw_skip ?_
    exact cut_ok VS.toA
   ·skip
    refine dw_seq ?_; refine dwkD [(61, .v (.bool false)), (66, .v (.bool false)), (75, .v (.bool false)), (81, .v (.bool false))] TRKQ_ok hnt fun K hK => ?_; refine And.intro (bneF rfl) ?_; refine dcl (Tq) ?_; refine And.intro (bneF rfl) ?_; refine dcl (K1) ?_; refine dcl (Kq) ?_; refine And.intro (bneF rfl) ?_; refine dcl (K1) ?_; refine And.intro (beqF hc0) ?_; refine hK _ _ (by kernel_rfl) ?_; clear hK K
    refine dw_cond (t := false) rfl ?_; rw [if_neg (by simp)]; refine dw_skip ?_
    exact cut_ok VS.toA
  ·skip
   refine dw_seq ?_; refine dwk [] TRKQ_ok hnt fun K hK => ?_; refine dcl (hrw) ?_; refine hK _ _ ?_; clear hK K
   by_cases hc : cs = 0
   ·have hin := hinst hc
    subst hc
    by_cases he : ie = 0
    ·subst he
     obtain ⟨⟨a1, a2, a3⟩, ⟨b1, b2, b3⟩⟩ := hin.2 rfl
     have hCa := tcheck_d b C p.m ia u 0 (by omega) (by omega) (Ru.code0 a1 a2) (by have := Ru.full5000 a3 a2.1; omega) (Bnd.fit ia a3)
     have hCb := tcheck_d b C p.m ib u 0 (by omega) (by omega) (Ru.code0 b1 b2) (by have := Ru.full5000 b3 b2.1; omega) (Bnd.fit ib b3)
     rw [eTm_eq, eTy_eq] at hCa hCb
     refine dw_seq ?_; refine dw_seq ?_; refine dwk [(100, .v (.bool false))] TRKQ_ok hnt fun K hK => ?_; refine dcl (hSC) ?_; refine And.intro (bneF rfl) ?_; refine hK _ _ ?_; clear hK K; refine dw_cond (t := false) rfl ?_; rw [if_neg (by simp)]; refine dw_skip ?_; refine dw_seq ?_; refine dwk [] TRKQ_ok hnt fun K hK => ?_; refine dcl (hTy) ?_; refine hK _ _ ?_; clear hK K; refine dw_seq ?_; refine dwkD [] TRKQ_ok hnt fun K hK => ?_
     refine dcn ((new_d 5000 (by decide)) _) ?_; refine dcl (hI) ?_; refine hK _ _ (by kernel_rfl) ?_; clear hK K; refine dw_seq ?_; refine dwk [(120, .v (.bool true)), (124, .v (.bool true)), (128, .v (.bool false)), (134, .v (.bool true)), (140, .v (.bool true))] TRKQ_ok hnt fun K hK => ?_; refine dcl (hk) ?_; refine And.intro (beqT rfl) ?_; refine And.intro (bneT (by decide)) ?_; refine And.intro (bneF rfl) ?_
     refine dcl (hCa) ?_; refine And.intro (beqT rfl) ?_; refine dcl (hCb) ?_; refine And.intro (beqT rfl) ?_; refine hK _ _ ?_; clear hK K; refine dw_ret ?_
     exact reta rfl
    ·skip
     refine dw_seq ?_; refine dw_seq ?_; refine dwk [(100, .v (.bool false))] TRKQ_ok hnt fun K hK => ?_; refine dcl (hSC) ?_; refine And.intro (bneF rfl) ?_; refine hK _ _ ?_; clear hK K; refine dw_cond (t := false) rfl ?_; rw [if_neg (by simp)]; refine dw_skip ?_; refine dw_seq ?_; refine dwk [] TRKQ_ok hnt fun K hK => ?_; refine dcl (hTy) ?_; refine hK _ _ ?_; clear hK K; refine dw_seq ?_; refine dwkD [] TRKQ_ok hnt fun K hK => ?_
     refine dcn ((new_d 5000 (by decide)) _) ?_; refine dcl (hI) ?_; refine hK _ _ (by kernel_rfl) ?_; clear hK K; refine dw_seq ?_; refine dwk [(120, .v (.bool true)), (124, .v (.bool true)), (128, .v (.bool true))] TRKQ_ok hnt fun K hK => ?_; refine dcl (hk) ?_; refine And.intro (beqT rfl) ?_; refine And.intro (bneT hin.1) ?_; refine And.intro (bneT he) ?_; refine hK _ _ ?_; clear hK K; refine dw_ret ?_
     exact reta rfl
   ·skip
    refine dw_seq ?_; refine dw_seq ?_; refine dwk [(100, .v (.bool true))] TRKQ_ok hnt fun K hK => ?_; refine dcl (hSC) ?_; refine And.intro (bneT hc) ?_; refine hK _ _ ?_; clear hK K; refine dw_cond (t := true) rfl ?_; rw [if_pos rfl]; refine dw_seq ?_; refine dwk [] TRKQ_ok hnt fun K hK => ?_; refine dcl (hk) ?_; refine hK _ _ ?_; clear hK K; refine dw_ret ?_
    exact reta rfl
end Go.Proofs.YtflbnonbfmmchaaGreat

