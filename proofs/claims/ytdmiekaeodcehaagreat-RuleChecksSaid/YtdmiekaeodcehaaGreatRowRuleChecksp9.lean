/-
  Check: rule's and the document's. The known answer of the laws of layer 17. RuleOwns, walked in the deep way. A rule in its own numbers is a rule, in plain Lean. Swap of rule and of the document. Orders: rule's and the document's. RuleChecks, walked in the deep way.
-/
import Derived.Test.YtdmiekaeodcehaaGreatRowRuleChecksp8
import Derived.Test.YtdmiekaeodcehaaGreatRowRuleChecksp6
import Derived.Test.YtdmiekaeodcehaaGreatRowRuleChecksp7
set_option maxRecDepth 100000
set_option maxHeartbeats 1000000
set_option linter.unusedVariables false
set_option linter.unusedSimpArgs false
namespace Go.Proofs.YtdmiekaeodcehaaGreat
open Go.RowKit
def TRG_3 : TI := ⟨1, false, [Value.int IntKind.i64 0], [], none, 8, 2, none, false⟩
theorem TRG_3_ok : TypOk Tryz.prog 3 TRG_3 := ⟨by kernel_rfl, by kernel_rfl, by kernel_rfl, by kernel_rfl, by kernel_rfl⟩
def TRG_82 : TI := ⟨1, false, [Value.slice none 0 0], [], some 3, 24, 5, none, false⟩
theorem TRG_82_ok : TypOk Tryz.prog 82 TRG_82 := ⟨by kernel_rfl, by kernel_rfl, by kernel_rfl, by kernel_rfl, by kernel_rfl⟩
def TRG_38 : TI := ⟨9, true, [Value.slice none 0 0, Value.int IntKind.i64 0, Value.int IntKind.i64 0, Value.slice none 0 0, Value.slice none 0 0, Value.int IntKind.i64 0, Value.int IntKind.i64 0, Value.slice none 0 0, Value.slice none 0 0], [(0, 4, true), (4, 4, true), (8, 1, false)], none, 152, 6, none, false⟩
theorem TRG_38_ok : TypOk Tryz.prog 38 TRG_38 := ⟨by kernel_rfl, by kernel_rfl, by kernel_rfl, by kernel_rfl, by kernel_rfl⟩
def TRG_29 : TI := ⟨9, true, [Value.slice none 0 0, Value.int IntKind.i64 0, Value.int IntKind.i64 0, Value.slice none 0 0, Value.slice none 0 0, Value.int IntKind.i64 0, Value.int IntKind.i64 0, Value.slice none 0 0, Value.slice none 0 0], [(0, 4, true), (4, 4, true), (8, 1, false)], none, 152, 6, none, false⟩
theorem TRG_29_ok : TypOk Tryz.prog 29 TRG_29 := ⟨by kernel_rfl, by kernel_rfl, by kernel_rfl, by kernel_rfl, by kernel_rfl⟩
def TRG_36 : TI := ⟨4, true, [Value.slice none 0 0, Value.int IntKind.i64 0, Value.int IntKind.i64 0, Value.slice none 0 0], [(0, 1, false), (1, 2, true), (3, 1, false)], none, 64, 6, none, false⟩
theorem TRG_36_ok : TypOk Tryz.prog 36 TRG_36 := ⟨by kernel_rfl, by kernel_rfl, by kernel_rfl, by kernel_rfl, by kernel_rfl⟩
def TRG_27 : TI := ⟨4, true, [Value.slice none 0 0, Value.int IntKind.i64 0, Value.int IntKind.i64 0, Value.slice none 0 0], [(0, 1, false), (1, 2, true), (3, 1, false)], none, 64, 6, none, false⟩
theorem TRG_27_ok : TypOk Tryz.prog 27 TRG_27 := ⟨by kernel_rfl, by kernel_rfl, by kernel_rfl, by kernel_rfl, by kernel_rfl⟩
def TRG_34 : TI := ⟨1, false, [Value.slice none 0 0], [], some 36, 24, 5, none, false⟩
theorem TRG_34_ok : TypOk Tryz.prog 34 TRG_34 := ⟨by kernel_rfl, by kernel_rfl, by kernel_rfl, by kernel_rfl, by kernel_rfl⟩
def TRG_25 : TI := ⟨1, false, [Value.slice none 0 0], [], some 27, 24, 5, none, false⟩
theorem TRG_25_ok : TypOk Tryz.prog 25 TRG_25 := ⟨by kernel_rfl, by kernel_rfl, by kernel_rfl, by kernel_rfl, by kernel_rfl⟩
def TRG_48 : TI := ⟨3, true, [Value.int IntKind.i64 0, Value.slice none 0 0, Value.slice none 0 0], [(0, 1, false), (1, 1, false), (2, 1, false)], none, 56, 6, none, false⟩
theorem TRG_48_ok : TypOk Tryz.prog 48 TRG_48 := ⟨by kernel_rfl, by kernel_rfl, by kernel_rfl, by kernel_rfl, by kernel_rfl⟩
def TRG_54 : TI := ⟨3, true, [Value.int IntKind.i64 0, Value.slice none 0 0, Value.slice none 0 0], [(0, 1, false), (1, 1, false), (2, 1, false)], none, 56, 6, none, false⟩
theorem TRG_54_ok : TypOk Tryz.prog 54 TRG_54 := ⟨by kernel_rfl, by kernel_rfl, by kernel_rfl, by kernel_rfl, by kernel_rfl⟩
def TRG_115 : TI := ⟨1, false, [Value.nilFunc], [], none, 8, 8, none, false⟩
theorem TRG_115_ok : TypOk Tryz.prog 115 TRG_115 := ⟨by kernel_rfl, by kernel_rfl, by kernel_rfl, by kernel_rfl, by kernel_rfl⟩
def TRG_33 : TI := ⟨2, true, [Value.int IntKind.i64 0, Value.int IntKind.i64 0], [(0, 1, false), (1, 1, false)], none, 16, 6, none, true⟩
theorem TRG_33_ok : TypOk Tryz.prog 33 TRG_33 := ⟨by kernel_rfl, by kernel_rfl, by kernel_rfl, by kernel_rfl, by kernel_rfl⟩
def TRG_39 : TI := ⟨1, false, [Value.int IntKind.i64 0], [], none, 8, 2, none, false⟩
theorem TRG_39_ok : TypOk Tryz.prog 39 TRG_39 := ⟨by kernel_rfl, by kernel_rfl, by kernel_rfl, by kernel_rfl, by kernel_rfl⟩
def TRG_24 : TI := ⟨2, true, [Value.int IntKind.i64 0, Value.int IntKind.i64 0], [(0, 1, false), (1, 1, false)], none, 16, 6, none, true⟩
theorem TRG_24_ok : TypOk Tryz.prog 24 TRG_24 := ⟨by kernel_rfl, by kernel_rfl, by kernel_rfl, by kernel_rfl, by kernel_rfl⟩
def TRG : List (Nat × TI) := [(3, TRG_3), (82, TRG_82), (38, TRG_38), (29, TRG_29), (36, TRG_36), (27, TRG_27), (34, TRG_34), (25, TRG_25), (48, TRG_48), (54, TRG_54), (115, TRG_115), (33, TRG_33), (39, TRG_39), (24, TRG_24)]
theorem TRG_ok : TabOk Tryz.prog TRG := (((((((((((((((TabOk.nil _).cons TRG_24_ok).cons TRG_39_ok).cons TRG_33_ok).cons TRG_115_ok).cons TRG_54_ok).cons TRG_48_ok).cons TRG_25_ok).cons TRG_34_ok).cons TRG_27_ok).cons TRG_36_ok).cons TRG_29_ok).cons TRG_38_ok).cons TRG_82_ok).cons TRG_3_ok)
namespace Ru
def ms (t : Tm) : List Int := sortU (metasL [t])
def chk (p : Li.Pr) : Int := if p.l.kind ≠ 1 then 6 else if (Pn.uses p.l [] []).2 = false then 6 else if ((ms p.r).any fun x => !((ms p.l).contains x)) = true then 7 else 0
end Ru
theorem ruin_d (h : List Int) (x : Int) (hh : h.length ≤ 1000000) : CallC Tryz.prog 68 [.v (.int .i64 x), .p 24 0] [(.c 24 0, .sl 1 (eIs h) none)] [(.c 24 0, .sl 1 (eIs h) none)] (.v (.bool (!(h.contains x)))) := by
 have hc := contains_d x h hh
 rw [show (h.any fun y => decide (y = x)) = h.contains x by rw [Bool.eq_iff_iff]; simp] at hc
 refine calldw 25 8 [ResultVar.tmp 3] TRG_ok Tryz.func68 rfl Tryz.ntmps68 rfl fun cx hnt hn0 => ?_
 ·skip
  refine dw_seq ?_; refine dwk [] TRG_ok hnt fun K hK => ?_; refine hK _ _ ?_; clear hK K; refine dw_seq ?_; refine dwk [] TRG_ok hnt fun K hK => ?_; refine dcl (hc) ?_; refine hK _ _ ?_; clear hK K; refine dw_ret ?_
  exact reta rfl
theorem ruidx_d (h : List Int) (hh : h.length ≤ 1000000) (l : List Int) (hl : l.length ≤ 1000000) : CallC Tryz.prog 110 [.sl 1 (eIs l) none, .fn 68 [.p 24 0]] [(.c 24 0, .sl 1 (eIs h) none)] [(.c 24 0, .sl 1 (eIs h) none)] (.v (.int .i64 (fidx (fun x => !(h.contains x)) l))) := by
 obtain ⟨P, hP⟩ : ∃ P : Int → Bool, (fun x => !(h.contains x)) = P := ⟨_, rfl⟩
 have hmay : ∀ x, CallC Tryz.prog 68 [.v (.int .i64 x), .p 24 0] [(.c 24 0, .sl 1 (eIs h) none)] [(.c 24 0, .sl 1 (eIs h) none)] (.v (.bool (P x))) := fun x => hP ▸ ruin_d h x hh
 rw [hP]
 clear hP
 refine calldw 25 19 [ResultVar.tmp 4] TRG_ok Tryz.func110 rfl Tryz.ntmps110 rfl fun cx hnt hn0 => ?_
 ·skip
  refine dw_seq ?_; refine dwk [] TRG_ok hnt fun K hK => ?_; refine hK _ _ ?_; clear hK K; refine dw_seq ?_; refine dw_seq ?_; refine dwk [(7, .v (.int .i64 (↑l.length)))] TRG_ok hnt fun K hK => ?_; refine And.intro (dintE (by rw [eIs_len])) ?_; refine hK _ _ ?_; clear hK K; refine dw_block ?_
  refine dw_loop (ι := { j : Nat // ∀ i (h : i < l.length), i < j → P l[i] = false }) (fun j => [(.t 0, .sl 1 (eIs l) none), (.t 1, .fn 68 [.p 24 0]), (.t 7, .v (.int .i64 ↑l.length)), (.t 8, .v (.int .i64 ↑j.1)), (.c 24 0, .sl 1 (eIs h) none)]) 25 (fun j => l.length - j.1) (⟨0, fun i h1 h2 => by omega⟩) (VS.toA) fun j => ?_
  obtain ⟨j, hj⟩ := j
  dsimp only
  by_cases hlt : j < l.length
  ·have hf := hmay l[j]
   refine dw_seq ?_; refine dwk [(9, .v (.bool true))] TRG_ok hnt fun K hK => ?_; refine And.intro auT ?_; refine hK _ _ ?_; clear hK K; refine dw_seq ?_; refine dw_cond (t := true) rfl ?_; rw [if_pos rfl]; refine dw_skip ?_; refine dw_seq ?_; refine dw_block ?_; refine dw_seq ?_; refine dwk [] TRG_ok hnt fun K hK => ?_; refine hK _ _ ?_; clear hK K
   cases he : P l[j] with
   | true =>
    rw [he] at hf
    rw [fidx_at hlt he hj]
    refine dw_seq ?_; refine dwk [(14, .q [.v (.int .i64 (l[j]))])] TRG_ok hnt fun K hK => ?_; refine And.intro (elo (eIs_len l)) ?_; refine And.intro (elv (eIs_getD l j) rfl) ?_; refine dcl (hf) ?_; refine hK _ _ ?_; clear hK K; refine dw_cond (t := true) rfl ?_; rw [if_pos rfl]; refine dw_seq ?_; refine dwk [] TRG_ok hnt fun K hK => ?_; refine hK _ _ ?_; clear hK K; refine dw_ret ?_
    exact reta rfl
   | false =>
    rw [he] at hf
    refine dw_seq ?_; refine dwk [(14, .q [.v (.int .i64 (l[j]))])] TRG_ok hnt fun K hK => ?_; refine And.intro (elo (eIs_len l)) ?_; refine And.intro (elv (eIs_getD l j) rfl) ?_; refine dcl (hf) ?_; refine hK _ _ ?_; clear hK K; refine dw_cond (t := false) rfl ?_; rw [if_neg (by simp)]; refine dw_skip ?_; refine dwk [(18, .v (.int .i64 (↑(j + 1))))] TRG_ok hnt fun K hK => ?_; refine And.intro auI ?_; refine hK _ _ ?_; clear hK K
    refine ⟨⟨j + 1, fun i h1 h2 => if e : i = j then by subst e; exact he else hj i h1 (by omega)⟩, by first | omega | (dsimp only; omega), VS.toA⟩
  ·rw [fidx_no fun i h => hj i h (by omega)]
   refine dw_seq ?_; refine dwk [(9, .v (.bool false))] TRG_ok hnt fun K hK => ?_; refine And.intro auF ?_; refine hK _ _ ?_; clear hK K; refine dw_seq ?_; refine dw_cond (t := false) rfl ?_; rw [if_neg (by simp)]; refine dw_exit ?_; refine dw_seq ?_; refine dwk [] TRG_ok hnt fun K hK => ?_; refine hK _ _ ?_; clear hK K; refine dw_ret ?_
   exact reta rfl
theorem rucontains_d (h : List Int) (hh : h.length ≤ 1000000) (l : List Int) (hl : l.length ≤ 1000000) : CallC Tryz.prog 67 [.sl 1 (eIs l) none, .fn 68 [.p 24 0]] [(.c 24 0, .sl 1 (eIs h) none)] [(.c 24 0, .sl 1 (eIs h) none)] (.v (.bool (l.any fun x => !(h.contains x)))) := by
 have hi := ruidx_d h hh l hl
 rw [← fidx_any]
 refine calldw 25 9 [ResultVar.tmp 4] TRG_ok Tryz.func67 rfl Tryz.ntmps67 rfl fun cx hnt hn0 => ?_
 ·skip
  refine dw_seq ?_; refine dwk [] TRG_ok hnt fun K hK => ?_; refine hK _ _ ?_; clear hK K; refine dw_seq ?_; refine dwk [] TRG_ok hnt fun K hK => ?_; refine dcl (hi) ?_; refine hK _ _ ?_; clear hK K; refine dw_ret ?_
  exact reta rfl

theorem ms_len (t : Tm) (h : t.full ≤ 90000) : (Ru.ms t).length ≤ 90000 := by
  have h1 := metasL_len [t] 90000 (by simpa using h)
  have h2 := sortU_len (metasL [t])
  unfold Ru.ms
  simp at h1; omega
theorem eTms_1 (t : Tm) : eTms [t] = [[.sl 2 (eTys t.binds) none, .v (.int .i64 t.kind), .v (.int .i64 t.index), .sl 4 (eTms t.args) none]] := by rw [← eTm_eq]; rfl
set_option maxHeartbeats 2000000 in
theorem rucheck_d (b : Int) (C Mw : List Ty) (p : Li.Pr) (e : Int) (hl : p.l.full ≤ 10000 ∧ p.l.Fit) (hr : p.r.full ≤ 10000 ∧ p.r.Fit) (ht : PureC Tryz.prog 23 [.ag [.v (.int .i64 b), .sl 2 (eTys C) none, .sl 2 (eTys Mw) none], .ag (ePr p)] (.v (.int .i64 e))) :
  PureC Tryz.prog 25 [.ag [.v (.int .i64 b), .sl 2 (eTys C) none, .sl 2 (eTys Mw) none], .ag (ePr p)] (.v (.int .i64 (if e ≠ 0 then e else Ru.chk p))) := by
 have hI := is_d p.l hl.1 hl.2
 have m1 := metas_d [p.l] (by simp) (by simp; omega)
 have m2 := metas_d [p.r] (by simp) (by simp; omega)
 have z1 := ms_len p.l (by omega)
 have z2 := ms_len p.r (by omega)
 rw [show sortU (metasL [p.l]) = Ru.ms p.l from rfl] at m1
 rw [show sortU (metasL [p.r]) = Ru.ms p.r from rfl] at m2
 have hc := rucontains_d (Ru.ms p.l) (by omega) (Ru.ms p.r) (by omega)
 unfold Ru.chk
 have e1 := eTms_1 p.l
 have e2 := eTms_1 p.r
 rw [ePr_at] at ht ⊢
 rw [eTm_eq] at hI
 by_cases he : e = 0
 ·subst he
  rw [if_neg (by simp)]
  by_cases hk : p.l.kind = 1
  ·rw [if_neg (by simp [hk])]
   cases hu : (Pn.uses p.l [] []).2 with
   | false =>
    rw [hu] at hI
    rw [if_pos rfl]
    refine calldw 0 34 [ResultVar.tmp 4] TRG_ok Tryz.func25 rfl Tryz.ntmps25 rfl fun cx hnt hn0 => ?_
    ·skip
     refine dw_seq ?_; refine dwk [] TRG_ok hnt fun K hK => ?_; refine hK _ _ ?_; clear hK K; refine dw_seq ?_; refine dw_seq ?_; refine dwk [] TRG_ok hnt fun K hK => ?_; refine dcl (ht) ?_; refine hK _ _ ?_; clear hK K; refine dw_seq ?_; refine dwk [(11, .v (.bool false))] TRG_ok hnt fun K hK => ?_; refine And.intro (bneF rfl) ?_; refine hK _ _ ?_; clear hK K; refine dw_cond (t := false) rfl ?_; rw [if_neg (by simp)]
     refine dw_skip ?_; refine dw_seq ?_; refine dw_seq ?_; refine dwk [(17, .v (.bool false))] TRG_ok hnt fun K hK => ?_; refine And.intro (bneF hk) ?_; refine dcl (hI) ?_; refine hK _ _ ?_; clear hK K; refine dw_cond (t := true) rfl ?_; rw [if_pos rfl]; refine dw_seq ?_; refine dwk [] TRG_ok hnt fun K hK => ?_; refine hK _ _ ?_; clear hK K; refine dw_ret ?_
     exact reta rfl
   | true =>
    rw [hu] at hI
    rw [if_neg (by simp)]
    cases hA : (Ru.ms p.r).any fun x => !((Ru.ms p.l).contains x) with
    | true =>
     rw [hA] at hc
     rw [if_pos rfl]
     refine calldw 0 34 [ResultVar.tmp 4] TRG_ok Tryz.func25 rfl Tryz.ntmps25 rfl fun cx hnt hn0 => ?_
     ·skip
      refine dw_seq ?_; refine dwk [] TRG_ok hnt fun K hK => ?_; refine hK _ _ ?_; clear hK K; refine dw_seq ?_; refine dw_seq ?_; refine dwk [] TRG_ok hnt fun K hK => ?_; refine dcl (ht) ?_; refine hK _ _ ?_; clear hK K; refine dw_seq ?_; refine dwk [(11, .v (.bool false))] TRG_ok hnt fun K hK => ?_; refine And.intro (bneF rfl) ?_; refine hK _ _ ?_; clear hK K; refine dw_cond (t := false) rfl ?_; rw [if_neg (by simp)]
      refine dw_skip ?_; refine dw_seq ?_; refine dw_seq ?_; refine dwk [(17, .v (.bool false))] TRG_ok hnt fun K hK => ?_; refine And.intro (bneF hk) ?_; refine dcl (hI) ?_; refine hK _ _ ?_; clear hK K; refine dw_cond (t := false) rfl ?_; rw [if_neg (by simp)]; refine dw_skip ?_; refine dw_seq ?_; refine dwk [(26, .sl 4 (eTms [p.l]) none)] TRG_ok hnt fun K hK => ?_; refine And.intro ((by rw [e1]; exact VLe.untag _ _ _)) ?_
      refine dcl (m1) ?_; refine hK _ _ ?_; clear hK K; refine dw_seq ?_; refine dw_seq ?_; refine dwk [(30, .sl 4 (eTms [p.r]) none)] TRG_ok hnt fun K hK => ?_; refine And.intro ((by rw [e2]; exact VLe.untag _ _ _)) ?_; refine dcl (m2) ?_; refine dcl (hc) ?_; refine hK _ _ ?_; clear hK K; refine dw_cond (t := true) rfl ?_; rw [if_pos rfl]; refine dw_seq ?_; refine dwk [] TRG_ok hnt fun K hK => ?_; refine hK _ _ ?_; clear hK K
      refine dw_ret ?_
      exact reta rfl
    | false =>
     rw [hA] at hc
     rw [if_neg (by simp)]
     refine calldw 0 34 [ResultVar.tmp 4] TRG_ok Tryz.func25 rfl Tryz.ntmps25 rfl fun cx hnt hn0 => ?_
     ·skip
      refine dw_seq ?_; refine dwk [] TRG_ok hnt fun K hK => ?_; refine hK _ _ ?_; clear hK K; refine dw_seq ?_; refine dw_seq ?_; refine dwk [] TRG_ok hnt fun K hK => ?_; refine dcl (ht) ?_; refine hK _ _ ?_; clear hK K; refine dw_seq ?_; refine dwk [(11, .v (.bool false))] TRG_ok hnt fun K hK => ?_; refine And.intro (bneF rfl) ?_; refine hK _ _ ?_; clear hK K; refine dw_cond (t := false) rfl ?_; rw [if_neg (by simp)]
      refine dw_skip ?_; refine dw_seq ?_; refine dw_seq ?_; refine dwk [(17, .v (.bool false))] TRG_ok hnt fun K hK => ?_; refine And.intro (bneF hk) ?_; refine dcl (hI) ?_; refine hK _ _ ?_; clear hK K; refine dw_cond (t := false) rfl ?_; rw [if_neg (by simp)]; refine dw_skip ?_; refine dw_seq ?_; refine dwk [(26, .sl 4 (eTms [p.l]) none)] TRG_ok hnt fun K hK => ?_; refine And.intro ((by rw [e1]; exact VLe.untag _ _ _)) ?_
      refine dcl (m1) ?_; refine hK _ _ ?_; clear hK K; refine dw_seq ?_; refine dw_seq ?_; refine dwk [(30, .sl 4 (eTms [p.r]) none)] TRG_ok hnt fun K hK => ?_; refine And.intro ((by rw [e2]; exact VLe.untag _ _ _)) ?_; refine dcl (m2) ?_; refine dcl (hc) ?_; refine hK _ _ ?_; clear hK K; refine dw_cond (t := false) rfl ?_; rw [if_neg (by simp)]; refine dw_skip ?_; refine dw_seq ?_; refine dwk [] TRG_ok hnt fun K hK => ?_
      refine hK _ _ ?_; clear hK K; refine dw_ret ?_
      exact reta rfl
  ·rw [if_pos hk]
   refine calldw 0 34 [ResultVar.tmp 4] TRG_ok Tryz.func25 rfl Tryz.ntmps25 rfl fun cx hnt hn0 => ?_
   ·skip
    refine dw_seq ?_; refine dwk [] TRG_ok hnt fun K hK => ?_; refine hK _ _ ?_; clear hK K; refine dw_seq ?_; refine dw_seq ?_; refine dwk [] TRG_ok hnt fun K hK => ?_; refine dcl (ht) ?_; refine hK _ _ ?_; clear hK K; refine dw_seq ?_; refine dwk [(11, .v (.bool false))] TRG_ok hnt fun K hK => ?_; refine And.intro (bneF rfl) ?_; refine hK _ _ ?_; clear hK K; refine dw_cond (t := false) rfl ?_; rw [if_neg (by simp)]
    refine dw_skip ?_; refine dw_seq ?_; refine dw_seq ?_; refine dwk [(17, .v (.bool true))] TRG_ok hnt fun K hK => ?_; refine And.intro (bneT hk) ?_; refine hK _ _ ?_; clear hK K; refine dw_cond (t := true) rfl ?_; rw [if_pos rfl]; refine dw_seq ?_; refine dwk [] TRG_ok hnt fun K hK => ?_; refine hK _ _ ?_; clear hK K; refine dw_ret ?_
    exact reta rfl
 ·rw [if_pos he]
  refine calldw 0 34 [ResultVar.tmp 4] TRG_ok Tryz.func25 rfl Tryz.ntmps25 rfl fun cx hnt hn0 => ?_
  ·skip
   refine dw_seq ?_; refine dwk [] TRG_ok hnt fun K hK => ?_; refine hK _ _ ?_; clear hK K; refine dw_seq ?_; refine dw_seq ?_; refine dwk [] TRG_ok hnt fun K hK => ?_; refine dcl (ht) ?_; refine hK _ _ ?_; clear hK K; refine dw_seq ?_; refine dwk [(11, .v (.bool true))] TRG_ok hnt fun K hK => ?_; refine And.intro (bneT he) ?_; refine hK _ _ ?_; clear hK K; refine dw_cond (t := true) rfl ?_; rw [if_pos rfl]
   refine dw_seq ?_; refine dwk [] TRG_ok hnt fun K hK => ?_; refine hK _ _ ?_; clear hK K; refine dw_ret ?_
   exact reta rfl
set_option maxHeartbeats 2000000 in
theorem rrcheck_d (b : Int) (C Mw : List Ty) (p : Li.Pr) (e : Int) (hl : p.l.full ≤ 10000 ∧ p.l.Fit) (hr : p.r.full ≤ 10000 ∧ p.r.Fit) (ht : PureC Tryz.prog 24 [.ag [.v (.int .i64 b), .sl 2 (eTys C) none, .sl 2 (eTys Mw) none], .ag (ePr p)] (.v (.int .i64 e))) :
  PureC Tryz.prog 26 [.ag [.v (.int .i64 b), .sl 2 (eTys C) none, .sl 2 (eTys Mw) none], .ag (ePr p)] (.v (.int .i64 (if e ≠ 0 then e else Ru.chk p))) := by
 have hI := ruses_d p.l (by omega) hl.2
 have m1 := rmetas_d [p.l] (by simp) (by simp; omega) (by simpa using hl.2)
 have m2 := rmetas_d [p.r] (by simp) (by simp; omega) (by simpa using hr.2)
 have z1 := ms_len p.l (by omega)
 have z2 := ms_len p.r (by omega)
 rw [show sortU (metasL [p.l]) = Ru.ms p.l from rfl] at m1
 rw [show sortU (metasL [p.r]) = Ru.ms p.r from rfl] at m2
 unfold Ru.chk
 have e1 := eTms_1 p.l
 have e2 := eTms_1 p.r
 rw [ePr_at] at ht ⊢
 rw [eTm_eq] at hI
 by_cases he : e = 0
 ·subst he
  rw [if_neg (by simp)]
  cases hu : (Pn.uses p.l [] []).2 with
  | false =>
   rw [hu] at hI
   simp only [Bool.false_eq_true, if_false] at hI
   have : (if p.l.kind ≠ 1 then (6 : Int) else if false = false then 6 else if ((Ru.ms p.r).any fun x => !((Ru.ms p.l).contains x)) = true then 7 else 0) = 6 := by
    split
    ·rfl
    ·rw [if_pos rfl]
   rw [this]
   refine calldw 0 53 [ResultVar.tmp 4] TRG_ok Tryz.func26 rfl Tryz.ntmps26 rfl fun cx hnt hn0 => ?_
   ·skip
    refine dw_seq ?_; refine dwk [] TRG_ok hnt fun K hK => ?_; refine hK _ _ ?_; clear hK K; refine dw_seq ?_; refine dwk [] TRG_ok hnt fun K hK => ?_; refine dcl (ht) ?_; refine hK _ _ ?_; clear hK K; refine dw_seq ?_; refine dw_seq ?_; refine dwk [(15, .v (.bool false))] TRG_ok hnt fun K hK => ?_; refine And.intro (bneF rfl) ?_; refine hK _ _ ?_; clear hK K; refine dw_cond (t := false) rfl ?_; rw [if_neg (by simp)]
    refine dw_skip ?_; refine dw_seq ?_; refine dwk [] TRG_ok hnt fun K hK => ?_; refine dcl (hI) ?_; refine hK _ _ ?_; clear hK K; refine dw_seq ?_; refine dw_seq ?_; refine dwk [] TRG_ok hnt fun K hK => ?_; refine hK _ _ ?_; clear hK K; refine dw_cond (t := true) rfl ?_; rw [if_pos rfl]; refine dw_seq ?_; refine dwk [] TRG_ok hnt fun K hK => ?_; refine hK _ _ ?_; clear hK K; refine dw_ret ?_
    exact reta rfl
  | true =>
   rw [hu] at hI
   simp only [if_true] at hI
   by_cases hk : p.l.kind = 1
   ·rw [if_neg (by simp [hk]), if_neg (by simp)]
    generalize Ru.ms p.l = h at m1 z1 ⊢
    generalize Ru.ms p.r = l at m2 z2 ⊢
    have hh := fun x => rhas_d h x (by omega)
    generalize (Pn.uses p.l [] []).1 = us at hI
    refine calldw 0 53 [ResultVar.tmp 4] TRG_ok Tryz.func26 rfl Tryz.ntmps26 rfl fun cx hnt hn0 => ?_
    ·skip
     refine dw_seq ?_; refine dwk [] TRG_ok hnt fun K hK => ?_; refine hK _ _ ?_; clear hK K; refine dw_seq ?_; refine dwk [] TRG_ok hnt fun K hK => ?_; refine dcl (ht) ?_; refine hK _ _ ?_; clear hK K; refine dw_seq ?_; refine dw_seq ?_; refine dwk [(15, .v (.bool false))] TRG_ok hnt fun K hK => ?_; refine And.intro (bneF rfl) ?_; refine hK _ _ ?_; clear hK K; refine dw_cond (t := false) rfl ?_; rw [if_neg (by simp)]
     refine dw_skip ?_; refine dw_seq ?_; refine dwk [] TRG_ok hnt fun K hK => ?_; refine dcl (hI) ?_; refine hK _ _ ?_; clear hK K; refine dw_seq ?_; refine dw_seq ?_; refine dwk [(30, .v (.bool false))] TRG_ok hnt fun K hK => ?_; refine And.intro (bneF hk) ?_; refine hK _ _ ?_; clear hK K; refine dw_cond (t := false) rfl ?_; rw [if_neg (by simp)]; refine dw_skip ?_; refine dw_seq ?_; refine dwkD [(34, .sl 4 (eTms [p.l]) none), (38, .sl 4 (eTms [p.r]) none)] TRG_ok hnt fun K hK => ?_
     refine And.intro ((by rw [e1]; exact VLe.untag _ _ _)) ?_; refine dcl (m1) ?_; refine And.intro ((by rw [e2]; exact VLe.untag _ _ _)) ?_; refine dcl (m2) ?_; refine hK _ _ (by kernel_rfl) ?_; clear hK K; refine dw_seq ?_; refine dw_seq ?_; refine dwk [] TRG_ok hnt fun K hK => ?_; refine hK _ _ ?_; clear hK K; refine dw_block ?_
     refine dw_loop (ι := { j : Nat // ∀ i (hi : i < l.length), i < j → (!(h.contains l[i])) = false }) (fun j => [(.t 8, .sl 1 (eIs h) none), (.t 9, .sl 1 (eIs l) none), (.t 10, .v (.int .i64 ↑j.1))]) 2 (fun j => l.length - j.1) (⟨0, fun i h1 h2 => by omega⟩) (VS.toA) fun j => ?_
     obtain ⟨j, hj⟩ := j
     dsimp only
     by_cases hlt : j < l.length
     ·have hx := hh l[j]
      cases hq : h.contains l[j] with
      | true =>
       rw [hq] at hx
       refine dw_seq ?_; refine dw_seq ?_; refine dwk [(42, .v (.int .i64 (↑l.length))), (43, .v (.bool true))] TRG_ok hnt fun K hK => ?_; refine And.intro (dintE (by rw [eIs_len])) ?_; refine And.intro auT ?_; refine hK _ _ ?_; clear hK K; refine dw_cond (t := true) rfl ?_; rw [if_pos rfl]; refine dw_skip ?_; refine dw_seq ?_; refine dw_block ?_; refine dw_seq ?_; refine dwk [(49, .q [.v (.int .i64 (l[j]))])] TRG_ok hnt fun K hK => ?_
       refine And.intro (elo (eIs_len l)) ?_; refine And.intro (elv (eIs_getD l j) rfl) ?_; refine dcl (hx) ?_; refine hK _ _ ?_; clear hK K; refine dw_cond (t := false) rfl ?_; rw [if_neg (by simp)]; refine dw_skip ?_; refine dwk [(45, .v (.int .i64 (↑(j + 1))))] TRG_ok hnt fun K hK => ?_; refine And.intro auI ?_; refine hK _ _ ?_; clear hK K
       refine ⟨⟨j + 1, fun i h1 h2 => if e : i = j then by subst e; rw [hq]; rfl else hj i h1 (by omega)⟩, by first | omega | (dsimp only; omega), VS.toA⟩
      | false =>
       rw [hq] at hx
       have ha : (l.any fun x => !(h.contains x)) = true := List.any_eq_true.2 ⟨_, List.getElem_mem hlt, by rw [hq]; rfl⟩
       rw [if_pos ha]; refine dw_seq ?_; refine dw_seq ?_; refine dwk [(42, .v (.int .i64 (↑l.length))), (43, .v (.bool true))] TRG_ok hnt fun K hK => ?_; refine And.intro (dintE (by rw [eIs_len])) ?_; refine And.intro auT ?_; refine hK _ _ ?_; clear hK K; refine dw_cond (t := true) rfl ?_; rw [if_pos rfl]; refine dw_skip ?_; refine dw_seq ?_; refine dw_block ?_; refine dw_seq ?_; refine dwk [(49, .q [.v (.int .i64 (l[j]))])] TRG_ok hnt fun K hK => ?_
       refine And.intro (elo (eIs_len l)) ?_; refine And.intro (elv (eIs_getD l j) rfl) ?_; refine dcl (hx) ?_; refine hK _ _ ?_; clear hK K; refine dw_cond (t := true) rfl ?_; rw [if_pos rfl]; refine dw_seq ?_; refine dwk [] TRG_ok hnt fun K hK => ?_; refine hK _ _ ?_; clear hK K; refine dw_ret ?_
       exact reta rfl
     ·have ha : (l.any fun x => !(h.contains x)) = false := by
       rw [List.any_eq_false]
       intro x hx
       obtain ⟨i, hi, rfl⟩ := List.getElem_of_mem hx
       rw [hj i hi (by omega)]; simp
      rw [if_neg (by rw [ha]; simp)]; refine dw_seq ?_; refine dw_seq ?_; refine dwk [(42, .v (.int .i64 (↑l.length))), (43, .v (.bool false))] TRG_ok hnt fun K hK => ?_; refine And.intro (dintE (by rw [eIs_len])) ?_; refine And.intro auF ?_; refine hK _ _ ?_; clear hK K; refine dw_cond (t := false) rfl ?_; rw [if_neg (by simp)]; refine dw_exit ?_; refine dw_seq ?_; refine dwk [] TRG_ok hnt fun K hK => ?_
      refine hK _ _ ?_; clear hK K; refine dw_ret ?_
      exact reta rfl
   ·rw [if_pos hk]
    refine calldw 0 53 [ResultVar.tmp 4] TRG_ok Tryz.func26 rfl Tryz.ntmps26 rfl fun cx hnt hn0 => ?_
    ·skip
     refine dw_seq ?_; refine dwk [] TRG_ok hnt fun K hK => ?_; refine hK _ _ ?_; clear hK K; refine dw_seq ?_; refine dwk [] TRG_ok hnt fun K hK => ?_; refine dcl (ht) ?_; refine hK _ _ ?_; clear hK K; refine dw_seq ?_; refine dw_seq ?_; refine dwk [(15, .v (.bool false))] TRG_ok hnt fun K hK => ?_; refine And.intro (bneF rfl) ?_; refine hK _ _ ?_; clear hK K; refine dw_cond (t := false) rfl ?_; rw [if_neg (by simp)]
     refine dw_skip ?_; refine dw_seq ?_; refine dwk [] TRG_ok hnt fun K hK => ?_; refine dcl (hI) ?_; refine hK _ _ ?_; clear hK K; refine dw_seq ?_; refine dw_seq ?_; refine dwk [(30, .v (.bool true))] TRG_ok hnt fun K hK => ?_; refine And.intro (bneT hk) ?_; refine hK _ _ ?_; clear hK K; refine dw_cond (t := true) rfl ?_; rw [if_pos rfl]; refine dw_seq ?_; refine dwk [] TRG_ok hnt fun K hK => ?_; refine hK _ _ ?_; clear hK K
     refine dw_ret ?_
     exact reta rfl
 ·rw [if_pos he]
  refine calldw 0 53 [ResultVar.tmp 4] TRG_ok Tryz.func26 rfl Tryz.ntmps26 rfl fun cx hnt hn0 => ?_
  ·skip
   refine dw_seq ?_; refine dwk [] TRG_ok hnt fun K hK => ?_; refine hK _ _ ?_; clear hK K; refine dw_seq ?_; refine dwk [] TRG_ok hnt fun K hK => ?_; refine dcl (ht) ?_; refine hK _ _ ?_; clear hK K; refine dw_seq ?_; refine dw_seq ?_; refine dwk [(15, .v (.bool true))] TRG_ok hnt fun K hK => ?_; refine And.intro (bneT he) ?_; refine hK _ _ ?_; clear hK K; refine dw_cond (t := true) rfl ?_; rw [if_pos rfl]
   refine dw_seq ?_; refine dwk [] TRG_ok hnt fun K hK => ?_; refine hK _ _ ?_; clear hK K; refine dw_ret ?_
   exact reta rfl
end Go.Proofs.YtdmiekaeodcehaaGreat

namespace Go.Proofs.YtdmiekaeodcehaaGreat
open Go.RowKit
def TRH_38 : TI := ⟨9, true, [Value.slice none 0 0, Value.int IntKind.i64 0, Value.int IntKind.i64 0, Value.slice none 0 0, Value.slice none 0 0, Value.int IntKind.i64 0, Value.int IntKind.i64 0, Value.slice none 0 0, Value.slice none 0 0], [(0, 4, true), (4, 4, true), (8, 1, false)], none, 152, 6, none, false⟩
theorem TRH_38_ok : TypOk Tryz.prog 38 TRH_38 := ⟨by kernel_rfl, by kernel_rfl, by kernel_rfl, by kernel_rfl, by kernel_rfl⟩
def TRH_3 : TI := ⟨1, false, [Value.int IntKind.i64 0], [], none, 8, 2, none, false⟩
theorem TRH_3_ok : TypOk Tryz.prog 3 TRH_3 := ⟨by kernel_rfl, by kernel_rfl, by kernel_rfl, by kernel_rfl, by kernel_rfl⟩
def TRH_36 : TI := ⟨4, true, [Value.slice none 0 0, Value.int IntKind.i64 0, Value.int IntKind.i64 0, Value.slice none 0 0], [(0, 1, false), (1, 2, true), (3, 1, false)], none, 64, 6, none, false⟩
theorem TRH_36_ok : TypOk Tryz.prog 36 TRH_36 := ⟨by kernel_rfl, by kernel_rfl, by kernel_rfl, by kernel_rfl, by kernel_rfl⟩
def TRH_34 : TI := ⟨1, false, [Value.slice none 0 0], [], some 36, 24, 5, none, false⟩
theorem TRH_34_ok : TypOk Tryz.prog 34 TRH_34 := ⟨by kernel_rfl, by kernel_rfl, by kernel_rfl, by kernel_rfl, by kernel_rfl⟩
def TRH_32 : TI := ⟨1, false, [Value.slice none 0 0], [], some 75, 24, 5, none, false⟩
theorem TRH_32_ok : TypOk Tryz.prog 32 TRH_32 := ⟨by kernel_rfl, by kernel_rfl, by kernel_rfl, by kernel_rfl, by kernel_rfl⟩
def TRH_75 : TI := ⟨2, true, [Value.slice none 0 0, Value.int IntKind.i64 0], [(0, 1, false), (1, 1, false)], none, 32, 6, none, false⟩
theorem TRH_75_ok : TypOk Tryz.prog 75 TRH_75 := ⟨by kernel_rfl, by kernel_rfl, by kernel_rfl, by kernel_rfl, by kernel_rfl⟩
def TRH_48 : TI := ⟨3, true, [Value.int IntKind.i64 0, Value.slice none 0 0, Value.slice none 0 0], [(0, 1, false), (1, 1, false), (2, 1, false)], none, 56, 6, none, false⟩
theorem TRH_48_ok : TypOk Tryz.prog 48 TRH_48 := ⟨by kernel_rfl, by kernel_rfl, by kernel_rfl, by kernel_rfl, by kernel_rfl⟩
def TRH_39 : TI := ⟨1, false, [Value.int IntKind.i64 0], [], none, 8, 2, none, false⟩
theorem TRH_39_ok : TypOk Tryz.prog 39 TRH_39 := ⟨by kernel_rfl, by kernel_rfl, by kernel_rfl, by kernel_rfl, by kernel_rfl⟩
def TRH_33 : TI := ⟨2, true, [Value.int IntKind.i64 0, Value.int IntKind.i64 0], [(0, 1, false), (1, 1, false)], none, 16, 6, none, true⟩
theorem TRH_33_ok : TypOk Tryz.prog 33 TRH_33 := ⟨by kernel_rfl, by kernel_rfl, by kernel_rfl, by kernel_rfl, by kernel_rfl⟩
def TRH : List (Nat × TI) := [(38, TRH_38), (3, TRH_3), (36, TRH_36), (34, TRH_34), (32, TRH_32), (75, TRH_75), (48, TRH_48), (39, TRH_39), (33, TRH_33)]
theorem TRH_ok : TabOk Tryz.prog TRH := ((((((((((TabOk.nil _).cons TRH_33_ok).cons TRH_39_ok).cons TRH_48_ok).cons TRH_75_ok).cons TRH_32_ok).cons TRH_34_ok).cons TRH_36_ok).cons TRH_3_ok).cons TRH_38_ok)
namespace Ru
def kA : Ty := .mk [] 0
def kC : List Ty := [.mk [kA, kA] 0, .mk [kA] 0]
def km (i : Int) : Tm := .mk [] 2 i []
def kc (i : Int) (l : List Tm) : Tm := .mk [] 1 i l
def KP : Li.Pr := ⟨kc 0 [km 1, km 0], kc 1 [km 1], [kA, kA]⟩
def KQ : Li.Pr := ⟨kc 0 [km 0, km 1], kc 1 [km 0], [kA, kA]⟩
def KS : Li.Pr := ⟨kc 1 [km 0], kc 1 [km 1], [kA, kA]⟩
theorem km_fit (i : Int) (h1 : -1000 ≤ i) (h2 : i ≤ 1000) : (km i).Fit := Tm.fit_iff.2 ⟨by omega, by omega, nofun⟩
theorem kc_fit {i : Int} {l : List Tm} (h1 : -1000 ≤ i) (h2 : i ≤ 1000) (h : ∀ t ∈ l, t.Fit) : (kc i l).Fit := Tm.fit_iff.2 ⟨by omega, by omega, h⟩
theorem own_P : own KP = (KQ, 0) := by kernel_rfl
theorem own_Q : own KQ = (KQ, 0) := by kernel_rfl
theorem vari_PQ : vari KP KQ = true := by unfold vari; rw [own_P, own_Q]; kernel_rfl
theorem chk_at {p : Li.Pr} (h1 : p.l.kind = 1) (h2 : (Pn.uses p.l [] []).2 = true) : chk p = if ∃ x ∈ metasL [p.r], x ∉ metasL [p.l] then 7 else 0 := by
  unfold chk
  rw [if_neg (by simp [h1]), if_neg (by simp [h2])]
  have e : ((ms p.r).any fun x => !((ms p.l).contains x)) = true ↔ ∃ x ∈ metasL [p.r], x ∉ metasL [p.l] := by
    unfold ms
    rw [List.any_eq_true]
    constructor
    · rintro ⟨x, h, h2⟩
      refine ⟨x, ((sortU_spec _).2 x).1 h, fun h3 => ?_⟩
      rw [List.contains_iff_mem.2 (((sortU_spec _).2 x).2 h3)] at h2
      cases h2
    · rintro ⟨x, h, h2⟩
      refine ⟨x, ((sortU_spec _).2 x).2 h, ?_⟩
      rw [Bool.not_eq_true', Bool.eq_false_iff]
      exact fun h3 => h2 (((sortU_spec _).2 x).1 (List.contains_iff_mem.1 h3))
  by_cases h : ∃ x ∈ metasL [p.r], x ∉ metasL [p.l]
  · rw [if_pos (e.2 h), if_pos h]
  · rw [if_neg (fun g => h (e.1 g)), if_neg h]
theorem chk_P : chk KP = 0 := by
  rw [chk_at rfl (by kernel_rfl), if_neg]
  rw [show metasL [KP.r] = [1] by decide +kernel, show metasL [KP.l] = [1, 0] by decide +kernel]
  simp
theorem chk_S : chk KS = 7 := by
  rw [chk_at rfl (by kernel_rfl), if_pos]
  rw [show metasL [KS.r] = [1] by decide +kernel, show metasL [KS.l] = [0] by decide +kernel]
  exact ⟨1, by simp, by simp⟩
theorem kWd : RightWd 1 kC [kA, kA] := by
  refine ⟨by decide, fun t ht => ?_⟩
  have : t = kA ∨ t = .mk [kA, kA] 0 ∨ t = .mk [kA] 0 := by
    simp [kC] at ht
    rcases ht with h | h | h
    · exact .inr (.inl h)
    · exact .inr (.inr h)
    · exact .inl h
  rcases this with rfl | rfl | rfl
  · exact ⟨by decide, by decide, by simp [kA, Ty.low_iff]⟩
  · exact ⟨by decide, by decide, by simp [kA, Ty.low_iff]⟩
  · exact ⟨by decide, by decide, by simp [kA, Ty.low_iff]⟩
theorem good_P : Good 1 kC KP := ⟨kWd, by decide, by decide, kA, by kernel_rfl, rfl, by simp [KP, kc, km, kC, kA, IsOf, IsOfs, headTy, Ty.args, Ty.base], by simp [KP, kc, km, kC, kA, IsOf, IsOfs, headTy, Ty.args, Ty.base]⟩
theorem good_S : Good 1 kC KS := ⟨kWd, by decide, by decide, kA, by kernel_rfl, rfl, by simp [KS, kc, km, kC, kA, IsOf, IsOfs, headTy, Ty.args, Ty.base], by simp [KS, kc, km, kC, kA, IsOf, IsOfs, headTy, Ty.args, Ty.base]⟩
theorem fit_P : KP.l.Fit ∧ KP.r.Fit := ⟨kc_fit (by decide) (by decide) (by
  intro t ht
  simp at ht
  rcases ht with rfl | rfl
  · exact km_fit _ (by decide) (by decide)
  · exact km_fit _ (by decide) (by decide)), kc_fit (by decide) (by decide) (by
  intro t ht
  simp at ht
  subst ht
  exact km_fit _ (by decide) (by decide))⟩
theorem fit_Q : KQ.l.Fit ∧ KQ.r.Fit := ⟨kc_fit (by decide) (by decide) (by
  intro t ht
  simp at ht
  rcases ht with rfl | rfl
  · exact km_fit _ (by decide) (by decide)
  · exact km_fit _ (by decide) (by decide)), kc_fit (by decide) (by decide) (by
  intro t ht
  simp at ht
  subst ht
  exact km_fit _ (by decide) (by decide))⟩
theorem fit_S : KS.l.Fit ∧ KS.r.Fit := ⟨kc_fit (by decide) (by decide) (by
  intro t ht
  simp at ht
  subst ht
  exact km_fit _ (by decide) (by decide)), kc_fit (by decide) (by decide) (by
  intro t ht
  simp at ht
  subst ht
  exact km_fit _ (by decide) (by decide))⟩
end Ru
theorem rk1_d (i : Int) (l : List Tm) : PureC Tryz.prog 39 [.v (.int .i64 i), .sl 4 (eTms l) none] (.ag [.sl 2 [] none, .v (.int .i64 1), .v (.int .i64 i), .sl 4 (eTms l) none]) := by
 refine calldw 0 9 [ResultVar.cell 4 36] TRH_ok Tryz.func39 rfl Tryz.ntmps39 rfl fun cx hnt hn0 => ?_
 ·skip
  refine dw_seq ?_; refine dwk [] TRH_ok hnt fun K hK => ?_; refine hK _ _ ?_; clear hK K; refine dw_seq ?_; refine dwk [] TRH_ok hnt fun K hK => ?_; refine hK _ _ ?_; clear hK K; refine dw_ret ?_
  exact reta rfl
theorem rk2_d (i : Int) : PureC Tryz.prog 40 [.v (.int .i64 i)] (.ag [.sl 2 [] none, .v (.int .i64 2), .v (.int .i64 i), .sl 4 [] none]) := by
 refine calldw 0 6 [ResultVar.cell 2 36] TRH_ok Tryz.func40 rfl Tryz.ntmps40 rfl fun cx hnt hn0 => ?_
 ·skip
  refine dw_seq ?_; refine dwk [] TRH_ok hnt fun K hK => ?_; refine hK _ _ ?_; clear hK K; refine dw_seq ?_; refine dwk [] TRH_ok hnt fun K hK => ?_; refine hK _ _ ?_; clear hK K; refine dw_ret ?_
  exact reta rfl
theorem rkOf0_d : PureC Tryz.prog 38 [.v (.int .i64 0), .v (.slice none 0 0)] (.ag [.sl 2 [] none, .v (.int .i64 0)]) := CallC.vle (kOf_d 0 [] (by simp [Ty.sizes])) (.cons (VLe.refl _) (.cons (VLe.nil _) .nil)) (VLe.refl _)
theorem kSz : ∀ t ∈ Ru.kC ++ [Ru.kA, Ru.kA], t.size ≤ 400000 := fun t ht => by have := (Ru.kWd.2 t ht).1; omega
theorem kcheck_d (p : Li.Pr) (c : Int) (hm : p.m = [Ru.kA, Ru.kA]) (hg : Ru.Good 1 Ru.kC p) (hc : Ru.chk p = c) (hl : p.l.full ≤ 10000 ∧ p.l.Fit) (hr : p.r.full ≤ 10000 ∧ p.r.Fit) : PureC Tryz.prog 25 [.ag [.v (.int .i64 1), .sl 2 (eTys Ru.kC) none, .sl 2 (eTys []) none], .ag (ePr p)] (.v (.int .i64 c)) := by
  have h1 := rutyped0_d 1 Ru.kC [] p (by decide) (by rw [hm]; decide) hg ⟨by omega, hl.2⟩ ⟨by omega, hr.2⟩ (by rw [hm]; exact kSz)
  have h := rucheck_d 1 Ru.kC [] p 0 hl hr h1
  rw [if_neg (by simp), hc] at h
  exact h
set_option maxHeartbeats 4000000 in
theorem known17_d : PureC Tryz.prog 7 [] (.v (.bool true)) := by
 have ho := rkOf0_d
 have o1 := kOf_d 0 [Ru.kA, Ru.kA] (by decide)
 have o2 := kOf_d 0 [Ru.kA] (by decide)
 have hown := ruown_d Ru.KP ⟨by decide, Ru.fit_P.1⟩ ⟨by decide, Ru.fit_P.2⟩ (by decide) (by decide)
 rw [Ru.own_P] at hown
 have hv := ruvari_d Ru.KP Ru.KQ ⟨by decide, Ru.fit_P.1⟩ ⟨by decide, Ru.fit_P.2⟩ (by decide) (by decide) ⟨by decide, Ru.fit_Q.1⟩ ⟨by decide, Ru.fit_Q.2⟩ (by decide) (by decide)
 rw [Ru.vari_PQ] at hv
 have c1 := kcheck_d Ru.KP 0 rfl Ru.good_P Ru.chk_P ⟨by decide, Ru.fit_P.1⟩ ⟨by decide, Ru.fit_P.2⟩
 have c2 := kcheck_d Ru.KS 7 rfl Ru.good_S Ru.chk_S ⟨by decide, Ru.fit_S.1⟩ ⟨by decide, Ru.fit_S.2⟩
 have e1 : PureC Tryz.prog 41 [.ag [.sl 2 (eTys Ru.KQ.l.binds) none, .v (.int .i64 Ru.KQ.l.kind), .v (.int .i64 Ru.KQ.l.index), .sl 4 (eTms Ru.KQ.l.args) none], .ag [.sl 2 [] none, .v (.int .i64 1), .v (.int .i64 0), .sl 4 (eTms [Ru.km 0, Ru.km 1]) none]] (.v (.bool true)) := by
  have := equal2_d Ru.KQ.l (Ru.kc 0 [Ru.km 0, Ru.km 1])
  rw [decide_eq_true (show Ru.KQ.l = Ru.kc 0 [Ru.km 0, Ru.km 1] from rfl)] at this
  exact this
 have e2 : PureC Tryz.prog 41 [.ag [.sl 2 (eTys Ru.KQ.r.binds) none, .v (.int .i64 Ru.KQ.r.kind), .v (.int .i64 Ru.KQ.r.index), .sl 4 (eTms Ru.KQ.r.args) none], .ag [.sl 2 [] none, .v (.int .i64 1), .v (.int .i64 1), .sl 4 (eTms [Ru.km 0]) none]] (.v (.bool true)) := by
  have := equal2_d Ru.KQ.r (Ru.kc 1 [Ru.km 0])
  rw [decide_eq_true (show Ru.KQ.r = Ru.kc 1 [Ru.km 0] from rfl)] at this
  exact this
 dsimp only at hown
 rw [ePr_at, ePr_at] at hown hv
 rw [ePr_at] at c1 c2
 refine calldw 0 92 [ResultVar.tmp 0] TRH_ok Tryz.func7 rfl Tryz.ntmps7 rfl fun cx hnt hn0 => ?_
 ·skip
  refine dw_seq ?_; refine dwk [] TRH_ok hnt fun K hK => ?_; refine hK _ _ ?_; clear hK K; refine dw_seq ?_; refine dwk [] TRH_ok hnt fun K hK => ?_; refine dcl (ho) ?_; refine hK _ _ ?_; clear hK K; refine dw_seq ?_; refine dwkD [(9, .ag (eTy Ru.kA)), (10, .ag (eTy Ru.kA)), (11, .sl 2 (eTys [Ru.kA, Ru.kA]) none), (13, .ag (eTy Ru.kA)), (14, .sl 2 (eTys [Ru.kA]) none), (16, .sl 2 (eTys Ru.kC) none)] TRH_ok hnt fun K hK => ?_
  refine And.intro (auV) ?_; refine And.intro (auV) ?_; refine And.intro (VLe.untag _ _ _) ?_; refine dcl (o1) ?_; refine And.intro (auV) ?_; refine And.intro (VLe.untag _ _ _) ?_; refine dcl (o2) ?_; refine And.intro (VLe.untag _ _ _) ?_; refine hK _ _ (by kernel_rfl) ?_; clear hK K; refine dw_seq ?_; refine dwk [] TRH_ok hnt fun K hK => ?_; refine hK _ _ ?_; clear hK K; refine dw_seq ?_; refine dwk [] TRH_ok hnt fun K hK => ?_
  refine hK _ _ ?_; clear hK K; refine dw_seq ?_; refine dwkD [(23, .sl 4 (eTms [Ru.km 1, Ru.km 0]) none), (28, .sl 4 (eTms [Ru.km 1]) none), (30, .ag (eTy Ru.kA)), (31, .ag (eTy Ru.kA)), (32, .sl 2 (eTys [Ru.kA, Ru.kA]) none)] TRH_ok hnt fun K hK => ?_; refine dcl (rk2_d 1) ?_; refine dcl (rk2_d 0) ?_; refine And.intro (VLe.untag _ _ _) ?_; refine dcl (rk1_d 0 _) ?_; refine dcl (rk2_d 1) ?_; refine And.intro (VLe.untag _ _ _) ?_
  refine dcl (rk1_d 1 _) ?_; refine And.intro (auV) ?_; refine And.intro (auV) ?_; refine And.intro (VLe.untag _ _ _) ?_; refine hK _ _ (by kernel_rfl) ?_; clear hK K; refine dw_seq ?_; refine dwk [(35, .ag [.sl 2 (eTys Ru.KP.l.binds) none, .v (.int .i64 Ru.KP.l.kind), .v (.int .i64 Ru.KP.l.index), .sl 4 (eTms Ru.KP.l.args) none, .sl 2 (eTys Ru.KP.r.binds) none, .v (.int .i64 Ru.KP.r.kind), .v (.int .i64 Ru.KP.r.index), .sl 4 (eTms Ru.KP.r.args) none, .sl 2 (eTys Ru.KP.m) none])] TRH_ok hnt fun K hK => ?_
  refine And.intro (auV) ?_; refine dcl (hown) ?_; refine hK _ _ ?_; clear hK K; refine dw_seq ?_; refine dwkD [(40, .v (.bool true)), (49, .sl 4 (eTms [Ru.km 0, Ru.km 1]) none), (59, .sl 4 (eTms [Ru.km 0]) none), (64, .ag [.v (.int .i64 1), .sl 2 (eTys Ru.kC) none, .sl 2 (eTys []) none]), (65, .ag [.sl 2 (eTys Ru.KP.l.binds) none, .v (.int .i64 Ru.KP.l.kind), .v (.int .i64 Ru.KP.l.index), .sl 4 (eTms Ru.KP.l.args) none, .sl 2 (eTys Ru.KP.r.binds) none, .v (.int .i64 Ru.KP.r.kind), .v (.int .i64 Ru.KP.r.index), .sl 4 (eTms Ru.KP.r.args) none, .sl 2 (eTys Ru.KP.m) none]), (67, .v (.bool true)), (70, .ag [.v (.int .i64 1), .sl 2 (eTys Ru.kC) none, .sl 2 (eTys []) none]), (74, .sl 4 (eTms [Ru.km 0]) none), (79, .sl 4 (eTms [Ru.km 1]) none), (83, .ag [.sl 2 (eTys Ru.KS.l.binds) none, .v (.int .i64 Ru.KS.l.kind), .v (.int .i64 Ru.KS.l.index), .sl 4 (eTms Ru.KS.l.args) none, .sl 2 (eTys Ru.KS.r.binds) none, .v (.int .i64 Ru.KS.r.kind), .v (.int .i64 Ru.KS.r.index), .sl 4 (eTms Ru.KS.r.args) none, .sl 2 (eTys Ru.KS.m) none]), (85, .v (.bool true)), (88, .ag [.sl 2 (eTys Ru.KP.l.binds) none, .v (.int .i64 Ru.KP.l.kind), .v (.int .i64 Ru.KP.l.index), .sl 4 (eTms Ru.KP.l.args) none, .sl 2 (eTys Ru.KP.r.binds) none, .v (.int .i64 Ru.KP.r.kind), .v (.int .i64 Ru.KP.r.index), .sl 4 (eTms Ru.KP.r.args) none, .sl 2 (eTys Ru.KP.m) none])] TRH_ok hnt fun K hK => ?_
  refine And.intro (VLe.refl _) ?_; refine dcl (rk2_d 0) ?_; refine dcl (rk2_d 1) ?_; refine And.intro (VLe.untag _ _ _) ?_; refine dcl (rk1_d 0 _) ?_; refine dcl (e1) ?_; refine dcl (rk2_d 0) ?_; refine And.intro (VLe.untag _ _ _) ?_; refine dcl (rk1_d 1 _) ?_; refine dcl (e2) ?_; refine And.intro (auV) ?_; refine And.intro (auV) ?_; refine dcl (c1) ?_; refine And.intro (VLe.refl _) ?_; refine And.intro (auV) ?_
  refine dcl (rk2_d 0) ?_; refine And.intro (VLe.untag _ _ _) ?_; refine dcl (rk1_d 1 _) ?_; refine dcl (rk2_d 1) ?_; refine And.intro (VLe.untag _ _ _) ?_; refine dcl (rk1_d 1 _) ?_; refine And.intro (auV) ?_; refine dcl (c2) ?_; refine And.intro (VLe.refl _) ?_; refine And.intro (auV) ?_; refine dcl (hv) ?_; refine hK _ _ (by kernel_rfl) ?_; clear hK K; refine dw_ret ?_
  exact reta rfl
end Go.Proofs.YtdmiekaeodcehaaGreat

namespace Go.Proofs.YtdmiekaeodcehaaGreat
open Go.RowKit
namespace Ru
def rg : Nat → List Int
  | 0 => []
  | n + 1 => rg n ++ [(n : Int)]
theorem rg_len : ∀ n, (rg n).length = n
  | 0 => rfl
  | n + 1 => by rw [rg]; simp [rg_len n]
theorem rg_mem : ∀ (n : Nat) (x : Int), x ∈ rg n ↔ 0 ≤ x ∧ x < n
  | 0, x => by
    constructor
    · intro h; cases h
    · intro h; omega
  | n + 1, x => by
    rw [rg, List.mem_append, rg_mem n x, List.mem_singleton]
    push_cast
    omega
structure Sm (p : Li.Pr) : Prop where
  l : p.l.full ≤ 150 ∧ p.l.Fit
  r : p.r.full ≤ 150 ∧ p.r.Fit
  ml : p.m.length ≤ 300
  m : ∀ t ∈ p.m, t.size ≤ 60
theorem mt_size {M : List Ty} (h : ∀ t ∈ M, t.size ≤ 60) (x : Int) : (mt M x).size ≤ 60 := by
  unfold mt
  rw [List.getD_eq_getElem?_getD]
  cases hx : M[x.toNat]? with
  | none => simp [Ty.size, Ty.sizes]
  | some t => exact h t (List.mem_of_getElem? hx)
theorem Sm.own {p : Li.Pr} (h : Sm p) : Sm (own p).1 := by
  by_cases hb : (tr p.r (tr p.l []).1).1.any (bad p.m) = true
  · have : Ru.own p = (.z, 10) := by unfold Ru.own; rw [if_pos hb]
    rw [this]
    exact ⟨⟨by decide, Tm.fit_iff.2 ⟨by decide, by decide, nofun⟩⟩, ⟨by decide, Tm.fit_iff.2 ⟨by decide, by decide, nofun⟩⟩, by decide, nofun⟩
  · have e : Ru.own p = (⟨(tr p.l []).2, (tr p.r (tr p.l []).1).2, (tr p.r (tr p.l []).1).1.map (mt p.m)⟩, 0) := by unfold Ru.own; rw [if_neg hb]
    rw [e]
    have g1 := tr_grow p.l []
    have g2 := tr_grow p.r (tr p.l []).1
    have := h.l.1
    have := h.r.1
    simp only [List.length_nil, Nat.zero_add] at g1
    refine ⟨⟨?_, ?_⟩, ⟨?_, ?_⟩, ?_, fun t ht => ?_⟩
    · show (tr p.l []).2.full ≤ 150
      rw [tr_full]; exact h.l.1
    · exact tr_fit p.l [] (by simp; omega) h.l.2
    · show (tr p.r (tr p.l []).1).2.full ≤ 150
      rw [tr_full]; exact h.r.1
    · exact tr_fit p.r _ (by omega) h.r.2
    · show (List.map _ _).length ≤ 300
      rw [List.length_map]; omega
    · obtain ⟨x, _, rfl⟩ := List.mem_map.1 ht
      exact mt_size h.m x
theorem Sm.sizes {p : Li.Pr} (h : Sm p) : Ty.sizes p.m ≤ 18000 := by
  have := sizes_le22 h.m
  have := h.ml
  omega
theorem Sm.of {p : Li.Pr} (h : fewP p = true) (hf : p.l.Fit ∧ p.r.Fit) : Sm p := by
  obtain ⟨h1, h2, h3⟩ := fewP_ok h
  exact ⟨⟨h1.1, hf.1⟩, ⟨h1.2, hf.2⟩, by omega, h3⟩
end Ru
end Go.Proofs.YtdmiekaeodcehaaGreat

namespace Go.Proofs.YtdmiekaeodcehaaGreat
open Go.RowKit
namespace Ru
/-! sizes -/
theorem rns_size_of {f : List Int} {l : List Tm} (h : ∀ t ∈ l, (rn f t).size = t.size) : Tm.sizes (rns f l) = Tm.sizes l := by
  induction l with
  | nil => simp [rns]
  | cons t l ih =>
    have h1 := h t (by simp)
    have h2 := ih fun u hu => h u (by simp [hu])
    rw [rns]; simp only [Tm.sizes]; omega
theorem rn_size (f : List Int) (t : Tm) : (rn f t).size = t.size := by
  induction t using Tm.ind with
  | h b k i a ih => rw [rn_eq, Tm.size_eq, Tm.size_eq, rns_size_of ih]
theorem rns_depth_of {f : List Int} {l : List Tm} (h : ∀ t ∈ l, (rn f t).depth = t.depth) : Tm.depths (rns f l) = Tm.depths l := by
  induction l with
  | nil => simp [rns]
  | cons t l ih =>
    have h1 := h t (by simp)
    have h2 := ih fun u hu => h u (by simp [hu])
    rw [rns]; simp only [Tm.depths]; rw [h1, h2]
theorem rn_depth (f : List Int) (t : Tm) : (rn f t).depth = t.depth := by
  induction t using Tm.ind with
  | h b k i a ih => rw [rn_eq, Tm.depth_eq, Tm.depth_eq, rns_depth_of ih]
theorem rn_rt (f : List Int) (t : Tm) : Li.rt (rn f t) = Li.rt t := by unfold Li.rt; rw [rn_size, rn_depth]
/-! metavariables -/
mutual
def AllIn (o : List Int) : Tm → Prop
  | .mk _ k i a => (k = 2 → i ∈ o) ∧ AllIns o a
def AllIns (o : List Int) : List Tm → Prop
  | [] => True
  | t :: l => AllIn o t ∧ AllIns o l
end
theorem allIn_eq (o : List Int) (b : List Ty) (k i : Int) (a : List Tm) : AllIn o (.mk b k i a) ↔ (k = 2 → i ∈ o) ∧ AllIns o a := by rw [AllIn]
theorem trs_in_of {l : List Tm} (h : ∀ t ∈ l, ∀ o f, (∃ s, f = (tr t o).1 ++ s) → AllIn f t) : ∀ o f, (∃ s, f = (trs l o).1 ++ s) → AllIns f l := by
  induction l with
  | nil => intro o f _; simp [AllIns]
  | cons t l ih =>
    intro o f hf
    rw [trs] at hf
    dsimp only at hf
    obtain ⟨s2, h2⟩ := trs_pre_of (fun t _ => tr_pre t) (l := l) (tr t o).1
    have h3 := ih (fun u hu => h u (by simp [hu])) _ f hf
    obtain ⟨s, hs⟩ := hf
    rw [AllIns]
    exact ⟨h t (by simp) o f ⟨s2 ++ s, by rw [hs, h2, List.append_assoc]⟩, h3⟩
theorem tr_in (t : Tm) : ∀ o f, (∃ s, f = (tr t o).1 ++ s) → AllIn f t := by
  induction t using Tm.ind with
  | h b k i a ih =>
    intro o f hf
    rw [tr_eq] at hf
    dsimp only at hf
    refine (allIn_eq ..).2 ⟨fun hk => ?_, trs_in_of ih _ f hf⟩
    obtain ⟨s, hs⟩ := hf
    obtain ⟨s2, h2⟩ := trs_pre_of (fun t _ => tr_pre t) (l := a) (if k = 2 then met o i else o)
    rw [if_pos hk] at h2 hs
    rw [hs, h2]
    exact List.mem_append_left _ (List.mem_append_left _ (met_mem o i))
theorem ix_get {m : Int} : ∀ {o : List Int}, m ∈ o → o[ix m o]? = some m
  | [], h => by cases h
  | x :: l, h => by
    rw [ix]
    by_cases hx : x = m
    · rw [if_pos hx]; simp [hx]
    · rw [if_neg hx]
      have := ix_get (m := m) (o := l) (by rcases List.mem_cons.1 h with h | h; exact absurd h.symm hx; exact h)
      simpa using this
/-! typed -/
variable {C M : List Ty} {o : List Int}
theorem head_rn {X : List Ty} {k i : Int} (ho : ∀ x ∈ o, 0 ≤ x ∧ x < M.length) (hi : k = 2 → i ∈ o) : headTy C (o.map (mt M)) X k (if k = 2 ∧ i ∈ o then (ix i o : Int) else i) = headTy C M X k i := by
  by_cases hk : k = 2
  · have hm := hi hk
    rw [if_pos ⟨hk, hm⟩]
    obtain ⟨h0, h1⟩ := ho i hm
    obtain ⟨n, rfl⟩ := Int.eq_ofNat_of_zero_le h0
    subst hk
    rw [headTy_2, headTy_2, List.getElem?_map, ix_get hm, Option.map_some, mt_at (show n < M.length by omega), List.getElem?_eq_getElem (show n < M.length by omega)]
  · rw [if_neg fun h => hk h.1]
    unfold headTy
    split
    · rfl
    · split
      · rfl
      · split
        · rfl
        · first | rfl | rw [if_neg hk, if_neg hk]
theorem isOfs_rn_of {l : List Tm} (h : ∀ t ∈ l, ∀ X u, AllIn o t → IsOf C M t X u → IsOf C (o.map (mt M)) (rn o t) X u) : ∀ X us, AllIns o l → IsOfs C M l X us → IsOfs C (o.map (mt M)) (rns o l) X us := by
  induction l with
  | nil =>
    intro X us _ hu
    rw [rns]
    cases us with
    | nil => rw [IsOfs]; trivial
    | cons u us => rw [IsOfs] at hu; exact hu.elim
  | cons t l ih =>
    intro X us ha hu
    rw [AllIns] at ha
    rw [rns]
    cases us with
    | nil => simp [IsOfs] at hu
    | cons u us =>
      rw [IsOfs] at hu ⊢
      exact ⟨h t (by simp) X u ha.1 hu.1, ih (fun v hv => h v (by simp [hv])) X us ha.2 hu.2⟩
theorem isOf_rn (ho : ∀ x ∈ o, 0 ≤ x ∧ x < M.length) (t : Tm) : ∀ X u, AllIn o t → IsOf C M t X u → IsOf C (o.map (mt M)) (rn o t) X u := by
  induction t using Tm.ind with
  | h b k i a ih =>
    intro X u ha hu
    rw [allIn_eq] at ha
    rw [rn_eq]
    obtain ⟨h1, h, h2, h3, h4⟩ := isOf_mk.1 hu
    exact isOf_mk.2 ⟨h1, h, by rw [head_rn ho ha.1]; exact h2, h3, isOfs_rn_of ih _ _ ha.2 h4⟩
/-! patterns -/
mutual
def K0 : Tm → Prop
  | .mk _ k _ a => k ≠ 2 ∧ K0s a
def K0s : List Tm → Prop
  | [] => True
  | t :: l => K0 t ∧ K0s l
end
theorem k0_eq (b : List Ty) (k i : Int) (a : List Tm) : K0 (.mk b k i a) ↔ k ≠ 2 ∧ K0s a := by rw [K0]
theorem rns_k0_of {f : List Int} {l : List Tm} (h : ∀ t ∈ l, K0 t → rn f t = t) : K0s l → rns f l = l := by
  induction l with
  | nil => intro _; simp [rns]
  | cons t l ih =>
    intro hk
    rw [K0s] at hk
    rw [rns, h t (by simp) hk.1, ih (fun u hu => h u (by simp [hu])) hk.2]
theorem rn_k0 (f : List Int) (t : Tm) : K0 t → rn f t = t := by
  induction t using Tm.ind with
  | h b k i a ih =>
    intro hk
    rw [k0_eq] at hk
    rw [rn_eq, if_neg fun h => hk.1 h.1, rns_k0_of ih hk.2]
theorem rns_k0 (f : List Int) (l : List Tm) : K0s l → rns f l = l := rns_k0_of fun t _ => rn_k0 f t
theorem k0s_of {f : List Int} {l : List Tm} (h : ∀ t ∈ l, K0 (rn f t) → K0 t) : K0s (rns f l) → K0s l := by
  induction l with
  | nil => intro _; simp [K0s]
  | cons t l ih =>
    intro hk
    rw [rns, K0s] at hk
    rw [K0s]
    exact ⟨h t (by simp) hk.1, ih (fun u hu => h u (by simp [hu])) hk.2⟩
theorem k0_of (f : List Int) (t : Tm) : K0 (rn f t) → K0 t := by
  induction t using Tm.ind with
  | h b k i a ih =>
    intro hk
    rw [rn_eq, k0_eq] at hk
    exact (k0_eq ..).2 ⟨hk.1, k0s_of ih hk.2⟩
theorem etas_k0_of {l : List Ty} (h : ∀ t ∈ l, ∀ i, K0 (Ty.eta t 0 i)) : K0s (Ty.etas l) := by
  induction l with
  | nil => simp [Ty.etas, K0s]
  | cons t l ih =>
    rw [Ty.etas, K0s]
    exact ⟨h t (by simp) _, ih fun u hu => h u (by simp [hu])⟩
theorem eta_k0 (t : Ty) : ∀ i, K0 (Ty.eta t 0 i) := by
  induction t using Ty.ind with
  | h l b ih =>
    intro i
    rw [Ty.eta_eq, k0_eq]
    exact ⟨by decide, etas_k0_of ih⟩
theorem rns_etas (f : List Int) (a : List Tm) (b : List Ty) : rns f a = Ty.etas b ↔ a = Ty.etas b := by
  constructor
  · intro h
    have h1 : K0s (rns f a) := by rw [h]; exact etas_k0_of fun t _ => eta_k0 t
    rw [← rns_k0 f a (k0s_of (fun t _ => k0_of f t) h1), h]
  · rintro rfl; exact rns_k0 f _ (etas_k0_of fun t _ => eta_k0 t)
theorem isVar_rn (f : List Int) (n : Int) (acc : List Int) (t : Tm) : Pn.isVar n acc (rn f t) = Pn.isVar n acc t ∧ (Pn.isVar n acc t = true → (rn f t).headIx = t.headIx) := by
  obtain ⟨b, k, i, a⟩ := t
  rw [rn_eq]
  by_cases hk : k = 0
  · subst hk
    rw [if_neg (fun h => absurd h.1 (by decide))]
    refine ⟨?_, fun _ => rfl⟩
    have e : longB (.mk b 0 i (rns f a)) = longB (.mk b 0 i a) := by
      unfold longB
      have : decide (rns f a = Ty.etas b) = decide (a = Ty.etas b) := by rw [decide_eq_decide]; exact rns_etas f a b
      show (decide (rns f a = Ty.etas b) && _) = (decide (a = Ty.etas b) && _)
      rw [this]; rfl
    unfold Pn.isVar
    rw [e]; rfl
  · have h1 : ∀ (x : Int) (c : List Tm), Pn.isVar n acc (.mk b k x c) = false := fun x c => by
      unfold Pn.isVar
      rw [show decide ((Tm.mk b k x c).kind = 0) = false from decide_eq_false hk, Bool.false_and, Bool.and_false]
    rw [h1, h1]
    exact ⟨rfl, fun h => by cases h⟩
theorem varsL_rn (f : List Int) (n : Int) : ∀ (l : List Tm) (acc : List Int), Pn.varsL n (rns f l) acc = Pn.varsL n l acc
  | [], acc => by rw [rns]
  | t :: l, acc => by
    obtain ⟨h1, h2⟩ := isVar_rn f n acc t
    rw [rns, Pn.varsL, Pn.varsL, h1]
    by_cases hv : Pn.isVar n acc t = true
    · rw [if_pos hv, if_pos hv, h2 hv, varsL_rn f n l]
    · rw [if_neg hv, if_neg hv]
theorem usess_rn_of {f : List Int} {l : List Tm} (h : ∀ t ∈ l, ∀ ar p, (Pn.uses (rn f t) ar p).2 = (Pn.uses t ar p).2) : ∀ ar p j, (Pn.usess (rns f l) ar p j).2 = (Pn.usess l ar p j).2 := by
  induction l with
  | nil => intro ar p j; rw [rns]
  | cons t l ih =>
    intro ar p j
    rw [rns, Pn.usess, Pn.usess, h t (by simp)]
    split
    · exact ih (fun u hu => h u (by simp [hu])) ar p (j + 1)
    · rfl
theorem uses_rn (f : List Int) (t : Tm) : ∀ ar p, (Pn.uses (rn f t) ar p).2 = (Pn.uses t ar p).2 := by
  induction t using Tm.ind with
  | h b k i a ih =>
    intro ar p
    rw [rn_eq, Pn.uses_eq, Pn.uses_eq, varsL_rn]
    by_cases hk : k = 2
    · rw [if_pos hk, if_pos hk]
      cases Pn.varsL ((ar ++ b).length : Nat) a [] <;> rfl
    · rw [if_neg hk, if_neg hk]
      exact usess_rn_of ih _ _ _
/-! which metavariables -/
def g (f : List Int) (x : Int) : Int := if x ∈ f then (ix x f : Int) else x
theorem metasP_app (a b : List (Nat × Nat × Tm)) : metasP (a ++ b) = metasP a ++ metasP b := List.filterMap_append ..
theorem metasP_rn_of {f : List Int} {l : List Tm} (h : ∀ t ∈ l, ∀ s d, metasP ((rn f t).pre s d) = (metasP (t.pre s d)).map (g f)) : ∀ s d, metasP (Tm.pres (rns f l) s d) = (metasP (Tm.pres l s d)).map (g f) := by
  induction l with
  | nil => intro s d; simp [rns, Tm.pres, metasP]
  | cons t l ih =>
    intro s d
    rw [rns, Tm.pres, Tm.pres, metasP_app, metasP_app, h t (by simp), ih (fun u hu => h u (by simp [hu])), List.map_append]
theorem metasP_rn (f : List Int) (t : Tm) : ∀ s d, metasP ((rn f t).pre s d) = (metasP (t.pre s d)).map (g f) := by
  induction t using Tm.ind with
  | h b k i a ih =>
    intro s d
    have h := metasP_rn_of ih (s + b.length) (d + 1)
    rw [rn_eq, Tm.pre_eq, Tm.pre_eq]
    unfold metasP at h ⊢
    rw [List.filterMap_cons, List.filterMap_cons]
    by_cases hk : k = 2
    · simp only [kindT, indexT, hk, if_true, true_and, List.map_cons]
      rw [h]; rfl
    · simp only [kindT, hk, if_false]
      exact h
theorem metasL_rn (f : List Int) (t : Tm) : metasL [rn f t] = (metasL [t]).map (g f) := by
  unfold metasL
  simp only [List.flatMap_cons, List.flatMap_nil, List.append_nil]
  exact metasP_rn f t 0 1
/-! a rule stays a rule -/
theorem own_good {b : Int} {p : Li.Pr} (hg : Good b C p) (h0 : (own p).2 = 0) (hc : chk p = 0) : Good b C (own p).1 ∧ chk (own p).1 = 0 := by
  obtain ⟨o, ho⟩ : ∃ o, (tr p.r (tr p.l []).1).1 = o := ⟨_, rfl⟩
  have e := own_eq p o ho
  have hb : o.any (bad p.m) = false := by
    cases h : o.any (bad p.m) with
    | false => rfl
    | true => rw [e, if_pos h] at h0; cases h0
  rw [if_neg (by rw [hb]; simp)] at e
  have hin : ∀ x ∈ o, 0 ≤ x ∧ x < p.m.length := fun x hx => by
    have := List.any_eq_false.1 hb x hx
    unfold bad at this
    rw [decide_eq_true_eq] at this
    omega
  obtain ⟨s2, hs2⟩ := tr_pre p.r (tr p.l []).1
  have aL : AllIn o p.l := tr_in p.l [] o ⟨s2, by rw [← ho, hs2]⟩
  have aR : AllIn o p.r := tr_in p.r (tr p.l []).1 o ⟨[], by rw [ho]; simp⟩
  have nd : o.Nodup := by rw [← ho]; exact tr_nodup _ _ (tr_nodup _ _ (by simp))
  obtain ⟨hw, hl, hr, u, hu, hua, hi1, hi2⟩ := hg
  have hk : p.l.kind = 1 := by
    unfold chk at hc
    by_cases h : p.l.kind = 1
    · exact h
    · rw [if_pos h] at hc; cases hc
  have hus : (Pn.uses p.l [] []).2 = true := by
    unfold chk at hc
    rw [if_neg (by simp [hk])] at hc
    cases h : (Pn.uses p.l [] []).2 with
    | true => rfl
    | false => rw [if_pos h] at hc; cases hc
  have hno : ¬ ∃ x ∈ metasL [p.r], x ∉ metasL [p.l] := by
    rw [chk_at hk hus] at hc
    intro h; rw [if_pos h] at hc; cases hc
  rw [e]
  dsimp only
  have hkr : (rn o p.l).kind = 1 := by rw [← hk]; generalize p.l = t; obtain ⟨_, _, _, _⟩ := t; rw [rn_eq]; rfl
  refine ⟨⟨⟨?_, ?_⟩, ?_, ?_, u, ?_, hua, isOf_rn hin p.l [] u aL hi1, isOf_rn hin p.r [] u aR hi2⟩, ?_⟩
  · have h1 := nodup_le o (rg p.m.length) nd fun x hx => (rg_mem _ _).2 (hin x hx)
    rw [rg_len] at h1
    rw [List.length_map]
    have := hw.1; omega
  · intro t ht
    rcases List.mem_append.1 ht with ht | ht
    · exact hw.2 t (List.mem_append_left _ ht)
    · obtain ⟨x, hx, rfl⟩ := List.mem_map.1 ht
      obtain ⟨h0, h1⟩ := hin x hx
      obtain ⟨n, rfl⟩ := Int.eq_ofNat_of_zero_le h0
      rw [mt_at (show n < p.m.length by omega)]
      exact hw.2 _ (List.mem_append_right _ (List.getElem_mem _))
  · show Li.rt (rn o p.l) = true
    rw [rn_rt]; exact hl
  · show Li.rt (rn o p.r) = true
    rw [rn_rt]; exact hr
  · show tyOf C (o.map (mt p.m)) (rn o p.l) = some u
    rw [← hu]
    generalize p.l = t at hk aL
    obtain ⟨tb, tk, ti, ta⟩ := t
    rw [allIn_eq] at aL
    rw [rn_eq]
    unfold tyOf
    show Option.map _ (headTy C (o.map (mt p.m)) ([] ++ tb) tk (if tk = 2 ∧ ti ∈ o then (ix ti o : Int) else ti)) = Option.map _ (headTy C p.m ([] ++ tb) tk ti)
    rw [head_rn hin aL.1]; rfl
  · rw [chk_at hkr (by show (Pn.uses (rn o p.l) [] []).2 = true; rw [uses_rn]; exact hus), if_neg]
    rintro ⟨y, hy, hn⟩
    rw [show metasL [(⟨rn o p.l, rn o p.r, o.map (mt p.m)⟩ : Li.Pr).r] = (metasL [p.r]).map (g o) from metasL_rn o p.r] at hy
    rw [show metasL [(⟨rn o p.l, rn o p.r, o.map (mt p.m)⟩ : Li.Pr).l] = (metasL [p.l]).map (g o) from metasL_rn o p.l] at hn
    obtain ⟨x, hx, rfl⟩ := List.mem_map.1 hy
    exact hno ⟨x, hx, fun h => hn (List.mem_map.2 ⟨x, h, rfl⟩)⟩
end Ru
end Go.Proofs.YtdmiekaeodcehaaGreat

namespace Go.Proofs.YtdmiekaeodcehaaGreat
open Go.RowKit
def TRS_38 : TI := ⟨9, true, [Value.slice none 0 0, Value.int IntKind.i64 0, Value.int IntKind.i64 0, Value.slice none 0 0, Value.slice none 0 0, Value.int IntKind.i64 0, Value.int IntKind.i64 0, Value.slice none 0 0, Value.slice none 0 0], [(0, 4, true), (4, 4, true), (8, 1, false)], none, 152, 6, none, false⟩
theorem TRS_38_ok : TypOk Tryz.prog 38 TRS_38 := ⟨by kernel_rfl, by kernel_rfl, by kernel_rfl, by kernel_rfl, by kernel_rfl⟩
def TRS_29 : TI := ⟨9, true, [Value.slice none 0 0, Value.int IntKind.i64 0, Value.int IntKind.i64 0, Value.slice none 0 0, Value.slice none 0 0, Value.int IntKind.i64 0, Value.int IntKind.i64 0, Value.slice none 0 0, Value.slice none 0 0], [(0, 4, true), (4, 4, true), (8, 1, false)], none, 152, 6, none, false⟩
theorem TRS_29_ok : TypOk Tryz.prog 29 TRS_29 := ⟨by kernel_rfl, by kernel_rfl, by kernel_rfl, by kernel_rfl, by kernel_rfl⟩
def TRS_36 : TI := ⟨4, true, [Value.slice none 0 0, Value.int IntKind.i64 0, Value.int IntKind.i64 0, Value.slice none 0 0], [(0, 1, false), (1, 2, true), (3, 1, false)], none, 64, 6, none, false⟩
theorem TRS_36_ok : TypOk Tryz.prog 36 TRS_36 := ⟨by kernel_rfl, by kernel_rfl, by kernel_rfl, by kernel_rfl, by kernel_rfl⟩
def TRS_32 : TI := ⟨1, false, [Value.slice none 0 0], [], some 75, 24, 5, none, false⟩
theorem TRS_32_ok : TypOk Tryz.prog 32 TRS_32 := ⟨by kernel_rfl, by kernel_rfl, by kernel_rfl, by kernel_rfl, by kernel_rfl⟩
def TRS_75 : TI := ⟨2, true, [Value.slice none 0 0, Value.int IntKind.i64 0], [(0, 1, false), (1, 1, false)], none, 32, 6, none, false⟩
theorem TRS_75_ok : TypOk Tryz.prog 75 TRS_75 := ⟨by kernel_rfl, by kernel_rfl, by kernel_rfl, by kernel_rfl, by kernel_rfl⟩
def TRS_27 : TI := ⟨4, true, [Value.slice none 0 0, Value.int IntKind.i64 0, Value.int IntKind.i64 0, Value.slice none 0 0], [(0, 1, false), (1, 2, true), (3, 1, false)], none, 64, 6, none, false⟩
theorem TRS_27_ok : TypOk Tryz.prog 27 TRS_27 := ⟨by kernel_rfl, by kernel_rfl, by kernel_rfl, by kernel_rfl, by kernel_rfl⟩
def TRS_22 : TI := ⟨1, false, [Value.slice none 0 0], [], some 91, 24, 5, none, false⟩
theorem TRS_22_ok : TypOk Tryz.prog 22 TRS_22 := ⟨by kernel_rfl, by kernel_rfl, by kernel_rfl, by kernel_rfl, by kernel_rfl⟩
def TRS_91 : TI := ⟨2, true, [Value.slice none 0 0, Value.int IntKind.i64 0], [(0, 1, false), (1, 1, false)], none, 32, 6, none, false⟩
theorem TRS_91_ok : TypOk Tryz.prog 91 TRS_91 := ⟨by kernel_rfl, by kernel_rfl, by kernel_rfl, by kernel_rfl, by kernel_rfl⟩
def TRS : List (Nat × TI) := [(38, TRS_38), (29, TRS_29), (36, TRS_36), (32, TRS_32), (75, TRS_75), (27, TRS_27), (22, TRS_22), (91, TRS_91)]
theorem TRS_ok : TabOk Tryz.prog TRS := (((((((((TabOk.nil _).cons TRS_91_ok).cons TRS_22_ok).cons TRS_27_ok).cons TRS_75_ok).cons TRS_32_ok).cons TRS_36_ok).cons TRS_29_ok).cons TRS_38_ok)
namespace Ru
def swap (p : Li.Pr) : Li.Pr := ⟨p.r, p.l, p.m⟩
theorem swap_at (p : Li.Pr) : ePr (swap p) = [.sl 2 (eTys p.r.binds) none, .v (.int .i64 p.r.kind), .v (.int .i64 p.r.index), .sl 4 (eTms p.r.args) none, .sl 2 (eTys p.l.binds) none, .v (.int .i64 p.l.kind), .v (.int .i64 p.l.index), .sl 4 (eTms p.l.args) none, .sl 2 (eTys p.m) none] := rfl
end Ru
theorem rutypes_d (M : List Ty) (h : Ty.sizes M ≤ 800000) : PureC Tryz.prog 73 [.sl 2 (eTys M) none] (.sl 2 (eTys M) none) := by
 have ha := arrow_d (.mk [] 0) M (by rw [ty_size]; simp [Ty.sizes]; omega)
 simp only [eTy_eq, args_mk', base_mk', List.append_nil] at ha
 refine calldw 0 7 [ResultVar.tmp 2] TRS_ok Tryz.func73 rfl Tryz.ntmps73 rfl fun cx hnt hn0 => ?_
 ·skip
  refine dw_seq ?_; refine dwk [] TRS_ok hnt fun K hK => ?_; refine hK _ _ ?_; clear hK K; refine dw_seq ?_; refine dwk [(3, .ag [.sl 2 (eTys []) none, .v (.int .i64 0)])] TRS_ok hnt fun K hK => ?_; refine And.intro (auV) ?_; refine dcl (ha) ?_; refine hK _ _ ?_; clear hK K; refine dw_ret ?_
  exact reta rfl
theorem rucopied_d (p : Li.Pr) (h1 : p.l.full ≤ 900000 ∧ p.l.Fit) (h2 : p.r.full ≤ 900000 ∧ p.r.Fit) (h3 : Ty.sizes p.m ≤ 800000) : PureC Tryz.prog 82 [.ag (ePr p)] (.ag (ePr p)) := by
 have c1 := copyW_d p.l h1.1 h1.2
 have c2 := copyW_d p.r h2.1 h2.2
 have c3 := rutypes_d p.m h3
 rw [eTm_eq] at c1 c2
 rw [ePr_at]
 refine calldw 0 13 [ResultVar.cell 2 38] TRS_ok Tryz.func82 rfl Tryz.ntmps82 rfl fun cx hnt hn0 => ?_
 ·skip
  refine dw_seq ?_; refine dwk [] TRS_ok hnt fun K hK => ?_; refine hK _ _ ?_; clear hK K; refine dw_seq ?_; refine dwkD [] TRS_ok hnt fun K hK => ?_; refine dcl (c1) ?_; refine dcl (c2) ?_; refine dcl (c3) ?_; refine hK _ _ (by kernel_rfl) ?_; clear hK K; refine dw_ret ?_
  exact reta rfl
theorem ruswap_d (p : Li.Pr) (h1 : p.l.full ≤ 900000 ∧ p.l.Fit) (h2 : p.r.full ≤ 900000 ∧ p.r.Fit) (h3 : Ty.sizes p.m ≤ 800000) : PureC Tryz.prog 32 [.ag (ePr p)] (.ag (ePr (Ru.swap p))) := by
 have c := rucopied_d (Ru.swap p) h2 h1 h3
 rw [Ru.swap_at] at c ⊢
 rw [ePr_at]
 refine calldw 0 11 [ResultVar.cell 2 38] TRS_ok Tryz.func32 rfl Tryz.ntmps32 rfl fun cx hnt hn0 => ?_
 ·skip
  refine dw_seq ?_; refine dwk [] TRS_ok hnt fun K hK => ?_; refine hK _ _ ?_; clear hK K; refine dw_seq ?_; refine dwk [] TRS_ok hnt fun K hK => ?_; refine dcl (c) ?_; refine hK _ _ ?_; clear hK K; refine dw_ret ?_
  exact reta rfl
theorem rswap_d (p : Li.Pr) : PureC Tryz.prog 33 [.ag (ePr p)] (.ag (ePr (Ru.swap p))) := by
 rw [Ru.swap_at, ePr_at]
 refine calldw 0 10 [ResultVar.cell 2 29] TRS_ok Tryz.func33 rfl Tryz.ntmps33 rfl fun cx hnt hn0 => ?_
 ·skip
  refine dw_seq ?_; refine dwk [] TRS_ok hnt fun K hK => ?_; refine hK _ _ ?_; clear hK K; refine dw_seq ?_; refine dwk [] TRS_ok hnt fun K hK => ?_; refine hK _ _ ?_; clear hK K; refine dw_ret ?_
  exact reta rfl
end Go.Proofs.YtdmiekaeodcehaaGreat

namespace Go.Proofs.YtdmiekaeodcehaaGreat
open Go.RowKit
def TRM_29 : TI := ⟨9, true, [Value.slice none 0 0, Value.int IntKind.i64 0, Value.int IntKind.i64 0, Value.slice none 0 0, Value.slice none 0 0, Value.int IntKind.i64 0, Value.int IntKind.i64 0, Value.slice none 0 0, Value.slice none 0 0], [(0, 4, true), (4, 4, true), (8, 1, false)], none, 152, 6, none, false⟩
theorem TRM_29_ok : TypOk Tryz.prog 29 TRM_29 := ⟨by kernel_rfl, by kernel_rfl, by kernel_rfl, by kernel_rfl, by kernel_rfl⟩
def TRM_38 : TI := ⟨9, true, [Value.slice none 0 0, Value.int IntKind.i64 0, Value.int IntKind.i64 0, Value.slice none 0 0, Value.slice none 0 0, Value.int IntKind.i64 0, Value.int IntKind.i64 0, Value.slice none 0 0, Value.slice none 0 0], [(0, 4, true), (4, 4, true), (8, 1, false)], none, 152, 6, none, false⟩
theorem TRM_38_ok : TypOk Tryz.prog 38 TRM_38 := ⟨by kernel_rfl, by kernel_rfl, by kernel_rfl, by kernel_rfl, by kernel_rfl⟩
def TRM_48 : TI := ⟨3, true, [Value.int IntKind.i64 0, Value.slice none 0 0, Value.slice none 0 0], [(0, 1, false), (1, 1, false), (2, 1, false)], none, 56, 6, none, false⟩
theorem TRM_48_ok : TypOk Tryz.prog 48 TRM_48 := ⟨by kernel_rfl, by kernel_rfl, by kernel_rfl, by kernel_rfl, by kernel_rfl⟩
def TRM_54 : TI := ⟨3, true, [Value.int IntKind.i64 0, Value.slice none 0 0, Value.slice none 0 0], [(0, 1, false), (1, 1, false), (2, 1, false)], none, 56, 6, none, false⟩
theorem TRM_54_ok : TypOk Tryz.prog 54 TRM_54 := ⟨by kernel_rfl, by kernel_rfl, by kernel_rfl, by kernel_rfl, by kernel_rfl⟩
def TRM_57 : TI := ⟨1, false, [Value.slice none 0 0], [], some 38, 24, 5, none, false⟩
theorem TRM_57_ok : TypOk Tryz.prog 57 TRM_57 := ⟨by kernel_rfl, by kernel_rfl, by kernel_rfl, by kernel_rfl, by kernel_rfl⟩
def TRM_3 : TI := ⟨1, false, [Value.int IntKind.i64 0], [], none, 8, 2, none, false⟩
theorem TRM_3_ok : TypOk Tryz.prog 3 TRM_3 := ⟨by kernel_rfl, by kernel_rfl, by kernel_rfl, by kernel_rfl, by kernel_rfl⟩
def TRM_59 : TI := ⟨1, false, [Value.slice none 0 0], [], some 29, 24, 5, none, false⟩
theorem TRM_59_ok : TypOk Tryz.prog 59 TRM_59 := ⟨by kernel_rfl, by kernel_rfl, by kernel_rfl, by kernel_rfl, by kernel_rfl⟩
def TRM_32 : TI := ⟨1, false, [Value.slice none 0 0], [], some 75, 24, 5, none, false⟩
theorem TRM_32_ok : TypOk Tryz.prog 32 TRM_32 := ⟨by kernel_rfl, by kernel_rfl, by kernel_rfl, by kernel_rfl, by kernel_rfl⟩
def TRM_22 : TI := ⟨1, false, [Value.slice none 0 0], [], some 91, 24, 5, none, false⟩
theorem TRM_22_ok : TypOk Tryz.prog 22 TRM_22 := ⟨by kernel_rfl, by kernel_rfl, by kernel_rfl, by kernel_rfl, by kernel_rfl⟩
def TRM_39 : TI := ⟨1, false, [Value.int IntKind.i64 0], [], none, 8, 2, none, false⟩
theorem TRM_39_ok : TypOk Tryz.prog 39 TRM_39 := ⟨by kernel_rfl, by kernel_rfl, by kernel_rfl, by kernel_rfl, by kernel_rfl⟩
def TRM_91 : TI := ⟨2, true, [Value.slice none 0 0, Value.int IntKind.i64 0], [(0, 1, false), (1, 1, false)], none, 32, 6, none, false⟩
theorem TRM_91_ok : TypOk Tryz.prog 91 TRM_91 := ⟨by kernel_rfl, by kernel_rfl, by kernel_rfl, by kernel_rfl, by kernel_rfl⟩
def TRM_75 : TI := ⟨2, true, [Value.slice none 0 0, Value.int IntKind.i64 0], [(0, 1, false), (1, 1, false)], none, 32, 6, none, false⟩
theorem TRM_75_ok : TypOk Tryz.prog 75 TRM_75 := ⟨by kernel_rfl, by kernel_rfl, by kernel_rfl, by kernel_rfl, by kernel_rfl⟩
def TRM : List (Nat × TI) := [(29, TRM_29), (38, TRM_38), (48, TRM_48), (54, TRM_54), (57, TRM_57), (3, TRM_3), (59, TRM_59), (32, TRM_32), (22, TRM_22), (39, TRM_39), (91, TRM_91), (75, TRM_75)]
theorem TRM_ok : TabOk Tryz.prog TRM := (((((((((((((TabOk.nil _).cons TRM_75_ok).cons TRM_91_ok).cons TRM_39_ok).cons TRM_22_ok).cons TRM_32_ok).cons TRM_59_ok).cons TRM_3_ok).cons TRM_57_ok).cons TRM_54_ok).cons TRM_48_ok).cons TRM_38_ok).cons TRM_29_ok)
namespace Ru
def stp (out : List Li.Pr) (q : Li.Pr) (k : Int) : List Li.Pr := if (own q).2 = 0 ∧ k = 0 ∧ ¬ (out.head? = some (own q).1) then out ++ [(own q).1] else out
def ords (p : Li.Pr) (kp ks : Int) : List Li.Pr := stp (stp [] p kp) (swap p) ks
theorem stp_mem {out : List Li.Pr} {q : Li.Pr} {k : Int} {x : Li.Pr} (h : x ∈ stp out q k) : x ∈ out ∨ (x = (own q).1 ∧ (own q).2 = 0 ∧ k = 0) := by
  unfold stp at h
  split at h
  · rename_i hc
    rcases List.mem_append.1 h with h | h
    · exact .inl h
    · exact .inr ⟨List.mem_singleton.1 h, hc.1, hc.2.1⟩
  · exact .inl h
theorem stp_len (out : List Li.Pr) (q : Li.Pr) (k : Int) : (stp out q k).length ≤ out.length + 1 := by
  unfold stp; split
  · simp
  · omega
theorem ords_len (p : Li.Pr) (kp ks : Int) : (ords p kp ks).length ≤ 2 := by
  have h1 := stp_len [] p kp
  have h2 := stp_len (stp [] p kp) (swap p) ks
  unfold ords
  simp at h1; omega
end Ru
theorem ePrs_append (l r : List Li.Pr) : ePrs (l ++ r) = ePrs l ++ ePrs r := List.map_append ..
theorem ePrs_one (x : Li.Pr) : ePrs [x] = [[.sl 2 (eTys x.l.binds) none, .v (.int .i64 x.l.kind), .v (.int .i64 x.l.index), .sl 4 (eTms x.l.args) none, .sl 2 (eTys x.r.binds) none, .v (.int .i64 x.r.kind), .v (.int .i64 x.r.index), .sl 4 (eTms x.r.args) none, .sl 2 (eTys x.m) none]] := rfl
theorem ePrs_snoc (l : List Li.Pr) (x : Li.Pr) : ePrs l ++ [[.sl 2 (eTys x.l.binds) none, .v (.int .i64 x.l.kind), .v (.int .i64 x.l.index), .sl 4 (eTms x.l.args) none, .sl 2 (eTys x.r.binds) none, .v (.int .i64 x.r.kind), .v (.int .i64 x.r.index), .sl 4 (eTms x.r.args) none, .sl 2 (eTys x.m) none]] = ePrs (l ++ [x]) := by rw [ePrs_append, ePrs_one]
theorem twd_d (b : Int) (C M : List Ty) (h1 : Ty.sizes C ≤ 900000) (h2 : Ty.sizes M ≤ 900000) : PureC Tryz.prog 20 [.ag [.v (.int .i64 b), .sl 2 (eTys C) none, .sl 2 (eTys M) none]] (.ag [.v (.int .i64 b), .sl 2 (eTys C) none, .sl 2 (eTys M) none]) := by
 have hC := toTys_d C h1
 have hM := toTys_d M h2
 refine calldw 0 12 [ResultVar.cell 2 48] TRM_ok Tryz.func20 rfl Tryz.ntmps20 rfl fun cx hnt hn0 => ?_
 ·skip
  refine dw_seq ?_; refine dwk [] TRM_ok hnt fun K hK => ?_; refine hK _ _ ?_; clear hK K; refine dw_seq ?_; refine dwkD [] TRM_ok hnt fun K hK => ?_; refine dcl (hC) ?_; refine dcl (hM) ?_; refine hK _ _ (by kernel_rfl) ?_; clear hK K; refine dw_ret ?_
  exact reta rfl
theorem ruworld_d (b : Int) (C Mw : List Ty) (p : Li.Pr) (h1 : Ty.sizes C ≤ 800000) (h2 : Ty.sizes p.m ≤ 800000) : PureC Tryz.prog 27 [.ag [.v (.int .i64 b), .sl 2 (eTys C) none, .sl 2 (eTys Mw) none], .ag (ePr p)] (.ag [.v (.int .i64 b), .sl 2 (eTys C) none, .sl 2 (eTys p.m) none]) := by
 have hC := rutypes_d C h1
 have hM := rutypes_d p.m h2
 rw [ePr_at]
 refine calldw 0 14 [ResultVar.cell 4 48] TRM_ok Tryz.func27 rfl Tryz.ntmps27 rfl fun cx hnt hn0 => ?_
 ·skip
  refine dw_seq ?_; refine dwk [] TRM_ok hnt fun K hK => ?_; refine hK _ _ ?_; clear hK K; refine dw_seq ?_; refine dwkD [] TRM_ok hnt fun K hK => ?_; refine dcl (hC) ?_; refine dcl (hM) ?_; refine hK _ _ (by kernel_rfl) ?_; clear hK K; refine dw_ret ?_
  exact reta rfl
set_option maxHeartbeats 4000000 in
theorem ruorders_d (b : Int) (C Mw : List Ty) (p : Li.Pr) (kp ks : Int) (hl : p.l.full ≤ 100000 ∧ p.l.Fit) (hr : p.r.full ≤ 100000 ∧ p.r.Fit) (hm : ∀ t ∈ p.m, t.size ≤ 100000) (hml : Ty.sizes p.m ≤ 800000)
  (hp : PureC Tryz.prog 25 [.ag [.v (.int .i64 b), .sl 2 (eTys C) none, .sl 2 (eTys Mw) none], .ag (ePr p)] (.v (.int .i64 kp)))
  (hs : PureC Tryz.prog 25 [.ag [.v (.int .i64 b), .sl 2 (eTys C) none, .sl 2 (eTys Mw) none], .ag (ePr (Ru.swap p))] (.v (.int .i64 ks))) :
  PureC Tryz.prog 21 [.ag [.v (.int .i64 b), .sl 2 (eTys C) none, .sl 2 (eTys Mw) none], .ag (ePr p)] (.sl 9 (ePrs (Ru.ords p kp ks)) none) := by
 have hml2 : p.m.length ≤ 900000 := by have := Ty.le_sizes p.m; omega
 have o1 := ruown_d p hl hr hm hml2
 have o2 := ruown_d (Ru.swap p) hr hl hm hml2
 have hsw := ruswap_d p ⟨by omega, hl.2⟩ ⟨by omega, hr.2⟩ hml
 obtain ⟨Q, hQ⟩ : ∃ Q : Nat → Li.Pr, Q = fun j => if j = 0 then p else Ru.swap p := ⟨_, rfl⟩
 obtain ⟨K, hK0⟩ : ∃ K : Nat → Int, K = fun j => if j = 0 then kp else ks := ⟨_, rfl⟩
 obtain ⟨O, hO⟩ : ∃ O : Nat → List Li.Pr, O = fun j => if j = 0 then [] else if j = 1 then Ru.stp [] p kp else Ru.ords p kp ks := ⟨_, rfl⟩
 have hOs : ∀ j, j < 2 → O (j + 1) = Ru.stp (O j) (Q j) (K j) := fun j hj => by
  subst hO hQ hK0
  match j, hj with
  | 0, _ => rfl
  | 1, _ => rfl
 have hO2 : O 2 = Ru.ords p kp ks := by subst hO; rfl
 have hO0 : O 0 = [] := by subst hO; rfl
 have hOl : ∀ j, j ≤ 2 → (O j).length ≤ 2 := fun j hj => by
  subst hO
  match j, hj with
  | 0, _ => simp
  | 1, _ => have := Ru.stp_len [] p kp; simp at this ⊢; omega
  | 2, _ => exact Ru.ords_len p kp ks
 have hQo : ∀ j, j < 2 → PureC Tryz.prog 8 [.ag (ePr (Q j))] (.tu [.ag (ePr (Ru.own (Q j)).1), .v (.int .i64 (Ru.own (Q j)).2)]) := fun j hj => by
  subst hQ
  match j, hj with
  | 0, _ => exact o1
  | 1, _ => exact o2
 have hQc : ∀ j, j < 2 → PureC Tryz.prog 25 [.ag [.v (.int .i64 b), .sl 2 (eTys C) none, .sl 2 (eTys Mw) none], .ag (ePr (Q j))] (.v (.int .i64 (K j))) := fun j hj => by
  subst hQ hK0
  match j, hj with
  | 0, _ => exact hp
  | 1, _ => exact hs
 have hQg : ∀ j, j < 2 → (ePrs [p, Ru.swap p]).getD j [] = ePr (Q j) := fun j hj => by
  subst hQ
  match j, hj with
  | 0, _ => rfl
  | 1, _ => rfl
 rw [← hO2]
 clear o1 o2 hp hs hO hQ hK0 hO2
 have e13 : ePrs [p, Ru.swap p] = [[.sl 2 (eTys p.l.binds) none, .v (.int .i64 p.l.kind), .v (.int .i64 p.l.index), .sl 4 (eTms p.l.args) none, .sl 2 (eTys p.r.binds) none, .v (.int .i64 p.r.kind), .v (.int .i64 p.r.index), .sl 4 (eTms p.r.args) none, .sl 2 (eTys p.m) none], [.sl 2 (eTys p.r.binds) none, .v (.int .i64 p.r.kind), .v (.int .i64 p.r.index), .sl 4 (eTms p.r.args) none, .sl 2 (eTys p.l.binds) none, .v (.int .i64 p.l.kind), .v (.int .i64 p.l.index), .sl 4 (eTms p.l.args) none, .sl 2 (eTys p.m) none]] := rfl
 rw [Ru.swap_at] at hsw
 rw [ePr_at] at hsw ⊢
 obtain ⟨qs, hqs⟩ : ∃ qs, [p, Ru.swap p] = qs := ⟨_, rfl⟩
 have hql : qs.length = 2 := by rw [← hqs]; rfl
 rw [hqs] at hQg e13
 clear hqs
 refine calldw 0 50 [ResultVar.tmp 4] TRM_ok Tryz.func21 rfl Tryz.ntmps21 rfl fun cx hnt hn0 => ?_
 ·skip
  refine dw_seq ?_; refine dwk [] TRM_ok hnt fun K hK => ?_; refine hK _ _ ?_; clear hK K; refine dw_seq ?_; refine dwk [] TRM_ok hnt fun K hK => ?_; refine hK _ _ ?_; clear hK K
  refine DW.vs (VS.rowT (x := 5) (by rw [hnt]; decide) 38 9 rfl) ?_
  refine dw_seq ?_; refine dw_seq ?_; refine dwkD [(13, .sl 9 (ePrs qs) none), (14, .v (.int .i64 (2)))] TRM_ok hnt fun K hK => ?_; refine dcl (hsw) ?_; refine And.intro ((by rw [e13]; exact VLe.untag _ _ _)) ?_; refine And.intro (dintE (by rw [ePrs_len, hql]; rfl)) ?_; refine hK _ _ (by kernel_rfl) ?_; clear hK K; refine dw_block ?_
  refine dw_loop (ι := { j : Nat // j ≤ 2 }) (fun j => [(.t 2, .p 0 0), (.c 0 0, .v (.int .i64 b)), (.c 0 1, .sl 2 (eTys C) none), (.c 0 2, .sl 2 (eTys Mw) none), (.t 5, .sl 9 (ePrs (O j.1)) (some 4)), (.r 4, .rw 38 9 (O j.1).length), (.t 13, .sl 9 (ePrs qs) none), (.t 14, .v (.int .i64 2)), (.t 15, .v (.int .i64 ↑j.1))]) 5 (fun j => 2 - j.1) (⟨0, Nat.zero_le _⟩) ((by dsimp only; rw [hO0]; exact VS.toA)) fun j => ?_
  obtain ⟨j, hj⟩ := j
  dsimp only
  by_cases hlt : j < 2
  ·have hst := hOs j hlt
   have hol := hOl j hj
   have hc := hQc j hlt
   have ho := hQo j hlt
   have hg := hQg j hlt
   obtain ⟨q, hq⟩ : ∃ q, Q j = q := ⟨_, rfl⟩
   obtain ⟨k, hk⟩ : ∃ k, K j = k := ⟨_, rfl⟩
   rw [hq] at hst hc ho hg
   rw [hk] at hst hc
   obtain ⟨⟨x, e⟩, hx⟩ : ∃ x, Ru.own q = x := ⟨_, rfl⟩
   unfold Ru.stp at hst
   rw [hx] at ho hst
   dsimp only at ho hst
   rw [ePr_at] at hc hg ho
   rw [ePr_at x] at ho
   have hlq : (ePrs (O j)).length = (O j).length := ePrs_len _
   by_cases he : e = 0
   ·subst he
    by_cases hk0 : k = 0
    ·subst hk0
     by_cases hn : (O j).length = 0
     ·have hn0 : O j = [] := List.length_eq_zero_iff.1 hn
      rw [if_pos ⟨rfl, rfl, by rw [hn0]; simp⟩] at hst; refine dw_seq ?_; refine dwk [(16, .v (.bool true))] TRM_ok hnt fun K hK => ?_; refine And.intro auT ?_; refine hK _ _ ?_; clear hK K; refine dw_seq ?_; refine dw_cond (t := true) rfl ?_; rw [if_pos rfl]; refine dw_skip ?_; refine dw_seq ?_; refine dw_block ?_; refine dw_seq ?_; refine dwk [(17, .q [.sl 2 (eTys q.l.binds) none, .v (.int .i64 q.l.kind), .v (.int .i64 q.l.index), .sl 4 (eTms q.l.args) none, .sl 2 (eTys q.r.binds) none, .v (.int .i64 q.r.kind), .v (.int .i64 q.r.index), .sl 4 (eTms q.r.args) none, .sl 2 (eTys q.m) none])] TRM_ok hnt fun K hK => ?_
      refine And.intro (⟨by omega, by rw [ePrs_len, hql]; omega⟩) ?_; refine And.intro (VLe.of_eq (by rw [Int.toNat_natCast, hg])) ?_; refine hK _ _ ?_; clear hK K; refine dw_seq ?_; refine dwk [] TRM_ok hnt fun K hK => ?_; refine dcl (ho) ?_; refine hK _ _ ?_; clear hK K; refine dw_seq ?_; refine dw_seq ?_; refine dwkD [(25, .v (.bool false)), (30, .v (.bool false)), (34, .v (.int .i64 (↑(O j).length))), (35, .v (.bool false))] TRM_ok hnt fun K hK => ?_
      refine And.intro (bneF rfl) ?_; refine dcl (hc) ?_; refine And.intro (bneF rfl) ?_; refine And.intro (dintE (by rw [ePrs_len])) ?_; refine And.intro auF ?_; refine hK _ _ (by kernel_rfl) ?_; clear hK K; refine dw_cond (t := false) rfl ?_; rw [if_neg (by simp)]; refine dw_skip ?_; refine dwk [(47, .sl 9 (ePrs (O (j + 1))) (some 4))] TRM_ok hnt fun K hK => ?_; refine And.intro (⟨by rw [hlq], by rw [hlq]; simp; omega⟩) ?_
      refine And.intro (VLe.of_eq (by rw [hst, ePrs_snoc])) ?_; refine hK _ _ ?_; clear hK K; refine dwk [(48, .v (.int .i64 (↑(j + 1))))] TRM_ok hnt fun K hK => ?_; refine And.intro auI ?_; refine hK _ _ ?_; clear hK K
      have hl1 : (O j).length + 1 = (O (j + 1)).length := by rw [hst]; simp
      refine ⟨⟨j + 1, hlt⟩, by first | omega | (dsimp only; omega), (by try simp only [List.length_append, List.length_take, List.length_cons, List.length_nil, Nat.zero_add, hlq, hl1]; exact VS.toA)⟩
     ·obtain ⟨y, hy⟩ : ∃ y, (O j).head? = some y := by
       cases hh : O j with
       | nil => rw [hh] at hn; exact absurd rfl hn
       | cons y l => exact ⟨y, rfl⟩
      have hg0 : (ePrs (O j)).getD (0 : Int).toNat [] = [.sl 2 (eTys y.l.binds) none, .v (.int .i64 y.l.kind), .v (.int .i64 y.l.index), .sl 4 (eTms y.l.args) none, .sl 2 (eTys y.r.binds) none, .v (.int .i64 y.r.kind), .v (.int .i64 y.r.index), .sl 4 (eTms y.r.args) none, .sl 2 (eTys y.m) none] := by
       cases hh : O j with
       | nil => rw [hh] at hn; exact absurd rfl hn
       | cons z l => rw [hh] at hy; cases hy; rfl
      have hE := ruequal_d y x
      rw [ePr_at, ePr_at x] at hE
      rw [hy] at hst
      by_cases hyx : y = x
      ·rw [decide_eq_true hyx] at hE
       rw [if_neg (fun h => h.2.2 (by rw [hyx]))] at hst
       rw [← hst]
       refine dw_seq ?_; refine dwk [(16, .v (.bool true))] TRM_ok hnt fun K hK => ?_; refine And.intro auT ?_; refine hK _ _ ?_; clear hK K; refine dw_seq ?_; refine dw_cond (t := true) rfl ?_; rw [if_pos rfl]; refine dw_skip ?_; refine dw_seq ?_; refine dw_block ?_; refine dw_seq ?_; refine dwk [(17, .q [.sl 2 (eTys q.l.binds) none, .v (.int .i64 q.l.kind), .v (.int .i64 q.l.index), .sl 4 (eTms q.l.args) none, .sl 2 (eTys q.r.binds) none, .v (.int .i64 q.r.kind), .v (.int .i64 q.r.index), .sl 4 (eTms q.r.args) none, .sl 2 (eTys q.m) none])] TRM_ok hnt fun K hK => ?_
       refine And.intro (⟨by omega, by rw [ePrs_len, hql]; omega⟩) ?_; refine And.intro (VLe.of_eq (by rw [Int.toNat_natCast, hg])) ?_; refine hK _ _ ?_; clear hK K; refine dw_seq ?_; refine dwk [] TRM_ok hnt fun K hK => ?_; refine dcl (ho) ?_; refine hK _ _ ?_; clear hK K; refine dw_seq ?_; refine dw_seq ?_; refine dwkD [(25, .v (.bool false)), (30, .v (.bool false)), (34, .v (.int .i64 (↑(O (j + 1)).length))), (35, .v (.bool true)), (38, .q [.sl 2 (eTys y.l.binds) none, .v (.int .i64 y.l.kind), .v (.int .i64 y.l.index), .sl 4 (eTms y.l.args) none, .sl 2 (eTys y.r.binds) none, .v (.int .i64 y.r.kind), .v (.int .i64 y.r.index), .sl 4 (eTms y.r.args) none, .sl 2 (eTys y.m) none])] TRM_ok hnt fun K hK => ?_
       refine And.intro (bneF rfl) ?_; refine dcl (hc) ?_; refine And.intro (bneF rfl) ?_; refine And.intro (dintE (by rw [ePrs_len])) ?_; refine And.intro (dtrue (by rw [hst]; omega)) ?_; refine And.intro (⟨by omega, by rw [ePrs_len, hst]; omega⟩) ?_; refine And.intro (VLe.of_eq (by rw [hst, hg0])) ?_; refine dcl (hE) ?_; refine hK _ _ (by kernel_rfl) ?_; clear hK K; refine dw_cond (t := true) rfl ?_; rw [if_pos rfl]
       refine dw_exit ?_; refine dwk [(48, .v (.int .i64 (↑(j + 1))))] TRM_ok hnt fun K hK => ?_; refine And.intro auI ?_; refine hK _ _ ?_; clear hK K
       refine ⟨⟨j + 1, hlt⟩, by first | omega | (dsimp only; omega), VS.toA⟩
      ·rw [decide_eq_false hyx] at hE
       rw [if_pos ⟨rfl, rfl, fun h => hyx (by cases h; rfl)⟩] at hst; refine dw_seq ?_; refine dwk [(16, .v (.bool true))] TRM_ok hnt fun K hK => ?_; refine And.intro auT ?_; refine hK _ _ ?_; clear hK K; refine dw_seq ?_; refine dw_cond (t := true) rfl ?_; rw [if_pos rfl]; refine dw_skip ?_; refine dw_seq ?_; refine dw_block ?_; refine dw_seq ?_; refine dwk [(17, .q [.sl 2 (eTys q.l.binds) none, .v (.int .i64 q.l.kind), .v (.int .i64 q.l.index), .sl 4 (eTms q.l.args) none, .sl 2 (eTys q.r.binds) none, .v (.int .i64 q.r.kind), .v (.int .i64 q.r.index), .sl 4 (eTms q.r.args) none, .sl 2 (eTys q.m) none])] TRM_ok hnt fun K hK => ?_
       refine And.intro (⟨by omega, by rw [ePrs_len, hql]; omega⟩) ?_; refine And.intro (VLe.of_eq (by rw [Int.toNat_natCast, hg])) ?_; refine hK _ _ ?_; clear hK K; refine dw_seq ?_; refine dwk [] TRM_ok hnt fun K hK => ?_; refine dcl (ho) ?_; refine hK _ _ ?_; clear hK K; refine dw_seq ?_; refine dw_seq ?_; refine dwkD [(25, .v (.bool false)), (30, .v (.bool false)), (34, .v (.int .i64 (↑(O j).length))), (35, .v (.bool true)), (38, .q [.sl 2 (eTys y.l.binds) none, .v (.int .i64 y.l.kind), .v (.int .i64 y.l.index), .sl 4 (eTms y.l.args) none, .sl 2 (eTys y.r.binds) none, .v (.int .i64 y.r.kind), .v (.int .i64 y.r.index), .sl 4 (eTms y.r.args) none, .sl 2 (eTys y.m) none])] TRM_ok hnt fun K hK => ?_
       refine And.intro (bneF rfl) ?_; refine dcl (hc) ?_; refine And.intro (bneF rfl) ?_; refine And.intro (dintE (by rw [ePrs_len])) ?_; refine And.intro auT ?_; refine And.intro (⟨by omega, by rw [ePrs_len]; omega⟩) ?_; refine And.intro (VLe.of_eq (by rw [hg0])) ?_; refine dcl (hE) ?_; refine hK _ _ (by kernel_rfl) ?_; clear hK K; refine dw_cond (t := false) rfl ?_; rw [if_neg (by simp)]; refine dw_skip ?_
       refine dwk [(47, .sl 9 (ePrs (O (j + 1))) (some 4))] TRM_ok hnt fun K hK => ?_; refine And.intro (⟨by rw [hlq], by rw [hlq]; simp; omega⟩) ?_; refine And.intro (VLe.of_eq (by rw [hst, ePrs_snoc])) ?_; refine hK _ _ ?_; clear hK K; refine dwk [(48, .v (.int .i64 (↑(j + 1))))] TRM_ok hnt fun K hK => ?_; refine And.intro auI ?_; refine hK _ _ ?_; clear hK K
       have hl1 : (O j).length + 1 = (O (j + 1)).length := by rw [hst]; simp
       refine ⟨⟨j + 1, hlt⟩, by first | omega | (dsimp only; omega), (by try simp only [List.length_append, List.length_take, List.length_cons, List.length_nil, Nat.zero_add, hlq, hl1]; exact VS.toA)⟩
    ·rw [if_neg (fun h => hk0 h.2.1)] at hst
     rw [← hst]
     refine dw_seq ?_; refine dwk [(16, .v (.bool true))] TRM_ok hnt fun K hK => ?_; refine And.intro auT ?_; refine hK _ _ ?_; clear hK K; refine dw_seq ?_; refine dw_cond (t := true) rfl ?_; rw [if_pos rfl]; refine dw_skip ?_; refine dw_seq ?_; refine dw_block ?_; refine dw_seq ?_; refine dwk [(17, .q [.sl 2 (eTys q.l.binds) none, .v (.int .i64 q.l.kind), .v (.int .i64 q.l.index), .sl 4 (eTms q.l.args) none, .sl 2 (eTys q.r.binds) none, .v (.int .i64 q.r.kind), .v (.int .i64 q.r.index), .sl 4 (eTms q.r.args) none, .sl 2 (eTys q.m) none])] TRM_ok hnt fun K hK => ?_
     refine And.intro (⟨by omega, by rw [ePrs_len, hql]; omega⟩) ?_; refine And.intro (VLe.of_eq (by rw [Int.toNat_natCast, hg])) ?_; refine hK _ _ ?_; clear hK K; refine dw_seq ?_; refine dwk [] TRM_ok hnt fun K hK => ?_; refine dcl (ho) ?_; refine hK _ _ ?_; clear hK K; refine dw_seq ?_; refine dw_seq ?_; refine dwkD [(25, .v (.bool false)), (30, .v (.bool true))] TRM_ok hnt fun K hK => ?_; refine And.intro (bneF rfl) ?_
     refine dcl (hc) ?_; refine And.intro (bneT hk0) ?_; refine hK _ _ (by kernel_rfl) ?_; clear hK K; refine dw_cond (t := true) rfl ?_; rw [if_pos rfl]; refine dw_exit ?_; refine dwk [(48, .v (.int .i64 (↑(j + 1))))] TRM_ok hnt fun K hK => ?_; refine And.intro auI ?_; refine hK _ _ ?_; clear hK K
     refine ⟨⟨j + 1, hlt⟩, by first | omega | (dsimp only; omega), VS.toA⟩
   ·rw [if_neg (fun h => he h.1)] at hst
    rw [← hst]
    refine dw_seq ?_; refine dwk [(16, .v (.bool true))] TRM_ok hnt fun K hK => ?_; refine And.intro auT ?_; refine hK _ _ ?_; clear hK K; refine dw_seq ?_; refine dw_cond (t := true) rfl ?_; rw [if_pos rfl]; refine dw_skip ?_; refine dw_seq ?_; refine dw_block ?_; refine dw_seq ?_; refine dwk [(17, .q [.sl 2 (eTys q.l.binds) none, .v (.int .i64 q.l.kind), .v (.int .i64 q.l.index), .sl 4 (eTms q.l.args) none, .sl 2 (eTys q.r.binds) none, .v (.int .i64 q.r.kind), .v (.int .i64 q.r.index), .sl 4 (eTms q.r.args) none, .sl 2 (eTys q.m) none])] TRM_ok hnt fun K hK => ?_
    refine And.intro (⟨by omega, by rw [ePrs_len, hql]; omega⟩) ?_; refine And.intro (VLe.of_eq (by rw [Int.toNat_natCast, hg])) ?_; refine hK _ _ ?_; clear hK K; refine dw_seq ?_; refine dwk [] TRM_ok hnt fun K hK => ?_; refine dcl (ho) ?_; refine hK _ _ ?_; clear hK K; refine dw_seq ?_; refine dw_seq ?_; refine dwkD [(25, .v (.bool true))] TRM_ok hnt fun K hK => ?_; refine And.intro (bneT he) ?_; refine hK _ _ (by kernel_rfl) ?_; clear hK K
    refine dw_cond (t := true) rfl ?_; rw [if_pos rfl]; refine dw_exit ?_; refine dwk [(48, .v (.int .i64 (↑(j + 1))))] TRM_ok hnt fun K hK => ?_; refine And.intro auI ?_; refine hK _ _ ?_; clear hK K
    refine ⟨⟨j + 1, hlt⟩, by first | omega | (dsimp only; omega), VS.toA⟩
  ·rw [show j = 2 by omega]
   refine dw_seq ?_; refine dwk [(16, .v (.bool false))] TRM_ok hnt fun K hK => ?_; refine And.intro auF ?_; refine hK _ _ ?_; clear hK K; refine dw_seq ?_; refine dw_cond (t := false) rfl ?_; rw [if_neg (by simp)]; refine dw_exit ?_; refine dw_seq ?_; refine dwk [] TRM_ok hnt fun K hK => ?_; refine hK _ _ ?_; clear hK K; refine dw_ret ?_
   exact reta rfl
set_option maxHeartbeats 4000000 in
theorem rorders_d (b : Int) (C Mw : List Ty) (p : Li.Pr) (kp ks : Int) (hl : p.l.full ≤ 20000 ∧ p.l.Fit) (hr : p.r.full ≤ 20000 ∧ p.r.Fit) (hml : Ty.sizes p.m ≤ 800000) (hol : (Ru.own p).1.m.length ≤ 1000000 ∧ (Ru.own (Ru.swap p)).1.m.length ≤ 1000000)
  (hp : PureC Tryz.prog 26 [.ag [.v (.int .i64 b), .sl 2 (eTys C) none, .sl 2 (eTys Mw) none], .ag (ePr p)] (.v (.int .i64 kp)))
  (hs : PureC Tryz.prog 26 [.ag [.v (.int .i64 b), .sl 2 (eTys C) none, .sl 2 (eTys Mw) none], .ag (ePr (Ru.swap p))] (.v (.int .i64 ks))) :
  PureC Tryz.prog 22 [.ag [.v (.int .i64 b), .sl 2 (eTys C) none, .sl 2 (eTys Mw) none], .ag (ePr p)] (.sl 9 (ePrs (Ru.ords p kp ks)) none) := by
 have hml2 : p.m.length ≤ 900000 := by have := Ty.le_sizes p.m; omega
 have o1 := rown_d p hl hr hml2
 have o2 := rown_d (Ru.swap p) hr hl hml2
 have hsw := rswap_d p
 obtain ⟨⟨x, e⟩, hx⟩ : ∃ x, Ru.own p = x := ⟨_, rfl⟩
 obtain ⟨⟨y, f⟩, hy⟩ : ∃ y, Ru.own (Ru.swap p) = y := ⟨_, rfl⟩
 have s1 : Ru.stp [] p kp = if e = 0 ∧ kp = 0 then [x] else [] := by unfold Ru.stp; rw [hx]; simp
 have s2 : ∀ A, Ru.stp A (Ru.swap p) ks = if f = 0 ∧ ks = 0 ∧ ¬ (A.head? = some y) then A ++ [y] else A := fun A => by unfold Ru.stp; rw [hy]
 unfold Ru.ords
 rw [s1, s2]
 clear s1 s2
 rw [hx] at o1 hol
 rw [hy] at o2 hol
 dsimp only at o1 o2 hol
 have hE := same17_d x y hol.1 hol.2
 rw [Ru.swap_at] at hs hsw o2
 rw [ePr_at] at hp hsw o1 ⊢
 rw [ePr_at x] at o1 hE
 rw [ePr_at y] at o2 hE
 by_cases h1 : e = 0 ∧ kp = 0
 ·rw [if_pos h1]
  obtain ⟨rfl, rfl⟩ := h1
  rw [decide_eq_true rfl] at o1
  by_cases hf : f = 0
  ·subst hf
   rw [decide_eq_true rfl] at o2
   by_cases hks : ks = 0
   ·subst hks
    by_cases hxy : x = y
    ·rw [decide_eq_true hxy] at hE
     rw [if_neg (fun h => h.2.2 (by simp [hxy]))]
     refine calldw 0 56 [ResultVar.tmp 4] TRM_ok Tryz.func22 rfl Tryz.ntmps22 rfl fun cx hnt hn0 => ?_
     ·skip
      refine dw_seq ?_; refine dwk [] TRM_ok hnt fun K hK => ?_; refine hK _ _ ?_; clear hK K; refine dw_seq ?_; refine dwk [] TRM_ok hnt fun K hK => ?_; refine hK _ _ ?_; clear hK K
      refine DW.vs (VS.rowT (x := 5) (by rw [hnt]; decide) 29 9 rfl) ?_
      refine dw_seq ?_; refine dwk [] TRM_ok hnt fun K hK => ?_; refine dcl (o1) ?_; refine hK _ _ ?_; clear hK K; refine dw_seq ?_; refine dw_seq ?_; refine dwk [(20, .v (.bool true))] TRM_ok hnt fun K hK => ?_; refine dcl (hp) ?_; refine And.intro (beqT rfl) ?_; refine hK _ _ ?_; clear hK K; refine dw_cond (t := true) rfl ?_; rw [if_pos rfl]; refine dwk [(25, .sl 9 (ePrs [x]) (some 4))] TRM_ok hnt fun K hK => ?_
      refine And.intro (⟨by simp, by simp⟩) ?_; refine And.intro (VLe.of_eq (by simp [ePrs_one])) ?_; refine hK _ _ ?_; clear hK K; refine dw_seq ?_; refine dwk [] TRM_ok hnt fun K hK => ?_; refine dcl (hsw) ?_; refine dcl (o2) ?_; refine hK _ _ ?_; clear hK K; refine dw_seq ?_; refine dw_seq ?_; refine dwkD [(38, .v (.bool true)), (42, .v (.int .i64 (1))), (43, .v (.bool false))] TRM_ok hnt fun K hK => ?_
      refine dcl (hsw) ?_; refine dcl (hs) ?_; refine And.intro (beqT rfl) ?_; refine And.intro (dintE (by rfl)) ?_; refine And.intro (beqF (by decide)) ?_; refine dcl (hE) ?_; refine hK _ _ (by kernel_rfl) ?_; clear hK K; refine dw_cond (t := false) rfl ?_; rw [if_neg (by simp)]; refine dw_skip ?_; refine dw_seq ?_; refine dwk [] TRM_ok hnt fun K hK => ?_; refine hK _ _ ?_; clear hK K; refine dw_ret ?_
      exact reta rfl
    ·rw [decide_eq_false hxy] at hE
     rw [if_pos ⟨rfl, rfl, by simpa using hxy⟩]
     refine calldw 0 56 [ResultVar.tmp 4] TRM_ok Tryz.func22 rfl Tryz.ntmps22 rfl fun cx hnt hn0 => ?_
     ·skip
      refine dw_seq ?_; refine dwk [] TRM_ok hnt fun K hK => ?_; refine hK _ _ ?_; clear hK K; refine dw_seq ?_; refine dwk [] TRM_ok hnt fun K hK => ?_; refine hK _ _ ?_; clear hK K
      refine DW.vs (VS.rowT (x := 5) (by rw [hnt]; decide) 29 9 rfl) ?_
      refine dw_seq ?_; refine dwk [] TRM_ok hnt fun K hK => ?_; refine dcl (o1) ?_; refine hK _ _ ?_; clear hK K; refine dw_seq ?_; refine dw_seq ?_; refine dwk [(20, .v (.bool true))] TRM_ok hnt fun K hK => ?_; refine dcl (hp) ?_; refine And.intro (beqT rfl) ?_; refine hK _ _ ?_; clear hK K; refine dw_cond (t := true) rfl ?_; rw [if_pos rfl]; refine dwk [(25, .sl 9 (ePrs [x]) (some 4))] TRM_ok hnt fun K hK => ?_
      refine And.intro (⟨by simp, by simp⟩) ?_; refine And.intro (VLe.of_eq (by simp [ePrs_one])) ?_; refine hK _ _ ?_; clear hK K; refine dw_seq ?_; refine dwk [] TRM_ok hnt fun K hK => ?_; refine dcl (hsw) ?_; refine dcl (o2) ?_; refine hK _ _ ?_; clear hK K; refine dw_seq ?_; refine dw_seq ?_; refine dwkD [(38, .v (.bool true)), (42, .v (.int .i64 (1))), (43, .v (.bool false))] TRM_ok hnt fun K hK => ?_
      refine dcl (hsw) ?_; refine dcl (hs) ?_; refine And.intro (beqT rfl) ?_; refine And.intro (dintE (by rfl)) ?_; refine And.intro (beqF (by decide)) ?_; refine dcl (hE) ?_; refine hK _ _ (by kernel_rfl) ?_; clear hK K; refine dw_cond (t := true) rfl ?_; rw [if_pos rfl]; refine dwk [(54, .sl 9 (ePrs ([x] ++ [y])) (some 4))] TRM_ok hnt fun K hK => ?_; refine And.intro (⟨by simp [ePrs_one], by simp [ePrs_one]⟩) ?_
      refine And.intro (VLe.of_eq (by rw [ePrs_snoc])) ?_; refine hK _ _ ?_; clear hK K; refine dw_seq ?_; refine dwk [] TRM_ok hnt fun K hK => ?_; refine hK _ _ ?_; clear hK K; refine dw_ret ?_
      exact reta rfl
   ·rw [if_neg (fun h => hks h.2.1)]
    refine calldw 0 56 [ResultVar.tmp 4] TRM_ok Tryz.func22 rfl Tryz.ntmps22 rfl fun cx hnt hn0 => ?_
    ·skip
     refine dw_seq ?_; refine dwk [] TRM_ok hnt fun K hK => ?_; refine hK _ _ ?_; clear hK K; refine dw_seq ?_; refine dwk [] TRM_ok hnt fun K hK => ?_; refine hK _ _ ?_; clear hK K
     refine DW.vs (VS.rowT (x := 5) (by rw [hnt]; decide) 29 9 rfl) ?_
     refine dw_seq ?_; refine dwk [] TRM_ok hnt fun K hK => ?_; refine dcl (o1) ?_; refine hK _ _ ?_; clear hK K; refine dw_seq ?_; refine dw_seq ?_; refine dwk [(20, .v (.bool true))] TRM_ok hnt fun K hK => ?_; refine dcl (hp) ?_; refine And.intro (beqT rfl) ?_; refine hK _ _ ?_; clear hK K; refine dw_cond (t := true) rfl ?_; rw [if_pos rfl]; refine dwk [(25, .sl 9 (ePrs [x]) (some 4))] TRM_ok hnt fun K hK => ?_
     refine And.intro (⟨by simp, by simp⟩) ?_; refine And.intro (VLe.of_eq (by simp [ePrs_one])) ?_; refine hK _ _ ?_; clear hK K; refine dw_seq ?_; refine dwk [] TRM_ok hnt fun K hK => ?_; refine dcl (hsw) ?_; refine dcl (o2) ?_; refine hK _ _ ?_; clear hK K; refine dw_seq ?_; refine dw_seq ?_; refine dwkD [(38, .v (.bool false))] TRM_ok hnt fun K hK => ?_; refine dcl (hsw) ?_; refine dcl (hs) ?_; refine And.intro (beqF hks) ?_
     refine hK _ _ (by kernel_rfl) ?_; clear hK K; refine dw_cond (t := false) rfl ?_; rw [if_neg (by simp)]; refine dw_skip ?_; refine dw_seq ?_; refine dwk [] TRM_ok hnt fun K hK => ?_; refine hK _ _ ?_; clear hK K; refine dw_ret ?_
     exact reta rfl
  ·rw [decide_eq_false hf] at o2
   rw [if_neg (fun h => hf h.1)]
   refine calldw 0 56 [ResultVar.tmp 4] TRM_ok Tryz.func22 rfl Tryz.ntmps22 rfl fun cx hnt hn0 => ?_
   ·skip
    refine dw_seq ?_; refine dwk [] TRM_ok hnt fun K hK => ?_; refine hK _ _ ?_; clear hK K; refine dw_seq ?_; refine dwk [] TRM_ok hnt fun K hK => ?_; refine hK _ _ ?_; clear hK K
    refine DW.vs (VS.rowT (x := 5) (by rw [hnt]; decide) 29 9 rfl) ?_
    refine dw_seq ?_; refine dwk [] TRM_ok hnt fun K hK => ?_; refine dcl (o1) ?_; refine hK _ _ ?_; clear hK K; refine dw_seq ?_; refine dw_seq ?_; refine dwk [(20, .v (.bool true))] TRM_ok hnt fun K hK => ?_; refine dcl (hp) ?_; refine And.intro (beqT rfl) ?_; refine hK _ _ ?_; clear hK K; refine dw_cond (t := true) rfl ?_; rw [if_pos rfl]; refine dwk [(25, .sl 9 (ePrs [x]) (some 4))] TRM_ok hnt fun K hK => ?_
    refine And.intro (⟨by simp, by simp⟩) ?_; refine And.intro (VLe.of_eq (by simp [ePrs_one])) ?_; refine hK _ _ ?_; clear hK K; refine dw_seq ?_; refine dwk [] TRM_ok hnt fun K hK => ?_; refine dcl (hsw) ?_; refine dcl (o2) ?_; refine hK _ _ ?_; clear hK K; refine dw_seq ?_; refine dw_seq ?_; refine dwkD [] TRM_ok hnt fun K hK => ?_; refine hK _ _ (by kernel_rfl) ?_; clear hK K; refine dw_cond (t := false) rfl ?_
    rw [if_neg (by simp)]; refine dw_skip ?_; refine dw_seq ?_; refine dwk [] TRM_ok hnt fun K hK => ?_; refine hK _ _ ?_; clear hK K; refine dw_ret ?_
    exact reta rfl
 ·rw [if_neg h1]
  by_cases he : e = 0
  ·have hkp : kp ≠ 0 := fun h => h1 ⟨he, h⟩
   rw [decide_eq_true he] at o1
   by_cases hf : f = 0
   ·subst hf
    rw [decide_eq_true rfl] at o2
    by_cases hks : ks = 0
    ·subst hks
     rw [if_pos ⟨rfl, rfl, by simp⟩]
     refine calldw 0 56 [ResultVar.tmp 4] TRM_ok Tryz.func22 rfl Tryz.ntmps22 rfl fun cx hnt hn0 => ?_
     ·skip
      refine dw_seq ?_; refine dwk [] TRM_ok hnt fun K hK => ?_; refine hK _ _ ?_; clear hK K; refine dw_seq ?_; refine dwk [] TRM_ok hnt fun K hK => ?_; refine hK _ _ ?_; clear hK K
      refine DW.vs (VS.rowT (x := 5) (by rw [hnt]; decide) 29 9 rfl) ?_
      refine dw_seq ?_; refine dwk [] TRM_ok hnt fun K hK => ?_; refine dcl (o1) ?_; refine hK _ _ ?_; clear hK K; refine dw_seq ?_; refine dw_seq ?_; refine dwk [(20, .v (.bool false))] TRM_ok hnt fun K hK => ?_; refine dcl (hp) ?_; refine And.intro (beqF hkp) ?_; refine hK _ _ ?_; clear hK K; refine dw_cond (t := false) rfl ?_; rw [if_neg (by simp)]; refine dw_skip ?_; refine dw_seq ?_; refine dwk [] TRM_ok hnt fun K hK => ?_
      refine dcl (hsw) ?_; refine dcl (o2) ?_; refine hK _ _ ?_; clear hK K; refine dw_seq ?_; refine dw_seq ?_; refine dwkD [(38, .v (.bool true)), (42, .v (.int .i64 (0))), (43, .v (.bool true))] TRM_ok hnt fun K hK => ?_; refine dcl (hsw) ?_; refine dcl (hs) ?_; refine And.intro (beqT rfl) ?_; refine And.intro (dintE (by rfl)) ?_; refine And.intro (beqT rfl) ?_; refine hK _ _ (by kernel_rfl) ?_; clear hK K
      refine dw_cond (t := true) rfl ?_; rw [if_pos rfl]; refine dwk [(54, .sl 9 (ePrs ([] ++ [y])) (some 4))] TRM_ok hnt fun K hK => ?_; refine And.intro (⟨by simp, by simp⟩) ?_; refine And.intro (VLe.of_eq (by simp [ePrs_one])) ?_; refine hK _ _ ?_; clear hK K; refine dw_seq ?_; refine dwk [] TRM_ok hnt fun K hK => ?_; refine hK _ _ ?_; clear hK K; refine dw_ret ?_
      exact reta rfl
    ·rw [if_neg (fun h => hks h.2.1)]
     refine calldw 0 56 [ResultVar.tmp 4] TRM_ok Tryz.func22 rfl Tryz.ntmps22 rfl fun cx hnt hn0 => ?_
     ·skip
      refine dw_seq ?_; refine dwk [] TRM_ok hnt fun K hK => ?_; refine hK _ _ ?_; clear hK K; refine dw_seq ?_; refine dwk [] TRM_ok hnt fun K hK => ?_; refine hK _ _ ?_; clear hK K
      refine DW.vs (VS.rowT (x := 5) (by rw [hnt]; decide) 29 9 rfl) ?_
      refine dw_seq ?_; refine dwk [] TRM_ok hnt fun K hK => ?_; refine dcl (o1) ?_; refine hK _ _ ?_; clear hK K; refine dw_seq ?_; refine dw_seq ?_; refine dwk [(20, .v (.bool false))] TRM_ok hnt fun K hK => ?_; refine dcl (hp) ?_; refine And.intro (beqF hkp) ?_; refine hK _ _ ?_; clear hK K; refine dw_cond (t := false) rfl ?_; rw [if_neg (by simp)]; refine dw_skip ?_; refine dw_seq ?_; refine dwk [] TRM_ok hnt fun K hK => ?_
      refine dcl (hsw) ?_; refine dcl (o2) ?_; refine hK _ _ ?_; clear hK K; refine dw_seq ?_; refine dw_seq ?_; refine dwkD [(38, .v (.bool false))] TRM_ok hnt fun K hK => ?_; refine dcl (hsw) ?_; refine dcl (hs) ?_; refine And.intro (beqF hks) ?_; refine hK _ _ (by kernel_rfl) ?_; clear hK K; refine dw_cond (t := false) rfl ?_; rw [if_neg (by simp)]; refine dw_skip ?_; refine dw_seq ?_; refine dwk [] TRM_ok hnt fun K hK => ?_
      refine hK _ _ ?_; clear hK K; refine dw_ret ?_
      exact reta rfl
   ·rw [decide_eq_false hf] at o2
    rw [if_neg (fun h => hf h.1)]
    refine calldw 0 56 [ResultVar.tmp 4] TRM_ok Tryz.func22 rfl Tryz.ntmps22 rfl fun cx hnt hn0 => ?_
    ·skip
     refine dw_seq ?_; refine dwk [] TRM_ok hnt fun K hK => ?_; refine hK _ _ ?_; clear hK K; refine dw_seq ?_; refine dwk [] TRM_ok hnt fun K hK => ?_; refine hK _ _ ?_; clear hK K
     refine DW.vs (VS.rowT (x := 5) (by rw [hnt]; decide) 29 9 rfl) ?_
     refine dw_seq ?_; refine dwk [] TRM_ok hnt fun K hK => ?_; refine dcl (o1) ?_; refine hK _ _ ?_; clear hK K; refine dw_seq ?_; refine dw_seq ?_; refine dwk [(20, .v (.bool false))] TRM_ok hnt fun K hK => ?_; refine dcl (hp) ?_; refine And.intro (beqF hkp) ?_; refine hK _ _ ?_; clear hK K; refine dw_cond (t := false) rfl ?_; rw [if_neg (by simp)]; refine dw_skip ?_; refine dw_seq ?_; refine dwk [] TRM_ok hnt fun K hK => ?_
     refine dcl (hsw) ?_; refine dcl (o2) ?_; refine hK _ _ ?_; clear hK K; refine dw_seq ?_; refine dw_seq ?_; refine dwkD [] TRM_ok hnt fun K hK => ?_; refine hK _ _ (by kernel_rfl) ?_; clear hK K; refine dw_cond (t := false) rfl ?_; rw [if_neg (by simp)]; refine dw_skip ?_; refine dw_seq ?_; refine dwk [] TRM_ok hnt fun K hK => ?_; refine hK _ _ ?_; clear hK K; refine dw_ret ?_
     exact reta rfl
  ·rw [decide_eq_false he] at o1
   by_cases hf : f = 0
   ·subst hf
    rw [decide_eq_true rfl] at o2
    by_cases hks : ks = 0
    ·subst hks
     rw [if_pos ⟨rfl, rfl, by simp⟩]
     refine calldw 0 56 [ResultVar.tmp 4] TRM_ok Tryz.func22 rfl Tryz.ntmps22 rfl fun cx hnt hn0 => ?_
     ·skip
      refine dw_seq ?_; refine dwk [] TRM_ok hnt fun K hK => ?_; refine hK _ _ ?_; clear hK K; refine dw_seq ?_; refine dwk [] TRM_ok hnt fun K hK => ?_; refine hK _ _ ?_; clear hK K
      refine DW.vs (VS.rowT (x := 5) (by rw [hnt]; decide) 29 9 rfl) ?_
      refine dw_seq ?_; refine dwk [] TRM_ok hnt fun K hK => ?_; refine dcl (o1) ?_; refine hK _ _ ?_; clear hK K; refine dw_seq ?_; refine dw_seq ?_; refine dwk [] TRM_ok hnt fun K hK => ?_; refine hK _ _ ?_; clear hK K; refine dw_cond (t := false) rfl ?_; rw [if_neg (by simp)]; refine dw_skip ?_; refine dw_seq ?_; refine dwk [] TRM_ok hnt fun K hK => ?_; refine dcl (hsw) ?_; refine dcl (o2) ?_; refine hK _ _ ?_; clear hK K
      refine dw_seq ?_; refine dw_seq ?_; refine dwkD [(38, .v (.bool true)), (42, .v (.int .i64 (0))), (43, .v (.bool true))] TRM_ok hnt fun K hK => ?_; refine dcl (hsw) ?_; refine dcl (hs) ?_; refine And.intro (beqT rfl) ?_; refine And.intro (dintE (by rfl)) ?_; refine And.intro (beqT rfl) ?_; refine hK _ _ (by kernel_rfl) ?_; clear hK K; refine dw_cond (t := true) rfl ?_; rw [if_pos rfl]; refine dwk [(54, .sl 9 (ePrs ([] ++ [y])) (some 4))] TRM_ok hnt fun K hK => ?_
      refine And.intro (⟨by simp, by simp⟩) ?_; refine And.intro (VLe.of_eq (by simp [ePrs_one])) ?_; refine hK _ _ ?_; clear hK K; refine dw_seq ?_; refine dwk [] TRM_ok hnt fun K hK => ?_; refine hK _ _ ?_; clear hK K; refine dw_ret ?_
      exact reta rfl
    ·rw [if_neg (fun h => hks h.2.1)]
     refine calldw 0 56 [ResultVar.tmp 4] TRM_ok Tryz.func22 rfl Tryz.ntmps22 rfl fun cx hnt hn0 => ?_
     ·skip
      refine dw_seq ?_; refine dwk [] TRM_ok hnt fun K hK => ?_; refine hK _ _ ?_; clear hK K; refine dw_seq ?_; refine dwk [] TRM_ok hnt fun K hK => ?_; refine hK _ _ ?_; clear hK K
      refine DW.vs (VS.rowT (x := 5) (by rw [hnt]; decide) 29 9 rfl) ?_
      refine dw_seq ?_; refine dwk [] TRM_ok hnt fun K hK => ?_; refine dcl (o1) ?_; refine hK _ _ ?_; clear hK K; refine dw_seq ?_; refine dw_seq ?_; refine dwk [] TRM_ok hnt fun K hK => ?_; refine hK _ _ ?_; clear hK K; refine dw_cond (t := false) rfl ?_; rw [if_neg (by simp)]; refine dw_skip ?_; refine dw_seq ?_; refine dwk [] TRM_ok hnt fun K hK => ?_; refine dcl (hsw) ?_; refine dcl (o2) ?_; refine hK _ _ ?_; clear hK K
      refine dw_seq ?_; refine dw_seq ?_; refine dwkD [(38, .v (.bool false))] TRM_ok hnt fun K hK => ?_; refine dcl (hsw) ?_; refine dcl (hs) ?_; refine And.intro (beqF hks) ?_; refine hK _ _ (by kernel_rfl) ?_; clear hK K; refine dw_cond (t := false) rfl ?_; rw [if_neg (by simp)]; refine dw_skip ?_; refine dw_seq ?_; refine dwk [] TRM_ok hnt fun K hK => ?_; refine hK _ _ ?_; clear hK K; refine dw_ret ?_
      exact reta rfl
   ·rw [decide_eq_false hf] at o2
    rw [if_neg (fun h => hf h.1)]
    refine calldw 0 56 [ResultVar.tmp 4] TRM_ok Tryz.func22 rfl Tryz.ntmps22 rfl fun cx hnt hn0 => ?_
    ·skip
     refine dw_seq ?_; refine dwk [] TRM_ok hnt fun K hK => ?_; refine hK _ _ ?_; clear hK K; refine dw_seq ?_; refine dwk [] TRM_ok hnt fun K hK => ?_; refine hK _ _ ?_; clear hK K
     refine DW.vs (VS.rowT (x := 5) (by rw [hnt]; decide) 29 9 rfl) ?_
     refine dw_seq ?_; refine dwk [] TRM_ok hnt fun K hK => ?_; refine dcl (o1) ?_; refine hK _ _ ?_; clear hK K; refine dw_seq ?_; refine dw_seq ?_; refine dwk [] TRM_ok hnt fun K hK => ?_; refine hK _ _ ?_; clear hK K; refine dw_cond (t := false) rfl ?_; rw [if_neg (by simp)]; refine dw_skip ?_; refine dw_seq ?_; refine dwk [] TRM_ok hnt fun K hK => ?_; refine dcl (hsw) ?_; refine dcl (o2) ?_; refine hK _ _ ?_; clear hK K
     refine dw_seq ?_; refine dw_seq ?_; refine dwkD [] TRM_ok hnt fun K hK => ?_; refine hK _ _ (by kernel_rfl) ?_; clear hK K; refine dw_cond (t := false) rfl ?_; rw [if_neg (by simp)]; refine dw_skip ?_; refine dw_seq ?_; refine dwk [] TRM_ok hnt fun K hK => ?_; refine hK _ _ ?_; clear hK K; refine dw_ret ?_
     exact reta rfl
end Go.Proofs.YtdmiekaeodcehaaGreat

namespace Go.Proofs.YtdmiekaeodcehaaGreat
open Go.RowKit
def TRN_29 : TI := ⟨9, true, [Value.slice none 0 0, Value.int IntKind.i64 0, Value.int IntKind.i64 0, Value.slice none 0 0, Value.slice none 0 0, Value.int IntKind.i64 0, Value.int IntKind.i64 0, Value.slice none 0 0, Value.slice none 0 0], [(0, 4, true), (4, 4, true), (8, 1, false)], none, 152, 6, none, false⟩
theorem TRN_29_ok : TypOk Tryz.prog 29 TRN_29 := ⟨by kernel_rfl, by kernel_rfl, by kernel_rfl, by kernel_rfl, by kernel_rfl⟩
def TRN_48 : TI := ⟨3, true, [Value.int IntKind.i64 0, Value.slice none 0 0, Value.slice none 0 0], [(0, 1, false), (1, 1, false), (2, 1, false)], none, 56, 6, none, false⟩
theorem TRN_48_ok : TypOk Tryz.prog 48 TRN_48 := ⟨by kernel_rfl, by kernel_rfl, by kernel_rfl, by kernel_rfl, by kernel_rfl⟩
def TRN_38 : TI := ⟨9, true, [Value.slice none 0 0, Value.int IntKind.i64 0, Value.int IntKind.i64 0, Value.slice none 0 0, Value.slice none 0 0, Value.int IntKind.i64 0, Value.int IntKind.i64 0, Value.slice none 0 0, Value.slice none 0 0], [(0, 4, true), (4, 4, true), (8, 1, false)], none, 152, 6, none, false⟩
theorem TRN_38_ok : TypOk Tryz.prog 38 TRN_38 := ⟨by kernel_rfl, by kernel_rfl, by kernel_rfl, by kernel_rfl, by kernel_rfl⟩
def TRN_54 : TI := ⟨3, true, [Value.int IntKind.i64 0, Value.slice none 0 0, Value.slice none 0 0], [(0, 1, false), (1, 1, false), (2, 1, false)], none, 56, 6, none, false⟩
theorem TRN_54_ok : TypOk Tryz.prog 54 TRN_54 := ⟨by kernel_rfl, by kernel_rfl, by kernel_rfl, by kernel_rfl, by kernel_rfl⟩
def TRN_3 : TI := ⟨1, false, [Value.int IntKind.i64 0], [], none, 8, 2, none, false⟩
theorem TRN_3_ok : TypOk Tryz.prog 3 TRN_3 := ⟨by kernel_rfl, by kernel_rfl, by kernel_rfl, by kernel_rfl, by kernel_rfl⟩
def TRN_22 : TI := ⟨1, false, [Value.slice none 0 0], [], some 91, 24, 5, none, false⟩
theorem TRN_22_ok : TypOk Tryz.prog 22 TRN_22 := ⟨by kernel_rfl, by kernel_rfl, by kernel_rfl, by kernel_rfl, by kernel_rfl⟩
def TRN_59 : TI := ⟨1, false, [Value.slice none 0 0], [], some 29, 24, 5, none, false⟩
theorem TRN_59_ok : TypOk Tryz.prog 59 TRN_59 := ⟨by kernel_rfl, by kernel_rfl, by kernel_rfl, by kernel_rfl, by kernel_rfl⟩
def TRN_57 : TI := ⟨1, false, [Value.slice none 0 0], [], some 38, 24, 5, none, false⟩
theorem TRN_57_ok : TypOk Tryz.prog 57 TRN_57 := ⟨by kernel_rfl, by kernel_rfl, by kernel_rfl, by kernel_rfl, by kernel_rfl⟩
def TRN_32 : TI := ⟨1, false, [Value.slice none 0 0], [], some 75, 24, 5, none, false⟩
theorem TRN_32_ok : TypOk Tryz.prog 32 TRN_32 := ⟨by kernel_rfl, by kernel_rfl, by kernel_rfl, by kernel_rfl, by kernel_rfl⟩
def TRN_39 : TI := ⟨1, false, [Value.int IntKind.i64 0], [], none, 8, 2, none, false⟩
theorem TRN_39_ok : TypOk Tryz.prog 39 TRN_39 := ⟨by kernel_rfl, by kernel_rfl, by kernel_rfl, by kernel_rfl, by kernel_rfl⟩
def TRN_91 : TI := ⟨2, true, [Value.slice none 0 0, Value.int IntKind.i64 0], [(0, 1, false), (1, 1, false)], none, 32, 6, none, false⟩
theorem TRN_91_ok : TypOk Tryz.prog 91 TRN_91 := ⟨by kernel_rfl, by kernel_rfl, by kernel_rfl, by kernel_rfl, by kernel_rfl⟩
def TRN_75 : TI := ⟨2, true, [Value.slice none 0 0, Value.int IntKind.i64 0], [(0, 1, false), (1, 1, false)], none, 32, 6, none, false⟩
theorem TRN_75_ok : TypOk Tryz.prog 75 TRN_75 := ⟨by kernel_rfl, by kernel_rfl, by kernel_rfl, by kernel_rfl, by kernel_rfl⟩
def TRN : List (Nat × TI) := [(29, TRN_29), (48, TRN_48), (38, TRN_38), (54, TRN_54), (3, TRN_3), (22, TRN_22), (59, TRN_59), (57, TRN_57), (32, TRN_32), (39, TRN_39), (91, TRN_91), (75, TRN_75)]
theorem TRN_ok : TabOk Tryz.prog TRN := (((((((((((((TabOk.nil _).cons TRN_75_ok).cons TRN_91_ok).cons TRN_39_ok).cons TRN_32_ok).cons TRN_57_ok).cons TRN_59_ok).cons TRN_22_ok).cons TRN_3_ok).cons TRN_54_ok).cons TRN_38_ok).cons TRN_48_ok).cons TRN_29_ok)
namespace Ru
def wB (C M : List Ty) : Bool := decide (C.length ≤ 20 ∧ M.length ≤ 20) && (C ++ M).all few4B
theorem swap_sm {p : Li.Pr} (h : Sm p) : Sm (swap p) := ⟨h.r, h.l, h.ml, h.m⟩
end Ru
theorem smallW_d (b : Int) (C M : List Ty) : PureC Tryz.prog 19 [.ag [.v (.int .i64 b), .sl 2 (eTys C) none, .sl 2 (eTys M) none], .v (.slice none 0 0)] (.v (.bool (Ru.wB C M))) := by
  unfold Ru.wB
  by_cases h : C.length ≤ 20 ∧ M.length ≤ 20
  · have := small_d b C M [] h.1 h.2 (by simp)
    rw [List.append_nil] at this
    rw [decide_eq_true h, Bool.true_and]
    exact CallC.vle this (.cons (VLe.refl _) (.cons (VLe.nil _) .nil)) (VLe.refl _)
  · have := small_no b C M [] (fun h2 => h ⟨h2.1, h2.2.1⟩)
    rw [decide_eq_false h, Bool.false_and]
    exact CallC.vle this (.cons (VLe.refl _) (.cons (VLe.nil _) .nil)) (VLe.refl _)
theorem ownCheck_d (b : Int) (C Mw : List Ty) (q : Li.Pr) (e : Int) (sm : Ru.Sm q) (hC : ∀ t ∈ C, t.size ≤ 60) (hCl : C.length ≤ 900000) (he : e = 0 ↔ Ru.Good b C q) (h0 : (Ru.own q).2 = 0) (hk : (if e ≠ 0 then e else Ru.chk q) = 0) :
    PureC Tryz.prog 25 [.ag [.v (.int .i64 b), .sl 2 (eTys C) none, .sl 2 (eTys Mw) none], .ag (ePr (Ru.own q).1)] (.v (.int .i64 0)) := by
  have he0 : e = 0 := by
    by_cases h : e = 0
    · exact h
    · rw [if_pos h] at hk; exact hk
  rw [if_neg (by simp [he0])] at hk
  obtain ⟨g, c⟩ := Ru.own_good (he.1 he0) h0 hk
  have so := sm.own
  have hl := so.l
  have hr := so.r
  have ht := rutyped0_d b C Mw (Ru.own q).1 hCl (by have := so.ml; omega) g ⟨by omega, hl.2⟩ ⟨by omega, hr.2⟩ fun t h => by
    rcases List.mem_append.1 h with h | h
    · have := hC t h; omega
    · have := so.m t h; omega
  have h := rucheck_d b C Mw (Ru.own q).1 0 ⟨by omega, hl.2⟩ ⟨by omega, hr.2⟩ ht
  rw [if_neg (by simp), c] at h
  exact h
set_option maxHeartbeats 8000000 in
theorem ruleChecks_d (b : Int) (C Mw : List Ty) (p : Li.Pr) (hp : p.l.Fit ∧ p.r.Fit) : PureC Tryz.prog 4 [.ag [.v (.int .i64 b), .sl 2 (eTys C) none, .sl 2 (eTys Mw) none], .ag (ePr p)] (.v (.bool true)) := by
 have hk := known17_d
 have hF := few17_d [p] (by simp)
 rw [show [p].all fewP = fewP p by simp] at hF
 have eP : ePrs [p] = [[.sl 2 (eTys p.l.binds) none, .v (.int .i64 p.l.kind), .v (.int .i64 p.l.index), .sl 4 (eTms p.l.args) none, .sl 2 (eTys p.r.binds) none, .v (.int .i64 p.r.kind), .v (.int .i64 p.r.index), .sl 4 (eTms p.r.args) none, .sl 2 (eTys p.m) none]] := rfl
 have hSm := smallW_d b C Mw
 cases hf : fewP p with
 | false =>
  rw [hf] at hF
  rw [ePr_at]
  refine calldw 0 115 [ResultVar.tmp 4] TRN_ok Tryz.func4 rfl Tryz.ntmps4 rfl fun cx hnt hn0 => ?_
  ·skip
   refine dw_seq ?_; refine dwk [] TRN_ok hnt fun K hK => ?_; refine hK _ _ ?_; clear hK K; refine dw_seq ?_; refine dw_seq ?_; refine dwk [(12, .sl 9 (ePrs [p]) none)] TRN_ok hnt fun K hK => ?_; refine And.intro ((by rw [eP]; exact VLe.untag _ _ _)) ?_; refine dcl (hF) ?_; refine hK _ _ ?_; clear hK K; refine dw_cond (t := true) rfl ?_; rw [if_pos rfl]; refine dw_seq ?_; refine dwk [] TRN_ok hnt fun K hK => ?_
   refine dcl (hk) ?_; refine hK _ _ ?_; clear hK K; refine dw_ret ?_
   exact reta rfl
 | true =>
 cases hs : Ru.wB C Mw with
 | false =>
  rw [hf] at hF
  rw [hs] at hSm
  rw [ePr_at]
  refine calldw 0 115 [ResultVar.tmp 4] TRN_ok Tryz.func4 rfl Tryz.ntmps4 rfl fun cx hnt hn0 => ?_
  ·skip
   refine dw_seq ?_; refine dwk [] TRN_ok hnt fun K hK => ?_; refine hK _ _ ?_; clear hK K; refine dw_seq ?_; refine dw_seq ?_; refine dwk [(12, .sl 9 (ePrs [p]) none)] TRN_ok hnt fun K hK => ?_; refine And.intro ((by rw [eP]; exact VLe.untag _ _ _)) ?_; refine dcl (hF) ?_; refine dcl (hSm) ?_; refine hK _ _ ?_; clear hK K; refine dw_cond (t := true) rfl ?_; rw [if_pos rfl]; refine dw_seq ?_; refine dwk [] TRN_ok hnt fun K hK => ?_
   refine dcl (hk) ?_; refine hK _ _ ?_; clear hK K; refine dw_ret ?_
   exact reta rfl
 | true =>
 rw [hf] at hF
 rw [hs] at hSm
 have sp := Ru.Sm.of hf hp
 have ss := Ru.swap_sm sp
 have zp := sp.sizes
 have hl := sp.l
 have hr := sp.r
 have hml := sp.ml
 unfold Ru.wB at hs
 rw [Bool.and_eq_true, decide_eq_true_eq] at hs
 have hCM : ∀ t ∈ C ++ Mw, t.size ≤ 60 := fun t ht => fewT60 (List.all_eq_true.1 hs.2 t ht)
 have hC60 : ∀ t ∈ C, t.size ≤ 60 := fun t ht => hCM t (List.mem_append_left _ ht)
 have zC : Ty.sizes C ≤ 1200 := by have := sizes_le22 hC60; have := hs.1.1; omega
 have zM : Ty.sizes Mw ≤ 1200 := by have := sizes_le22 (fun t ht => hCM t (List.mem_append_right _ ht)); have := hs.1.2; omega
 have hcl := hs.1.1
 have hWd := twd_d b C Mw (by omega) (by omega)
 have hTo := to17_d p (by omega) (by omega) (by omega)
 have hOf := of17_d p (by omega) (by omega) (by omega)
 have hSp := same17_d p p (by omega) (by omega)
 rw [decide_eq_true rfl] at hSp
 have hrw := ruworld_d b C Mw p (by omega) (by omega)
 obtain ⟨ep, ge, T1, T2⟩ := rutyped_d b C Mw p ⟨by omega, hl.2⟩ ⟨by omega, hr.2⟩ (by omega) (by omega) (fun t ht => by
  rcases List.mem_append.1 ht with h | h
  ·have := hC60 t h; omega
  ·have := sp.m t h; omega)
 obtain ⟨es, gs, U1, U2⟩ := rutyped_d b C Mw (Ru.swap p) ⟨by show p.r.full ≤ _; omega, hr.2⟩ ⟨by show p.l.full ≤ _; omega, hl.2⟩ (by omega) (by show p.m.length ≤ _; omega) (fun t ht => by
  rcases List.mem_append.1 ht with h | h
  ·have := hC60 t h; omega
  ·have := sp.m t h; omega)
 have K1 := rucheck_d b C Mw p ep ⟨by omega, hl.2⟩ ⟨by omega, hr.2⟩ T1
 have K2 := rrcheck_d b C Mw p ep ⟨by omega, hl.2⟩ ⟨by omega, hr.2⟩ T2
 have L1 := rucheck_d b C Mw (Ru.swap p) es ⟨by show p.r.full ≤ _; omega, hr.2⟩ ⟨by show p.l.full ≤ _; omega, hl.2⟩ U1
 have L2 := rrcheck_d b C Mw (Ru.swap p) es ⟨by show p.r.full ≤ _; omega, hr.2⟩ ⟨by show p.l.full ≤ _; omega, hl.2⟩ U2
 obtain ⟨kp, hkp⟩ : ∃ k, (if ep ≠ 0 then ep else Ru.chk p) = k := ⟨_, rfl⟩
 obtain ⟨ks, hks⟩ : ∃ k, (if es ≠ 0 then es else Ru.chk (Ru.swap p)) = k := ⟨_, rfl⟩
 rw [hkp] at K1 K2
 rw [hks] at L1 L2
 have lp := sp.own.ml
 have ls := ss.own.ml
 have O1 := ruorders_d b C Mw p kp ks ⟨by omega, hl.2⟩ ⟨by omega, hr.2⟩ (fun t h => by have := sp.m t h; omega) (by omega) K1 L1
 have O2 := rorders_d b C Mw p kp ks ⟨by omega, hl.2⟩ ⟨by omega, hr.2⟩ (by omega) ⟨by omega, by omega⟩ K2 L2
 have hx : ∀ x ∈ Ru.ords p kp ks, Ru.Sm x ∧ PureC Tryz.prog 25 [.ag [.v (.int .i64 b), .sl 2 (eTys C) none, .sl 2 (eTys Mw) none], .ag (ePr x)] (.v (.int .i64 0)) := fun x hx => by
  unfold Ru.ords at hx
  rcases Ru.stp_mem hx with hx | ⟨rfl, h0, hk0⟩
  ·rcases Ru.stp_mem hx with hx | ⟨rfl, h0, hk0⟩
   ·cases hx
   ·exact ⟨sp.own, ownCheck_d b C Mw p ep sp hC60 (by omega) ge h0 (by rw [hkp]; exact hk0)⟩
  ·exact ⟨ss.own, ownCheck_d b C Mw (Ru.swap p) es ss hC60 (by omega) gs h0 (by rw [hks]; exact hk0)⟩
 have hol := Ru.ords_len p kp ks
 obtain ⟨l, hl0⟩ : ∃ l, Ru.ords p kp ks = l := ⟨_, rfl⟩
 rw [hl0] at O1 O2 hx hol
 rw [ePr_at] at T1 T2 K1 K2 O1 O2 hTo hOf hSp hrw ⊢
 refine calldw 0 115 [ResultVar.tmp 4] TRN_ok Tryz.func4 rfl Tryz.ntmps4 rfl fun cx hnt hn0 => ?_
 ·skip
  refine dw_seq ?_; refine dwk [] TRN_ok hnt fun K hK => ?_; refine hK _ _ ?_; clear hK K; refine dw_seq ?_; refine dw_seq ?_; refine dwk [(12, .sl 9 (ePrs [p]) none)] TRN_ok hnt fun K hK => ?_; refine And.intro ((by rw [eP]; exact VLe.untag _ _ _)) ?_; refine dcl (hF) ?_; refine dcl (hSm) ?_; refine hK _ _ ?_; clear hK K; refine dw_cond (t := false) rfl ?_; rw [if_neg (by simp)]; refine dw_skip ?_; refine dw_seq ?_
  refine dwkD [] TRN_ok hnt fun K hK => ?_; refine dcl (hWd) ?_; refine dcl (hTo) ?_; refine hK _ _ (by kernel_rfl) ?_; clear hK K; refine dw_seq ?_; refine dwkD [] TRN_ok hnt fun K hK => ?_; refine dcl (O1) ?_; refine dcl (O2) ?_; refine hK _ _ (by kernel_rfl) ?_; clear hK K; refine dw_seq ?_; refine dw_seq ?_; refine dwkD [(37, .v (.bool false)), (45, .v (.bool false)), (49, .v (.int .i64 (↑l.length))), (51, .v (.int .i64 (↑l.length))), (52, .v (.bool false))] TRN_ok hnt fun K hK => ?_
  refine dcl (T1) ?_; refine dcl (T2) ?_; refine And.intro (bneF rfl) ?_; refine dcl (K1) ?_; refine dcl (K2) ?_; refine And.intro (bneF rfl) ?_; refine And.intro (dintE (by rw [ePrs_len])) ?_; refine And.intro (dintE (by rw [ePrs_len])) ?_; refine And.intro (bneF rfl) ?_; refine hK _ _ (by kernel_rfl) ?_; clear hK K; refine dw_cond (t := false) rfl ?_; rw [if_neg (by simp)]; refine dw_skip ?_; refine dw_seq ?_
  refine dw_seq ?_; refine dwk [] TRN_ok hnt fun K hK => ?_; refine hK _ _ ?_; clear hK K; refine dw_block ?_
  refine dw_loop (ι := { j : Nat // j ≤ l.length }) (fun j => [(.t 2, .p 0 0), (.t 3, .p 1 0), (.t 5, .p 16 0), (.t 6, .p 17 0), (.t 7, .sl 9 (ePrs l) none), (.t 8, .sl 9 (ePrs l) none), (.t 9, .v (.int .i64 ↑j.1)), (.c 0 0, .v (.int .i64 b)), (.c 0 1, .sl 2 (eTys C) none), (.c 0 2, .sl 2 (eTys Mw) none), (.c 1 0, .sl 2 (eTys p.l.binds) none), (.c 1 1, .v (.int .i64 p.l.kind)), (.c 1 2, .v (.int .i64 p.l.index)), (.c 1 3, .sl 4 (eTms p.l.args) none), (.c 1 4, .sl 2 (eTys p.r.binds) none), (.c 1 5, .v (.int .i64 p.r.kind)), (.c 1 6, .v (.int .i64 p.r.index)), (.c 1 7, .sl 4 (eTms p.r.args) none), (.c 1 8, .sl 2 (eTys p.m) none), (.c 16 0, .v (.int .i64 b)), (.c 16 1, .sl 2 (eTys C) none), (.c 16 2, .sl 2 (eTys Mw) none), (.c 17 0, .sl 2 (eTys p.l.binds) none), (.c 17 1, .v (.int .i64 p.l.kind)), (.c 17 2, .v (.int .i64 p.l.index)), (.c 17 3, .sl 4 (eTms p.l.args) none), (.c 17 4, .sl 2 (eTys p.r.binds) none), (.c 17 5, .v (.int .i64 p.r.kind)), (.c 17 6, .v (.int .i64 p.r.index)), (.c 17 7, .sl 4 (eTms p.r.args) none), (.c 17 8, .sl 2 (eTys p.m) none)]) 18 (fun j => l.length - j.1) (⟨0, Nat.zero_le _⟩) (VS.toA) fun j => ?_
  obtain ⟨j, hj⟩ := j
  dsimp only
  by_cases hlt : j < l.length
  ·obtain ⟨sx, cx⟩ := hx l[j] (List.getElem_mem hlt)
   have hg := ePrs_getD l j hlt
   obtain ⟨x, hxj⟩ : ∃ x, l[j] = x := ⟨_, rfl⟩
   rw [hxj] at sx cx hg
   have zx := sx.sizes
   have xl := sx.l.1
   have xr := sx.r.1
   have xm := sx.ml
   have fx := of17_d x (by omega) (by omega) (by omega)
   have ex := same17_d x x (by omega) (by omega)
   rw [decide_eq_true rfl] at ex
   rw [ePr_at] at cx hg fx ex
   refine dw_seq ?_; refine dw_seq ?_; refine dwk [(56, .v (.int .i64 (↑l.length))), (57, .v (.bool true))] TRN_ok hnt fun K hK => ?_; refine And.intro (dintE (by rw [ePrs_len])) ?_; refine And.intro auT ?_; refine hK _ _ ?_; clear hK K; refine dw_cond (t := true) rfl ?_; rw [if_pos rfl]; refine dw_skip ?_; refine dw_seq ?_; refine dw_block ?_; refine dw_seq ?_; refine dwkD [(62, .q [.sl 2 (eTys x.l.binds) none, .v (.int .i64 x.l.kind), .v (.int .i64 x.l.index), .sl 4 (eTms x.l.args) none, .sl 2 (eTys x.r.binds) none, .v (.int .i64 x.r.kind), .v (.int .i64 x.r.index), .sl 4 (eTms x.r.args) none, .sl 2 (eTys x.m) none]), (67, .q [.sl 2 (eTys x.l.binds) none, .v (.int .i64 x.l.kind), .v (.int .i64 x.l.index), .sl 4 (eTms x.l.args) none, .sl 2 (eTys x.r.binds) none, .v (.int .i64 x.r.kind), .v (.int .i64 x.r.index), .sl 4 (eTms x.r.args) none, .sl 2 (eTys x.m) none]), (75, .q [.sl 2 (eTys x.l.binds) none, .v (.int .i64 x.l.kind), .v (.int .i64 x.l.index), .sl 4 (eTms x.l.args) none, .sl 2 (eTys x.r.binds) none, .v (.int .i64 x.r.kind), .v (.int .i64 x.r.index), .sl 4 (eTms x.r.args) none, .sl 2 (eTys x.m) none]), (78, .v (.bool false))] TRN_ok hnt fun K hK => ?_
   refine And.intro (⟨by omega, by rw [ePrs_len]; omega⟩) ?_; refine And.intro (VLe.of_eq (by rw [Int.toNat_natCast, hg])) ?_; refine dcl (fx) ?_; refine And.intro (⟨by omega, by rw [ePrs_len]; omega⟩) ?_; refine And.intro (VLe.of_eq (by rw [Int.toNat_natCast, hg])) ?_; refine dcl (ex) ?_; refine And.intro (⟨by omega, by rw [ePrs_len]; omega⟩) ?_; refine And.intro (VLe.of_eq (by rw [Int.toNat_natCast, hg])) ?_
   refine dcl (cx) ?_; refine And.intro (bneF rfl) ?_; refine hK _ _ (by kernel_rfl) ?_; clear hK K; refine dw_cond (t := false) rfl ?_; rw [if_neg (by simp)]; refine dw_skip ?_; refine dwk [(59, .v (.int .i64 (↑(j + 1))))] TRN_ok hnt fun K hK => ?_; refine And.intro auI ?_; refine hK _ _ ?_; clear hK K
   refine ⟨⟨j + 1, hlt⟩, by first | omega | (dsimp only; omega), VS.toA⟩
  ·skip
   refine dw_seq ?_; refine dw_seq ?_; refine dwk [(56, .v (.int .i64 (↑l.length))), (57, .v (.bool false))] TRN_ok hnt fun K hK => ?_; refine And.intro (dintE (by rw [ePrs_len])) ?_; refine And.intro auF ?_; refine hK _ _ ?_; clear hK K; refine dw_cond (t := false) rfl ?_; rw [if_neg (by simp)]; refine dw_exit ?_; refine dw_seq ?_; refine dwk [] TRN_ok hnt fun K hK => ?_; refine dcl (hrw) ?_; refine hK _ _ ?_; clear hK K
   refine dw_seq ?_; refine dwkD [(89, .v (.bool true)), (94, .v (.int .i64 (↑C.length))), (97, .v (.int .i64 (↑C.length))), (98, .v (.bool true)), (103, .v (.int .i64 (↑p.m.length))), (106, .v (.int .i64 (↑p.m.length))), (107, .v (.bool true))] TRN_ok hnt fun K hK => ?_; refine dcl (hk) ?_; refine And.intro (beqT rfl) ?_; refine And.intro (dintE (by rw [eTys_len])) ?_; refine And.intro (dintE (by rw [eTys_len])) ?_
   refine And.intro (beqT rfl) ?_; refine And.intro (dintE (by rw [eTys_len])) ?_; refine And.intro (dintE (by rw [eTys_len])) ?_; refine And.intro (beqT rfl) ?_; refine dcl (hOf) ?_; refine dcl (hSp) ?_; refine hK _ _ (by kernel_rfl) ?_; clear hK K; refine dw_ret ?_
   exact reta rfl
end Go.Proofs.YtdmiekaeodcehaaGreat

