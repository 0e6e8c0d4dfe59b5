/-
  What rule.Typed and the document's Typed call, as deep contracts. Typed and Check: rule's and the document's. Check: rule's and the document's. The known answer of the laws of layer 17. RuleOwns, walked in the deep way.
-/
import Derived.Test.YtdmiekaeodcehaaGreatRowRuleOwnsp7
import Derived.Test.YtdmiekaeodcehaaGreatRowRuleOwnsp8
import Derived.Test.YtdmiekaeodcehaaGreatRowRuleOwnsp6
set_option maxRecDepth 100000
set_option maxHeartbeats 1000000
set_option linter.unusedVariables false
set_option linter.unusedSimpArgs false
namespace Go.Proofs.YtdmiekaeodcehaaGreat
open Go.RowKit
def TRE_91 : TI := ⟨2, true, [Value.slice none 0 0, Value.int IntKind.i64 0], [(0, 1, false), (1, 1, false)], none, 32, 6, none, false⟩
theorem TRE_91_ok : TypOk Tryz.prog 91 TRE_91 := ⟨by kernel_rfl, by kernel_rfl, by kernel_rfl, by kernel_rfl, by kernel_rfl⟩
def TRE_3 : TI := ⟨1, false, [Value.int IntKind.i64 0], [], none, 8, 2, none, false⟩
theorem TRE_3_ok : TypOk Tryz.prog 3 TRE_3 := ⟨by kernel_rfl, by kernel_rfl, by kernel_rfl, by kernel_rfl, by kernel_rfl⟩
def TRE_22 : TI := ⟨1, false, [Value.slice none 0 0], [], some 91, 24, 5, none, false⟩
theorem TRE_22_ok : TypOk Tryz.prog 22 TRE_22 := ⟨by kernel_rfl, by kernel_rfl, by kernel_rfl, by kernel_rfl, by kernel_rfl⟩
def TRE_24 : TI := ⟨2, true, [Value.int IntKind.i64 0, Value.int IntKind.i64 0], [(0, 1, false), (1, 1, false)], none, 16, 6, none, true⟩
theorem TRE_24_ok : TypOk Tryz.prog 24 TRE_24 := ⟨by kernel_rfl, by kernel_rfl, by kernel_rfl, by kernel_rfl, by kernel_rfl⟩
def TRE_54 : TI := ⟨3, true, [Value.int IntKind.i64 0, Value.slice none 0 0, Value.slice none 0 0], [(0, 1, false), (1, 1, false), (2, 1, false)], none, 56, 6, none, false⟩
theorem TRE_54_ok : TypOk Tryz.prog 54 TRE_54 := ⟨by kernel_rfl, by kernel_rfl, by kernel_rfl, by kernel_rfl, by kernel_rfl⟩
def TRE_27 : TI := ⟨4, true, [Value.slice none 0 0, Value.int IntKind.i64 0, Value.int IntKind.i64 0, Value.slice none 0 0], [(0, 1, false), (1, 2, true), (3, 1, false)], none, 64, 6, none, false⟩
theorem TRE_27_ok : TypOk Tryz.prog 27 TRE_27 := ⟨by kernel_rfl, by kernel_rfl, by kernel_rfl, by kernel_rfl, by kernel_rfl⟩
def TRE : List (Nat × TI) := [(91, TRE_91), (3, TRE_3), (22, TRE_22), (24, TRE_24), (54, TRE_54), (27, TRE_27)]
theorem TRE_ok : TabOk Tryz.prog TRE := (((((((TabOk.nil _).cons TRE_27_ok).cons TRE_54_ok).cons TRE_24_ok).cons TRE_22_ok).cons TRE_3_ok).cons TRE_91_ok)
theorem tworld_d (b : Int) (C M : List Ty) (c : Bool) (hc : c = true ↔ RightWd b C M) (hz : ∀ t ∈ C ++ M, t.size ≤ 400000) : PureC Tryz.prog 55 [.ag [.v (.int .i64 b), .sl 2 (eTys C) none, .sl 2 (eTys M) none]] (.v (.bool c)) := by
  refine pure_below (by kernel_rfl) fun m Im w vs hv => ?_
  match vs, hv with
  | [x1], hv =>
    obtain ⟨cv, mv, rfl, h1, h2⟩ := agWorld hv.1
    refine (RightWorld_k h1 h2 hz).mono ?_
    rintro e w' ⟨c', hc', rfl, hb⟩
    have : c' = c := by rw [Bool.eq_iff_iff, hc', hc]
    subst this
    exact ⟨_, rfl, hb, fun _ _ _ => .v _⟩
theorem trworld_d (b : Int) (C M : List Ty) (c : Bool) (hc : c = true ↔ RightWd b C M) : PureC Tryz.prog 61 [.ag [.v (.int .i64 b), .sl 2 (eTys C) none, .sl 2 (eTys M) none]] (.v (.bool c)) := by
  refine pure_below (by kernel_rfl) fun m Im w vs hv => ?_
  match vs, hv with
  | [x1], hv =>
    obtain ⟨cv, mv, rfl, h1, h2⟩ := agWorld hv.1
    refine (RightWorld_r h1 h2).mono ?_
    rintro e w' ⟨c', hc', rfl, hb⟩
    have : c' = c := by rw [Bool.eq_iff_iff, hc', hc]
    subst this
    exact ⟨_, rfl, hb, fun _ _ _ => .v _⟩
def tyOf (C M : List Ty) (t : Tm) : Option Ty := (headTy C M ([] ++ t.binds) t.kind t.index).map fun h => .mk t.binds h.base
theorem ttype_d (b : Int) (C M : List Ty) (t : Tm) (hi : t.index ≤ 9223372036854775807) (hz : t.full ≤ 40000) :
    PureC Tryz.prog 57 [.ag [.v (.int .i64 b), .sl 2 (eTys C) none, .sl 2 (eTys M) none], .v (.slice none 0 0), .ag (eTm t)] (.tu [.ag (eTy ((tyOf C M t).getD tyZ)), .v (.int .i64 (if (tyOf C M t).isSome then 0 else 10))]) := by
  unfold tyOf
  refine pure_below (by kernel_rfl) fun m Im w vs hv => ?_
  match vs, hv with
  | [x1, x2, x3], hv =>
    obtain ⟨cv, mv, rfl, h1, h2⟩ := agWorld hv.1
    have := rel_v.1 hv.2.1; subst this
    obtain ⟨b0, k, i, a, rfl, ht⟩ := agTm hv.2.2.1
    refine (TypeOf_k (F := fun q => q < w.heap.size) (fun _ h => h) (h1.low (by decide)) (h2.low (by decide)) ((IsSl2.of ((isSl_nil rpTy (fun _ => True) w).low (by decide))).anyRow (by decide)) (ht.weaken fun _ hq _ => hq) hi (by simp) hz).mono ?_
    rintro e w' ⟨s, ub, rfl, h3, hb⟩
    exact ⟨_, rfl, hb, fun Im' _ hI => rel_tu.2 ⟨_, rfl, rel_ag.2 ⟨_, rfl, rel_of_ty (fun b o v hq hc => hI b o v hq hc) _ h3⟩, .v _, trivial⟩⟩
set_option maxHeartbeats 2000000 in
theorem rheadA_d (b : Int) (C M X : List Ty) (k i : Int) (hC : C.length ≤ 1000000) (hM : M.length ≤ 1000000) (hX : X.length ≤ 1000000) : PureC Tryz.prog 106 [.ag [.v (.int .i64 b), .sl 2 (eTys C) none, .sl 2 (eTys M) none], .sl 2 (eTys X) none, .ag [.v (.int .i64 k), .v (.int .i64 i)]] (.tu [.ag (eTy ((headTy C M X k i).getD tyZ)), .v (.bool (headTy C M X k i).isSome)]) := by
 by_cases hi : i < 0
 ·rw [headTy_neg hi]
  simp only [Option.getD_none, Option.isSome_none]
  rw [tyZ_eq]
  refine calldw 0 70 [ResultVar.cell 6 91, ResultVar.tmp 7] TRE_ok Tryz.func106 rfl Tryz.ntmps106 rfl fun cx hnt hn0 => ?_
  ·skip
   refine dw_seq ?_; refine dwk [] TRE_ok hnt fun K hK => ?_; refine hK _ _ ?_; clear hK K; refine dw_seq ?_; refine dw_block ?_; refine dw_seq ?_; refine dwk [(11, .v (.bool true))] TRE_ok hnt fun K hK => ?_; refine And.intro auT ?_; refine hK _ _ ?_; clear hK K; refine dw_cond (t := true) rfl ?_; rw [if_pos rfl]; refine dw_seq ?_; refine dwk [] TRE_ok hnt fun K hK => ?_; refine hK _ _ ?_; clear hK K
   refine dw_ret ?_
   exact reta rfl
 ·obtain ⟨n, rfl⟩ := Int.eq_ofNat_of_zero_le (Int.not_lt.1 hi)
  by_cases k0 : k = 0
  ·subst k0
   rw [headTy_0]
   by_cases hl : n < X.length
   ·have hx : X.length - 1 - n < X.length := by omega
    rw [List.getElem?_reverse (by omega), List.getElem?_eq_getElem hx]
    simp only [Option.getD_some, Option.isSome_some]
    rw [eTy_eq]
    have hg : (eTys X).getD ((X.length : Int) - 1 - (n : Int)).toNat [] = [.sl 2 (eTys (X[X.length - 1 - n]).args) none, .v (.int .i64 (X[X.length - 1 - n]).base)] := by rw [show ((X.length : Int) - 1 - (n : Int)).toNat = X.length - 1 - n by omega, eTys_getD X _ hx, eTy_eq]
    refine calldw 0 70 [ResultVar.cell 6 91, ResultVar.tmp 7] TRE_ok Tryz.func106 rfl Tryz.ntmps106 rfl fun cx hnt hn0 => ?_
    ·skip
     refine dw_seq ?_; refine dwk [] TRE_ok hnt fun K hK => ?_; refine hK _ _ ?_; clear hK K; refine dw_seq ?_; refine dw_block ?_; refine dw_seq ?_; refine dwk [(11, .v (.bool false))] TRE_ok hnt fun K hK => ?_; refine And.intro auF ?_; refine hK _ _ ?_; clear hK K; refine dw_cond (t := false) rfl ?_; rw [if_neg (by simp)]; refine dw_seq ?_; refine dwk [(16, .v (.bool true)), (21, .v (.int .i64 (↑X.length))), (22, .v (.bool true))] TRE_ok hnt fun K hK => ?_
     refine And.intro (VLe.refl _) ?_; refine And.intro (dintE (by rw [eTys_len])) ?_; refine And.intro auT ?_; refine hK _ _ ?_; clear hK K; refine dw_cond (t := true) rfl ?_; rw [if_pos rfl]; refine dw_seq ?_; refine dwk [(26, .v (.int .i64 (↑X.length))), (27, .v (.int .i64 ((↑X.length - 1)))), (30, .v (.int .i64 ((↑X.length - 1 - ↑n)))), (31, .q [.sl 2 (eTys (X[X.length - 1 - n]).args) none, .v (.int .i64 (X[X.length - 1 - n]).base)])] TRE_ok hnt fun K hK => ?_
     refine And.intro (dintE (by rw [eTys_len])) ?_; refine And.intro auI ?_; refine And.intro auI ?_; refine And.intro (⟨by omega, by rw [eTys_len]; omega⟩) ?_; refine And.intro (VLe.of_eq (by rw [hg])) ?_; refine hK _ _ ?_; clear hK K; refine dw_ret ?_
     exact reta rfl
   ·rw [List.getElem?_eq_none (by simp; omega)]
    simp only [Option.getD_none, Option.isSome_none]
    rw [tyZ_eq]
    refine calldw 0 70 [ResultVar.cell 6 91, ResultVar.tmp 7] TRE_ok Tryz.func106 rfl Tryz.ntmps106 rfl fun cx hnt hn0 => ?_
    ·skip
     refine dw_seq ?_; refine dwk [] TRE_ok hnt fun K hK => ?_; refine hK _ _ ?_; clear hK K; refine dw_seq ?_; refine dw_block ?_; refine dw_seq ?_; refine dwk [(11, .v (.bool false))] TRE_ok hnt fun K hK => ?_; refine And.intro auF ?_; refine hK _ _ ?_; clear hK K; refine dw_cond (t := false) rfl ?_; rw [if_neg (by simp)]; refine dw_seq ?_; refine dwk [(16, .v (.bool true)), (21, .v (.int .i64 (↑X.length))), (22, .v (.bool false))] TRE_ok hnt fun K hK => ?_
     refine And.intro (VLe.refl _) ?_; refine And.intro (dintE (by rw [eTys_len])) ?_; refine And.intro auF ?_; refine hK _ _ ?_; clear hK K; refine dw_cond (t := false) rfl ?_; rw [if_neg (by simp)]; refine dw_seq ?_; refine dwk [(36, .v (.bool false))] TRE_ok hnt fun K hK => ?_; refine And.intro (VLe.refl _) ?_; refine hK _ _ ?_; clear hK K; refine dw_cond (t := false) rfl ?_; rw [if_neg (by simp)]; refine dw_seq ?_
     refine dwk [(54, .v (.bool false))] TRE_ok hnt fun K hK => ?_; refine And.intro (VLe.refl _) ?_; refine hK _ _ ?_; clear hK K; refine dw_cond (t := false) rfl ?_; rw [if_neg (by simp)]; refine dw_skip ?_; refine dw_seq ?_; refine dwk [] TRE_ok hnt fun K hK => ?_; refine hK _ _ ?_; clear hK K; refine dw_ret ?_
     exact reta rfl
  ·by_cases k1 : k = 1
   ·subst k1
    rw [headTy_1]
    by_cases hl : n < C.length
    ·rw [List.getElem?_eq_getElem hl]
     simp only [Option.getD_some, Option.isSome_some]
     rw [eTy_eq]
     refine calldw 0 70 [ResultVar.cell 6 91, ResultVar.tmp 7] TRE_ok Tryz.func106 rfl Tryz.ntmps106 rfl fun cx hnt hn0 => ?_
     ·skip
      refine dw_seq ?_; refine dwk [] TRE_ok hnt fun K hK => ?_; refine hK _ _ ?_; clear hK K; refine dw_seq ?_; refine dw_block ?_; refine dw_seq ?_; refine dwk [(11, .v (.bool false))] TRE_ok hnt fun K hK => ?_; refine And.intro auF ?_; refine hK _ _ ?_; clear hK K; refine dw_cond (t := false) rfl ?_; rw [if_neg (by simp)]; refine dw_seq ?_; refine dwk [(16, .v (.bool false))] TRE_ok hnt fun K hK => ?_
      refine And.intro (VLe.refl _) ?_; refine hK _ _ ?_; clear hK K; refine dw_cond (t := false) rfl ?_; rw [if_neg (by simp)]; refine dw_seq ?_; refine dwk [(36, .v (.bool true)), (42, .v (.int .i64 (↑C.length))), (43, .v (.bool true))] TRE_ok hnt fun K hK => ?_; refine And.intro (VLe.refl _) ?_; refine And.intro (dintE (by rw [eTys_len])) ?_; refine And.intro auT ?_; refine hK _ _ ?_; clear hK K; refine dw_cond (t := true) rfl ?_
      rw [if_pos rfl]; refine dw_seq ?_; refine dwk [(49, .q [.sl 2 (eTys C[n].args) none, .v (.int .i64 C[n].base)])] TRE_ok hnt fun K hK => ?_; refine And.intro (elo (eTys_len C)) ?_; refine And.intro (elv (eTys_getD C n) (eTy_eq _)) ?_; refine hK _ _ ?_; clear hK K; refine dw_ret ?_
      exact reta rfl
    ·rw [List.getElem?_eq_none (by omega)]
     simp only [Option.getD_none, Option.isSome_none]
     rw [tyZ_eq]
     refine calldw 0 70 [ResultVar.cell 6 91, ResultVar.tmp 7] TRE_ok Tryz.func106 rfl Tryz.ntmps106 rfl fun cx hnt hn0 => ?_
     ·skip
      refine dw_seq ?_; refine dwk [] TRE_ok hnt fun K hK => ?_; refine hK _ _ ?_; clear hK K; refine dw_seq ?_; refine dw_block ?_; refine dw_seq ?_; refine dwk [(11, .v (.bool false))] TRE_ok hnt fun K hK => ?_; refine And.intro auF ?_; refine hK _ _ ?_; clear hK K; refine dw_cond (t := false) rfl ?_; rw [if_neg (by simp)]; refine dw_seq ?_; refine dwk [(16, .v (.bool false))] TRE_ok hnt fun K hK => ?_
      refine And.intro (VLe.refl _) ?_; refine hK _ _ ?_; clear hK K; refine dw_cond (t := false) rfl ?_; rw [if_neg (by simp)]; refine dw_seq ?_; refine dwk [(36, .v (.bool true)), (42, .v (.int .i64 (↑C.length))), (43, .v (.bool false))] TRE_ok hnt fun K hK => ?_; refine And.intro (VLe.refl _) ?_; refine And.intro (dintE (by rw [eTys_len])) ?_; refine And.intro auF ?_; refine hK _ _ ?_; clear hK K; refine dw_cond (t := false) rfl ?_
      rw [if_neg (by simp)]; refine dw_seq ?_; refine dwk [(54, .v (.bool false))] TRE_ok hnt fun K hK => ?_; refine And.intro (VLe.refl _) ?_; refine hK _ _ ?_; clear hK K; refine dw_cond (t := false) rfl ?_; rw [if_neg (by simp)]; refine dw_skip ?_; refine dw_seq ?_; refine dwk [] TRE_ok hnt fun K hK => ?_; refine hK _ _ ?_; clear hK K; refine dw_ret ?_
      exact reta rfl
   ·by_cases k2 : k = 2
    ·subst k2
     rw [headTy_2]
     by_cases hl : n < M.length
     ·rw [List.getElem?_eq_getElem hl]
      simp only [Option.getD_some, Option.isSome_some]
      rw [eTy_eq]
      refine calldw 0 70 [ResultVar.cell 6 91, ResultVar.tmp 7] TRE_ok Tryz.func106 rfl Tryz.ntmps106 rfl fun cx hnt hn0 => ?_
      ·skip
       refine dw_seq ?_; refine dwk [] TRE_ok hnt fun K hK => ?_; refine hK _ _ ?_; clear hK K; refine dw_seq ?_; refine dw_block ?_; refine dw_seq ?_; refine dwk [(11, .v (.bool false))] TRE_ok hnt fun K hK => ?_; refine And.intro auF ?_; refine hK _ _ ?_; clear hK K; refine dw_cond (t := false) rfl ?_; rw [if_neg (by simp)]; refine dw_seq ?_; refine dwk [(16, .v (.bool false))] TRE_ok hnt fun K hK => ?_
       refine And.intro (VLe.refl _) ?_; refine hK _ _ ?_; clear hK K; refine dw_cond (t := false) rfl ?_; rw [if_neg (by simp)]; refine dw_seq ?_; refine dwk [(36, .v (.bool false))] TRE_ok hnt fun K hK => ?_; refine And.intro (VLe.refl _) ?_; refine hK _ _ ?_; clear hK K; refine dw_cond (t := false) rfl ?_; rw [if_neg (by simp)]; refine dw_seq ?_; refine dwk [(54, .v (.bool true)), (60, .v (.int .i64 (↑M.length))), (61, .v (.bool true))] TRE_ok hnt fun K hK => ?_
       refine And.intro (VLe.refl _) ?_; refine And.intro (dintE (by rw [eTys_len])) ?_; refine And.intro auT ?_; refine hK _ _ ?_; clear hK K; refine dw_cond (t := true) rfl ?_; rw [if_pos rfl]; refine dw_seq ?_; refine dwk [(67, .q [.sl 2 (eTys M[n].args) none, .v (.int .i64 M[n].base)])] TRE_ok hnt fun K hK => ?_; refine And.intro (elo (eTys_len M)) ?_; refine And.intro (elv (eTys_getD M n) (eTy_eq _)) ?_
       refine hK _ _ ?_; clear hK K; refine dw_ret ?_
       exact reta rfl
     ·rw [List.getElem?_eq_none (by omega)]
      simp only [Option.getD_none, Option.isSome_none]
      rw [tyZ_eq]
      refine calldw 0 70 [ResultVar.cell 6 91, ResultVar.tmp 7] TRE_ok Tryz.func106 rfl Tryz.ntmps106 rfl fun cx hnt hn0 => ?_
      ·skip
       refine dw_seq ?_; refine dwk [] TRE_ok hnt fun K hK => ?_; refine hK _ _ ?_; clear hK K; refine dw_seq ?_; refine dw_block ?_; refine dw_seq ?_; refine dwk [(11, .v (.bool false))] TRE_ok hnt fun K hK => ?_; refine And.intro auF ?_; refine hK _ _ ?_; clear hK K; refine dw_cond (t := false) rfl ?_; rw [if_neg (by simp)]; refine dw_seq ?_; refine dwk [(16, .v (.bool false))] TRE_ok hnt fun K hK => ?_
       refine And.intro (VLe.refl _) ?_; refine hK _ _ ?_; clear hK K; refine dw_cond (t := false) rfl ?_; rw [if_neg (by simp)]; refine dw_seq ?_; refine dwk [(36, .v (.bool false))] TRE_ok hnt fun K hK => ?_; refine And.intro (VLe.refl _) ?_; refine hK _ _ ?_; clear hK K; refine dw_cond (t := false) rfl ?_; rw [if_neg (by simp)]; refine dw_seq ?_; refine dwk [(54, .v (.bool true)), (60, .v (.int .i64 (↑M.length))), (61, .v (.bool false))] TRE_ok hnt fun K hK => ?_
       refine And.intro (VLe.refl _) ?_; refine And.intro (dintE (by rw [eTys_len])) ?_; refine And.intro auF ?_; refine hK _ _ ?_; clear hK K; refine dw_cond (t := false) rfl ?_; rw [if_neg (by simp)]; refine dw_skip ?_; refine dw_seq ?_; refine dwk [] TRE_ok hnt fun K hK => ?_; refine hK _ _ ?_; clear hK K; refine dw_ret ?_
       exact reta rfl
    ·rw [headTy_o k0 k1 k2]
     simp only [Option.getD_none, Option.isSome_none]
     rw [tyZ_eq]
     refine calldw 0 70 [ResultVar.cell 6 91, ResultVar.tmp 7] TRE_ok Tryz.func106 rfl Tryz.ntmps106 rfl fun cx hnt hn0 => ?_
     ·skip
      refine dw_seq ?_; refine dwk [] TRE_ok hnt fun K hK => ?_; refine hK _ _ ?_; clear hK K; refine dw_seq ?_; refine dw_block ?_; refine dw_seq ?_; refine dwk [(11, .v (.bool false))] TRE_ok hnt fun K hK => ?_; refine And.intro auF ?_; refine hK _ _ ?_; clear hK K; refine dw_cond (t := false) rfl ?_; rw [if_neg (by simp)]; refine dw_seq ?_; refine dwk [(16, .v (.bool false))] TRE_ok hnt fun K hK => ?_
      refine And.intro (beqF k0) ?_; refine hK _ _ ?_; clear hK K; refine dw_cond (t := false) rfl ?_; rw [if_neg (by simp)]; refine dw_seq ?_; refine dwk [(36, .v (.bool false))] TRE_ok hnt fun K hK => ?_; refine And.intro (beqF k1) ?_; refine hK _ _ ?_; clear hK K; refine dw_cond (t := false) rfl ?_; rw [if_neg (by simp)]; refine dw_seq ?_; refine dwk [(54, .v (.bool false))] TRE_ok hnt fun K hK => ?_
      refine And.intro (beqF k2) ?_; refine hK _ _ ?_; clear hK K; refine dw_cond (t := false) rfl ?_; rw [if_neg (by simp)]; refine dw_skip ?_; refine dw_seq ?_; refine dwk [] TRE_ok hnt fun K hK => ?_; refine hK _ _ ?_; clear hK K; refine dw_ret ?_
      exact reta rfl
theorem rtype_d (b : Int) (C M : List Ty) (t : Tm) (hC : C.length ≤ 1000000) (hM : M.length ≤ 1000000) (hz : t.full ≤ 40000) :
  PureC Tryz.prog 63 [.ag [.v (.int .i64 b), .sl 2 (eTys C) none, .sl 2 (eTys M) none], .v (.slice none 0 0), .ag (eTm t)] (.tu [.ag (eTy ((tyOf C M t).getD tyZ)), .v (.bool (tyOf C M t).isSome)]) := by
 have hbl := Ty.le_sizes t.binds
 have hfl := full_args t
 have hbe : PureC Tryz.prog 53 [.v (.slice none 0 0), .sl 2 (eTys t.binds) none] (.sl 2 (eTys ([] ++ t.binds)) none) := CallC.vle (rbehind_d [] t.binds (by simp; omega)) (.cons (VLe.nil _) (.cons (VLe.refl _) .nil)) (VLe.refl _)
 have hh := rheadA_d b C M ([] ++ t.binds) t.kind t.index hC hM (by simp; omega)
 unfold tyOf
 obtain ⟨o, ho⟩ : ∃ o, headTy C M ([] ++ t.binds) t.kind t.index = o := ⟨_, rfl⟩
 obtain ⟨X, hX⟩ : ∃ X, [] ++ t.binds = X := ⟨_, rfl⟩
 rw [hX] at hh hbe ho ⊢
 rw [ho] at hh ⊢
 rw [eTm_eq]
 cases o with
 | none =>
  simp only [Option.map_none, Option.getD_none, Option.isSome_none] at hh ⊢
  rw [tyZ_eq] at hh ⊢
  refine calldw 0 29 [ResultVar.cell 6 91, ResultVar.tmp 7] TRE_ok Tryz.func63 rfl Tryz.ntmps63 rfl fun cx hnt hn0 => ?_
  ·skip
   refine dw_seq ?_; refine dwk [] TRE_ok hnt fun K hK => ?_; refine hK _ _ ?_; clear hK K; refine dw_seq ?_; refine dwkD [] TRE_ok hnt fun K hK => ?_; refine dcl (hbe) ?_; refine dcl (hh) ?_; refine hK _ _ (by kernel_rfl) ?_; clear hK K; refine dw_seq ?_; refine dw_seq ?_; refine dwk [] TRE_ok hnt fun K hK => ?_; refine hK _ _ ?_; clear hK K; refine dw_cond (t := true) rfl ?_; rw [if_pos rfl]; refine dw_seq ?_
   refine dwk [] TRE_ok hnt fun K hK => ?_; refine hK _ _ ?_; clear hK K; refine dw_ret ?_
   exact reta rfl
 | some h =>
  simp only [Option.map_some, Option.getD_some, Option.isSome_some] at hh ⊢
  rw [eTy_eq] at hh ⊢
  simp only [args_mk', base_mk']
  refine calldw 0 29 [ResultVar.cell 6 91, ResultVar.tmp 7] TRE_ok Tryz.func63 rfl Tryz.ntmps63 rfl fun cx hnt hn0 => ?_
  ·skip
   refine dw_seq ?_; refine dwk [] TRE_ok hnt fun K hK => ?_; refine hK _ _ ?_; clear hK K; refine dw_seq ?_; refine dwkD [] TRE_ok hnt fun K hK => ?_; refine dcl (hbe) ?_; refine dcl (hh) ?_; refine hK _ _ (by kernel_rfl) ?_; clear hK K; refine dw_seq ?_; refine dw_seq ?_; refine dwk [] TRE_ok hnt fun K hK => ?_; refine hK _ _ ?_; clear hK K; refine dw_cond (t := false) rfl ?_; rw [if_neg (by simp)]
   refine dw_skip ?_; refine dw_seq ?_; refine dwk [] TRE_ok hnt fun K hK => ?_; refine hK _ _ ?_; clear hK K; refine dw_ret ?_
   exact reta rfl
theorem ris_d (b : Int) (C M : List Ty) (t : Tm) (u : Ty) (c : Bool) (hc : c = true ↔ IsOf C M t [] u) (hz : t.full ≤ 90000) (hf : t.Fit) :
    PureC Tryz.prog 64 [.ag [.v (.int .i64 b), .sl 2 (eTys C) none, .sl 2 (eTys M) none], .v (.slice none 0 0), .ag (eTm t), .ag (eTy u)] (.v (.bool c)) := by
  refine pure_below (by kernel_rfl) fun m Im w vs hv => ?_
  match vs, hv with
  | [x1, x2, x3, x4], hv =>
    obtain ⟨cv, mv, rfl, h1, h2⟩ := agWorld hv.1
    have := rel_v.1 hv.2.1; subst this
    obtain ⟨b0, k, i, a, rfl, ht⟩ := agTm hv.2.2.1
    obtain ⟨s, ub, rfl, hu⟩ := agTy9 hv.2.2.2.1
    refine (is_r (F := fun q => q < w.heap.size) t w _ _ _ _ _ _ _ _ _ [] u (fun _ h => h) (h1.low (by decide)) (h2.low (by decide)) ((IsSl2.of ((isSl_nil rpTy (fun _ => True) w).low (by decide))).anyRow (by decide)) (ht.weaken fun _ hq _ => hq) (hu.weaken fun _ hq _ => hq) (by simp; omega) hf).mono ?_
    rintro e w' ⟨c', hc', rfl, hb⟩
    have : c' = c := by rw [Bool.eq_iff_iff, hc', hc]
    subst this
    exact ⟨_, rfl, hb, fun _ _ _ => .v _⟩
theorem tcheck_d (b : Int) (C M : List Ty) (t : Tm) (u : Ty) (c : Int) (hc : checkCode C M t [] u c) (hz : t.full ≤ 90000) (hfit : t.Fit) :
    PureC Tryz.prog 59 [.ag [.v (.int .i64 b), .sl 2 (eTys C) none, .sl 2 (eTys M) none], .v (.slice none 0 0), .ag (eTm t), .ag (eTy u)] (.v (.int .i64 c)) :=
  CallC.vle (check_d b C M [] t u c hc (by simp; omega) hfit) (.cons (VLe.refl _) (.cons (VLe.nil _) (.cons (VLe.refl _) (.cons (VLe.refl _) .nil)))) (VLe.refl _)
end Go.Proofs.YtdmiekaeodcehaaGreat

namespace Go.Proofs.YtdmiekaeodcehaaGreat
open Go.RowKit
def TRF_54 : TI := ⟨3, true, [Value.int IntKind.i64 0, Value.slice none 0 0, Value.slice none 0 0], [(0, 1, false), (1, 1, false), (2, 1, false)], none, 56, 6, none, false⟩
theorem TRF_54_ok : TypOk Tryz.prog 54 TRF_54 := ⟨by kernel_rfl, by kernel_rfl, by kernel_rfl, by kernel_rfl, by kernel_rfl⟩
def TRF_3 : TI := ⟨1, false, [Value.int IntKind.i64 0], [], none, 8, 2, none, false⟩
theorem TRF_3_ok : TypOk Tryz.prog 3 TRF_3 := ⟨by kernel_rfl, by kernel_rfl, by kernel_rfl, by kernel_rfl, by kernel_rfl⟩
def TRF_36 : TI := ⟨4, true, [Value.slice none 0 0, Value.int IntKind.i64 0, Value.int IntKind.i64 0, Value.slice none 0 0], [(0, 1, false), (1, 2, true), (3, 1, false)], none, 64, 6, none, false⟩
theorem TRF_36_ok : TypOk Tryz.prog 36 TRF_36 := ⟨by kernel_rfl, by kernel_rfl, by kernel_rfl, by kernel_rfl, by kernel_rfl⟩
def TRF_29 : TI := ⟨9, true, [Value.slice none 0 0, Value.int IntKind.i64 0, Value.int IntKind.i64 0, Value.slice none 0 0, Value.slice none 0 0, Value.int IntKind.i64 0, Value.int IntKind.i64 0, Value.slice none 0 0, Value.slice none 0 0], [(0, 4, true), (4, 4, true), (8, 1, false)], none, 152, 6, none, false⟩
theorem TRF_29_ok : TypOk Tryz.prog 29 TRF_29 := ⟨by kernel_rfl, by kernel_rfl, by kernel_rfl, by kernel_rfl, by kernel_rfl⟩
def TRF_48 : TI := ⟨3, true, [Value.int IntKind.i64 0, Value.slice none 0 0, Value.slice none 0 0], [(0, 1, false), (1, 1, false), (2, 1, false)], none, 56, 6, none, false⟩
theorem TRF_48_ok : TypOk Tryz.prog 48 TRF_48 := ⟨by kernel_rfl, by kernel_rfl, by kernel_rfl, by kernel_rfl, by kernel_rfl⟩
def TRF_27 : TI := ⟨4, true, [Value.slice none 0 0, Value.int IntKind.i64 0, Value.int IntKind.i64 0, Value.slice none 0 0], [(0, 1, false), (1, 2, true), (3, 1, false)], none, 64, 6, none, false⟩
theorem TRF_27_ok : TypOk Tryz.prog 27 TRF_27 := ⟨by kernel_rfl, by kernel_rfl, by kernel_rfl, by kernel_rfl, by kernel_rfl⟩
def TRF_38 : TI := ⟨9, true, [Value.slice none 0 0, Value.int IntKind.i64 0, Value.int IntKind.i64 0, Value.slice none 0 0, Value.slice none 0 0, Value.int IntKind.i64 0, Value.int IntKind.i64 0, Value.slice none 0 0, Value.slice none 0 0], [(0, 4, true), (4, 4, true), (8, 1, false)], none, 152, 6, none, false⟩
theorem TRF_38_ok : TypOk Tryz.prog 38 TRF_38 := ⟨by kernel_rfl, by kernel_rfl, by kernel_rfl, by kernel_rfl, by kernel_rfl⟩
def TRF_82 : TI := ⟨1, false, [Value.slice none 0 0], [], some 3, 24, 5, none, false⟩
theorem TRF_82_ok : TypOk Tryz.prog 82 TRF_82 := ⟨by kernel_rfl, by kernel_rfl, by kernel_rfl, by kernel_rfl, by kernel_rfl⟩
def TRF_22 : TI := ⟨1, false, [Value.slice none 0 0], [], some 91, 24, 5, none, false⟩
theorem TRF_22_ok : TypOk Tryz.prog 22 TRF_22 := ⟨by kernel_rfl, by kernel_rfl, by kernel_rfl, by kernel_rfl, by kernel_rfl⟩
def TRF_91 : TI := ⟨2, true, [Value.slice none 0 0, Value.int IntKind.i64 0], [(0, 1, false), (1, 1, false)], none, 32, 6, none, false⟩
theorem TRF_91_ok : TypOk Tryz.prog 91 TRF_91 := ⟨by kernel_rfl, by kernel_rfl, by kernel_rfl, by kernel_rfl, by kernel_rfl⟩
def TRF_32 : TI := ⟨1, false, [Value.slice none 0 0], [], some 75, 24, 5, none, false⟩
theorem TRF_32_ok : TypOk Tryz.prog 32 TRF_32 := ⟨by kernel_rfl, by kernel_rfl, by kernel_rfl, by kernel_rfl, by kernel_rfl⟩
def TRF_75 : TI := ⟨2, true, [Value.slice none 0 0, Value.int IntKind.i64 0], [(0, 1, false), (1, 1, false)], none, 32, 6, none, false⟩
theorem TRF_75_ok : TypOk Tryz.prog 75 TRF_75 := ⟨by kernel_rfl, by kernel_rfl, by kernel_rfl, by kernel_rfl, by kernel_rfl⟩
def TRF_34 : TI := ⟨1, false, [Value.slice none 0 0], [], some 36, 24, 5, none, false⟩
theorem TRF_34_ok : TypOk Tryz.prog 34 TRF_34 := ⟨by kernel_rfl, by kernel_rfl, by kernel_rfl, by kernel_rfl, by kernel_rfl⟩
def TRF_25 : TI := ⟨1, false, [Value.slice none 0 0], [], some 27, 24, 5, none, false⟩
theorem TRF_25_ok : TypOk Tryz.prog 25 TRF_25 := ⟨by kernel_rfl, by kernel_rfl, by kernel_rfl, by kernel_rfl, by kernel_rfl⟩
def TRF_39 : TI := ⟨1, false, [Value.int IntKind.i64 0], [], none, 8, 2, none, false⟩
theorem TRF_39_ok : TypOk Tryz.prog 39 TRF_39 := ⟨by kernel_rfl, by kernel_rfl, by kernel_rfl, by kernel_rfl, by kernel_rfl⟩
def TRF_115 : TI := ⟨1, false, [Value.nilFunc], [], none, 8, 8, none, false⟩
theorem TRF_115_ok : TypOk Tryz.prog 115 TRF_115 := ⟨by kernel_rfl, by kernel_rfl, by kernel_rfl, by kernel_rfl, by kernel_rfl⟩
def TRF_33 : TI := ⟨2, true, [Value.int IntKind.i64 0, Value.int IntKind.i64 0], [(0, 1, false), (1, 1, false)], none, 16, 6, none, true⟩
theorem TRF_33_ok : TypOk Tryz.prog 33 TRF_33 := ⟨by kernel_rfl, by kernel_rfl, by kernel_rfl, by kernel_rfl, by kernel_rfl⟩
def TRF_24 : TI := ⟨2, true, [Value.int IntKind.i64 0, Value.int IntKind.i64 0], [(0, 1, false), (1, 1, false)], none, 16, 6, none, true⟩
theorem TRF_24_ok : TypOk Tryz.prog 24 TRF_24 := ⟨by kernel_rfl, by kernel_rfl, by kernel_rfl, by kernel_rfl, by kernel_rfl⟩
def TRF : List (Nat × TI) := [(54, TRF_54), (3, TRF_3), (36, TRF_36), (29, TRF_29), (48, TRF_48), (27, TRF_27), (38, TRF_38), (82, TRF_82), (22, TRF_22), (91, TRF_91), (32, TRF_32), (75, TRF_75), (34, TRF_34), (25, TRF_25), (39, TRF_39), (115, TRF_115), (33, TRF_33), (24, TRF_24)]
theorem TRF_ok : TabOk Tryz.prog TRF := (((((((((((((((((((TabOk.nil _).cons TRF_24_ok).cons TRF_33_ok).cons TRF_115_ok).cons TRF_39_ok).cons TRF_25_ok).cons TRF_34_ok).cons TRF_75_ok).cons TRF_32_ok).cons TRF_91_ok).cons TRF_22_ok).cons TRF_82_ok).cons TRF_38_ok).cons TRF_27_ok).cons TRF_48_ok).cons TRF_29_ok).cons TRF_36_ok).cons TRF_3_ok).cons TRF_54_ok)
namespace Ru
structure Good (b : Int) (C : List Ty) (p : Li.Pr) : Prop where
  w : RightWd b C p.m
  l : Li.rt p.l = true
  r : Li.rt p.r = true
  u : ∃ u, tyOf C p.m p.l = some u ∧ u.args = [] ∧ IsOf C p.m p.l [] u ∧ IsOf C p.m p.r [] u
end Ru
theorem ruclos_d (b : Int) (C M : List Ty) (u : Ty) (t : Tm) (c : Int) (hc : checkCode C M t [] u c) (hz : t.full ≤ 90000) (hf : t.Fit) :
  CallC Tryz.prog 58 [.ag (eTm t), .p 10 0, .p 34 0] [(.c 10 0, .v (.int .i64 b)), (.c 10 1, .sl 2 (eTys C) none), (.c 10 2, .sl 2 (eTys M) none), (.c 34 0, .sl 2 (eTys u.args) none), (.c 34 1, .v (.int .i64 u.base))] [(.c 10 0, .v (.int .i64 b)), (.c 10 1, .sl 2 (eTys C) none), (.c 10 2, .sl 2 (eTys M) none), (.c 34 0, .sl 2 (eTys u.args) none), (.c 34 1, .v (.int .i64 u.base))] (.v (.bool (decide (c = 0)))) := by
 have h := tcheck_d b C M t u c hc hz hf
 rw [eTm_eq, eTy_eq] at h
 rw [eTm_eq]
 refine calldw 35 10 [ResultVar.tmp 4] TRF_ok Tryz.func58 rfl Tryz.ntmps58 rfl fun cx hnt hn0 => ?_
 ·skip
  refine dw_seq ?_; refine dwk [] TRF_ok hnt fun K hK => ?_; refine hK _ _ ?_; clear hK K; refine dw_seq ?_; refine dwk [(9, .v (.bool (decide (c = 0))))] TRF_ok hnt fun K hK => ?_; refine dcl (h) ?_; refine And.intro (VLe.of_eq (by by_cases h : c = 0 <;> simp [h])) ?_; refine hK _ _ ?_; clear hK K; refine dw_ret ?_
  exact reta rfl
theorem rworld17_d (b : Int) (C Mw : List Ty) (p : Li.Pr) : PureC Tryz.prog 60 [.ag [.v (.int .i64 b), .sl 2 (eTys C) none, .sl 2 (eTys Mw) none], .ag (ePr p)] (.ag [.v (.int .i64 b), .sl 2 (eTys C) none, .sl 2 (eTys p.m) none]) := by
 rw [ePr_at]
 refine calldw 0 12 [ResultVar.cell 4 54] TRF_ok Tryz.func60 rfl Tryz.ntmps60 rfl fun cx hnt hn0 => ?_
 ·skip
  refine dw_seq ?_; refine dwk [] TRF_ok hnt fun K hK => ?_; refine hK _ _ ?_; clear hK K; refine dw_seq ?_; refine dwk [] TRF_ok hnt fun K hK => ?_; refine hK _ _ ?_; clear hK K; refine dw_ret ?_
  exact reta rfl
theorem checkYes {C M : List Ty} {t : Tm} {u : Ty} (h1 : Li.rt t = true) (h2 : IsOf C M t [] u) : checkCode C M t [] u 0 := by
  unfold Li.rt at h1; rw [decide_eq_true_eq] at h1
  exact .inr (.inr ⟨h1, h2, rfl⟩)
theorem checkNo {C M : List Ty} {t : Tm} {u : Ty} (h1 : Li.rt t = true) (h2 : ¬ IsOf C M t [] u) : checkCode C M t [] u 5 := by
  unfold Li.rt at h1; rw [decide_eq_true_eq] at h1
  exact .inr (.inl ⟨h1, h2, rfl⟩)
set_option maxHeartbeats 4000000 in
theorem rutyped_d (b : Int) (C Mw : List Ty) (p : Li.Pr) (hl : p.l.full ≤ 20000 ∧ p.l.Fit) (hr : p.r.full ≤ 20000 ∧ p.r.Fit) (hC : C.length ≤ 900000) (hM : p.m.length ≤ 900000) (hs : ∀ t ∈ C ++ p.m, t.size ≤ 400000) :
  ∃ c : Int, (Ru.Good b C p → c = 0) ∧ PureC Tryz.prog 23 [.ag [.v (.int .i64 b), .sl 2 (eTys C) none, .sl 2 (eTys Mw) none], .ag (ePr p)] (.v (.int .i64 c)) ∧ PureC Tryz.prog 24 [.ag [.v (.int .i64 b), .sl 2 (eTys C) none, .sl 2 (eTys Mw) none], .ag (ePr p)] (.v (.int .i64 c)) := by
 obtain ⟨w, hw⟩ : ∃ w : Bool, w = true ↔ RightWd b C p.m := by
  by_cases h : RightWd b C p.m
  ·exact ⟨true, by simp [h]⟩
  ·exact ⟨false, by simp [h]⟩
 have hW1 := tworld_d b C p.m w hw hs
 have hW2 := trworld_d b C p.m w hw
 have hWd := rworld17_d b C Mw p
 have r1 := right_d p.l (by omega)
 have r2 := right_d p.r (by omega)
 rw [show decide (p.l.size ≤ 5000 ∧ p.l.depth ≤ 60) = Li.rt p.l from rfl] at r1
 rw [show decide (p.r.size ≤ 5000 ∧ p.r.depth ≤ 60) = Li.rt p.r from rfl] at r2
 have q1 := rRight_d p.l (by have := Tm.size_le_full p.l; omega)
 have q2 := rRight_d p.r (by have := Tm.size_le_full p.r; omega)
 have t1 := ttype_d b C p.m p.l (by have := hl.2; generalize p.l = t at this; cases t; exact (Tm.fit_iff.1 this).2.1) (by omega)
 have t2 := rtype_d b C p.m p.l (by omega) (by omega) (by omega)
 rw [ePr_at] at hWd ⊢
 rw [eTm_eq] at r1 r2 q1 q2 t1 t2
 cases w with
 | false =>
  refine ⟨1, fun h => absurd (hw.2 h.w) (by simp), ?_, ?_⟩
  ·skip
   refine calldw 0 59 [ResultVar.tmp 4] TRF_ok Tryz.func23 rfl Tryz.ntmps23 rfl fun cx hnt hn0 => ?_
   ·skip
    refine dw_seq ?_; refine dwk [] TRF_ok hnt fun K hK => ?_; refine hK _ _ ?_; clear hK K; refine dw_seq ?_; refine dwk [] TRF_ok hnt fun K hK => ?_; refine hK _ _ ?_; clear hK K; refine dw_seq ?_; refine dw_block ?_; refine dw_seq ?_; refine dwk [] TRF_ok hnt fun K hK => ?_; refine dcl (hW1) ?_; refine hK _ _ ?_; clear hK K; refine dw_cond (t := true) rfl ?_; rw [if_pos rfl]; refine dw_seq ?_; refine dwk [] TRF_ok hnt fun K hK => ?_
    refine hK _ _ ?_; clear hK K; refine dw_ret ?_
    exact reta rfl
  ·skip
   refine calldw 0 55 [ResultVar.tmp 4] TRF_ok Tryz.func24 rfl Tryz.ntmps24 rfl fun cx hnt hn0 => ?_
   ·skip
    refine dw_seq ?_; refine dwk [] TRF_ok hnt fun K hK => ?_; refine hK _ _ ?_; clear hK K; refine dw_seq ?_; refine dwk [] TRF_ok hnt fun K hK => ?_; refine dcl (hWd) ?_; refine hK _ _ ?_; clear hK K; refine dw_seq ?_; refine dw_seq ?_; refine dwk [] TRF_ok hnt fun K hK => ?_; refine dcl (hW2) ?_; refine hK _ _ ?_; clear hK K; refine dw_cond (t := true) rfl ?_; rw [if_pos rfl]; refine dw_seq ?_; refine dwk [] TRF_ok hnt fun K hK => ?_
    refine hK _ _ ?_; clear hK K; refine dw_ret ?_
    exact reta rfl
 | true =>
 cases hL : Li.rt p.l with
 | false =>
  rw [hL] at r1 q1
  refine ⟨2, fun h => absurd h.l (by rw [hL]; simp), ?_, ?_⟩
  ·skip
   refine calldw 0 59 [ResultVar.tmp 4] TRF_ok Tryz.func23 rfl Tryz.ntmps23 rfl fun cx hnt hn0 => ?_
   ·skip
    refine dw_seq ?_; refine dwk [] TRF_ok hnt fun K hK => ?_; refine hK _ _ ?_; clear hK K; refine dw_seq ?_; refine dwk [] TRF_ok hnt fun K hK => ?_; refine hK _ _ ?_; clear hK K; refine dw_seq ?_; refine dw_block ?_; refine dw_seq ?_; refine dwk [] TRF_ok hnt fun K hK => ?_; refine dcl (hW1) ?_; refine hK _ _ ?_; clear hK K; refine dw_cond (t := false) rfl ?_; rw [if_neg (by simp)]; refine dw_seq ?_
    refine dwk [] TRF_ok hnt fun K hK => ?_; refine dcl (r1) ?_; refine hK _ _ ?_; clear hK K; refine dw_cond (t := true) rfl ?_; rw [if_pos rfl]; refine dw_seq ?_; refine dwk [] TRF_ok hnt fun K hK => ?_; refine hK _ _ ?_; clear hK K; refine dw_ret ?_
    exact reta rfl
  ·skip
   refine calldw 0 55 [ResultVar.tmp 4] TRF_ok Tryz.func24 rfl Tryz.ntmps24 rfl fun cx hnt hn0 => ?_
   ·skip
    refine dw_seq ?_; refine dwk [] TRF_ok hnt fun K hK => ?_; refine hK _ _ ?_; clear hK K; refine dw_seq ?_; refine dwk [] TRF_ok hnt fun K hK => ?_; refine dcl (hWd) ?_; refine hK _ _ ?_; clear hK K; refine dw_seq ?_; refine dw_seq ?_; refine dwk [] TRF_ok hnt fun K hK => ?_; refine dcl (hW2) ?_; refine hK _ _ ?_; clear hK K; refine dw_cond (t := false) rfl ?_; rw [if_neg (by simp)]; refine dw_skip ?_
    refine dw_seq ?_; refine dw_seq ?_; refine dwk [] TRF_ok hnt fun K hK => ?_; refine dcl (q1) ?_; refine hK _ _ ?_; clear hK K; refine dw_cond (t := true) rfl ?_; rw [if_pos rfl]; refine dw_seq ?_; refine dwk [] TRF_ok hnt fun K hK => ?_; refine hK _ _ ?_; clear hK K; refine dw_ret ?_
    exact reta rfl
 | true =>
 rw [hL] at r1 q1
 cases hR : Li.rt p.r with
 | false =>
  rw [hR] at r2 q2
  refine ⟨2, fun h => absurd h.r (by rw [hR]; simp), ?_, ?_⟩
  ·skip
   refine calldw 0 59 [ResultVar.tmp 4] TRF_ok Tryz.func23 rfl Tryz.ntmps23 rfl fun cx hnt hn0 => ?_
   ·skip
    refine dw_seq ?_; refine dwk [] TRF_ok hnt fun K hK => ?_; refine hK _ _ ?_; clear hK K; refine dw_seq ?_; refine dwk [] TRF_ok hnt fun K hK => ?_; refine hK _ _ ?_; clear hK K; refine dw_seq ?_; refine dw_block ?_; refine dw_seq ?_; refine dwk [] TRF_ok hnt fun K hK => ?_; refine dcl (hW1) ?_; refine hK _ _ ?_; clear hK K; refine dw_cond (t := false) rfl ?_; rw [if_neg (by simp)]; refine dw_seq ?_
    refine dwk [] TRF_ok hnt fun K hK => ?_; refine dcl (r1) ?_; refine dcl (r2) ?_; refine hK _ _ ?_; clear hK K; refine dw_cond (t := true) rfl ?_; rw [if_pos rfl]; refine dw_seq ?_; refine dwk [] TRF_ok hnt fun K hK => ?_; refine hK _ _ ?_; clear hK K; refine dw_ret ?_
    exact reta rfl
  ·skip
   refine calldw 0 55 [ResultVar.tmp 4] TRF_ok Tryz.func24 rfl Tryz.ntmps24 rfl fun cx hnt hn0 => ?_
   ·skip
    refine dw_seq ?_; refine dwk [] TRF_ok hnt fun K hK => ?_; refine hK _ _ ?_; clear hK K; refine dw_seq ?_; refine dwk [] TRF_ok hnt fun K hK => ?_; refine dcl (hWd) ?_; refine hK _ _ ?_; clear hK K; refine dw_seq ?_; refine dw_seq ?_; refine dwk [] TRF_ok hnt fun K hK => ?_; refine dcl (hW2) ?_; refine hK _ _ ?_; clear hK K; refine dw_cond (t := false) rfl ?_; rw [if_neg (by simp)]; refine dw_skip ?_
    refine dw_seq ?_; refine dw_seq ?_; refine dwk [] TRF_ok hnt fun K hK => ?_; refine dcl (q1) ?_; refine dcl (q2) ?_; refine hK _ _ ?_; clear hK K; refine dw_cond (t := true) rfl ?_; rw [if_pos rfl]; refine dw_seq ?_; refine dwk [] TRF_ok hnt fun K hK => ?_; refine hK _ _ ?_; clear hK K; refine dw_ret ?_
    exact reta rfl
 | true =>
 rw [hR] at r2 q2
 obtain ⟨o, ho⟩ : ∃ o, tyOf C p.m p.l = o := ⟨_, rfl⟩
 rw [ho] at t1 t2
 cases o with
 | none =>
  simp only [Option.getD_none, Option.isSome_none, Bool.false_eq_true, if_false] at t1 t2
  rw [tyZ_eq] at t1 t2
  refine ⟨5, fun h => (by obtain ⟨u, h, _⟩ := h.u; rw [ho] at h; cases h), ?_, ?_⟩
  ·skip
   refine calldw 0 59 [ResultVar.tmp 4] TRF_ok Tryz.func23 rfl Tryz.ntmps23 rfl fun cx hnt hn0 => ?_
   ·skip
    refine dw_seq ?_; refine dwk [] TRF_ok hnt fun K hK => ?_; refine hK _ _ ?_; clear hK K; refine dw_seq ?_; refine dwk [] TRF_ok hnt fun K hK => ?_; refine hK _ _ ?_; clear hK K; refine dw_seq ?_; refine dw_block ?_; refine dw_seq ?_; refine dwk [] TRF_ok hnt fun K hK => ?_; refine dcl (hW1) ?_; refine hK _ _ ?_; clear hK K; refine dw_cond (t := false) rfl ?_; rw [if_neg (by simp)]; refine dw_seq ?_
    refine dwk [] TRF_ok hnt fun K hK => ?_; refine dcl (r1) ?_; refine dcl (r2) ?_; refine hK _ _ ?_; clear hK K; refine dw_cond (t := false) rfl ?_; rw [if_neg (by simp)]; refine dw_skip ?_; refine dw_seq ?_; refine dwk [] TRF_ok hnt fun K hK => ?_; refine dcl (t1) ?_; refine hK _ _ ?_; clear hK K; refine dw_seq ?_; refine dw_seq ?_; refine dwk [(39, .v (.bool true))] TRF_ok hnt fun K hK => ?_; refine And.intro (bneT (by decide)) ?_
    refine hK _ _ ?_; clear hK K; refine dw_cond (t := true) rfl ?_; rw [if_pos rfl]; refine dw_seq ?_; refine dwk [] TRF_ok hnt fun K hK => ?_; refine hK _ _ ?_; clear hK K; refine dw_ret ?_
    exact reta rfl
  ·skip
   refine calldw 0 55 [ResultVar.tmp 4] TRF_ok Tryz.func24 rfl Tryz.ntmps24 rfl fun cx hnt hn0 => ?_
   ·skip
    refine dw_seq ?_; refine dwk [] TRF_ok hnt fun K hK => ?_; refine hK _ _ ?_; clear hK K; refine dw_seq ?_; refine dwk [] TRF_ok hnt fun K hK => ?_; refine dcl (hWd) ?_; refine hK _ _ ?_; clear hK K; refine dw_seq ?_; refine dw_seq ?_; refine dwk [] TRF_ok hnt fun K hK => ?_; refine dcl (hW2) ?_; refine hK _ _ ?_; clear hK K; refine dw_cond (t := false) rfl ?_; rw [if_neg (by simp)]; refine dw_skip ?_
    refine dw_seq ?_; refine dw_seq ?_; refine dwk [] TRF_ok hnt fun K hK => ?_; refine dcl (q1) ?_; refine dcl (q2) ?_; refine hK _ _ ?_; clear hK K; refine dw_cond (t := false) rfl ?_; rw [if_neg (by simp)]; refine dw_skip ?_; refine dw_seq ?_; refine dwk [] TRF_ok hnt fun K hK => ?_; refine dcl (t2) ?_; refine hK _ _ ?_; clear hK K; refine dw_seq ?_; refine dw_seq ?_; refine dwk [] TRF_ok hnt fun K hK => ?_
    refine hK _ _ ?_; clear hK K; refine dw_cond (t := true) rfl ?_; rw [if_pos rfl]; refine dw_seq ?_; refine dwk [] TRF_ok hnt fun K hK => ?_; refine hK _ _ ?_; clear hK K; refine dw_ret ?_
    exact reta rfl
 | some u =>
 simp only [Option.getD_some, Option.isSome_some, if_true] at t1 t2
 rw [eTy_eq] at t1 t2
 by_cases hu : u.args = []
 ·have hu0 : u.args.length = 0 := by rw [hu]; rfl
  have i1 : ∀ c, (c = true ↔ IsOf C p.m p.l [] u) → _ := fun c hc => ris_d b C p.m p.l u c hc (by omega) hl.2
  have i2 : ∀ c, (c = true ↔ IsOf C p.m p.r [] u) → _ := fun c hc => ris_d b C p.m p.r u c hc (by omega) hr.2
  by_cases hi1 : IsOf C p.m p.l [] u
  ·have i1 := i1 true (by simp [hi1])
   have k1 := ruclos_d b C p.m u p.l 0 (checkYes hL hi1) (by omega) hl.2
   rw [decide_eq_true rfl] at k1
   rw [eTm_eq, eTy_eq] at i1
   rw [eTm_eq] at k1
   by_cases hi2 : IsOf C p.m p.r [] u
   ·have i2 := i2 true (by simp [hi2])
    have k2 := ruclos_d b C p.m u p.r 0 (checkYes hR hi2) (by omega) hr.2
    rw [decide_eq_true rfl] at k2
    rw [eTm_eq, eTy_eq] at i2
    rw [eTm_eq] at k2
    refine ⟨0, fun _ => rfl, ?_, ?_⟩
    ·skip
     refine calldw 0 59 [ResultVar.tmp 4] TRF_ok Tryz.func23 rfl Tryz.ntmps23 rfl fun cx hnt hn0 => ?_
     ·skip
      refine dw_seq ?_; refine dwk [] TRF_ok hnt fun K hK => ?_; refine hK _ _ ?_; clear hK K; refine dw_seq ?_; refine dwk [] TRF_ok hnt fun K hK => ?_; refine hK _ _ ?_; clear hK K; refine dw_seq ?_; refine dw_block ?_; refine dw_seq ?_; refine dwk [] TRF_ok hnt fun K hK => ?_; refine dcl (hW1) ?_; refine hK _ _ ?_; clear hK K; refine dw_cond (t := false) rfl ?_; rw [if_neg (by simp)]; refine dw_seq ?_
      refine dwk [] TRF_ok hnt fun K hK => ?_; refine dcl (r1) ?_; refine dcl (r2) ?_; refine hK _ _ ?_; clear hK K; refine dw_cond (t := false) rfl ?_; rw [if_neg (by simp)]; refine dw_skip ?_; refine dw_seq ?_; refine dwk [] TRF_ok hnt fun K hK => ?_; refine dcl (t1) ?_; refine hK _ _ ?_; clear hK K; refine dw_seq ?_; refine dw_seq ?_; refine dwk [(39, .v (.bool false)), (43, .v (.int .i64 (↑u.args.length))), (44, .v (.bool false))] TRF_ok hnt fun K hK => ?_
      refine And.intro (bneF rfl) ?_; refine And.intro (dintE (by rw [eTys_len])) ?_; refine And.intro auF ?_; refine hK _ _ ?_; clear hK K; refine dw_cond (t := false) rfl ?_; rw [if_neg (by simp)]; refine dw_skip ?_; refine dw_seq ?_; refine dwk [] TRF_ok hnt fun K hK => ?_; refine hK _ _ ?_; clear hK K; refine dw_seq ?_; refine dw_seq ?_; refine dwk [] TRF_ok hnt fun K hK => ?_; refine dcl (k1) ?_; refine dcl (k2) ?_
      refine hK _ _ ?_; clear hK K; refine dw_cond (t := false) rfl ?_; rw [if_neg (by simp)]; refine dw_skip ?_; refine dw_seq ?_; refine dwk [] TRF_ok hnt fun K hK => ?_; refine hK _ _ ?_; clear hK K; refine dw_ret ?_
      exact reta rfl
    ·skip
     refine calldw 0 55 [ResultVar.tmp 4] TRF_ok Tryz.func24 rfl Tryz.ntmps24 rfl fun cx hnt hn0 => ?_
     ·skip
      refine dw_seq ?_; refine dwk [] TRF_ok hnt fun K hK => ?_; refine hK _ _ ?_; clear hK K; refine dw_seq ?_; refine dwk [] TRF_ok hnt fun K hK => ?_; refine dcl (hWd) ?_; refine hK _ _ ?_; clear hK K; refine dw_seq ?_; refine dw_seq ?_; refine dwk [] TRF_ok hnt fun K hK => ?_; refine dcl (hW2) ?_; refine hK _ _ ?_; clear hK K; refine dw_cond (t := false) rfl ?_; rw [if_neg (by simp)]; refine dw_skip ?_
      refine dw_seq ?_; refine dw_seq ?_; refine dwk [] TRF_ok hnt fun K hK => ?_; refine dcl (q1) ?_; refine dcl (q2) ?_; refine hK _ _ ?_; clear hK K; refine dw_cond (t := false) rfl ?_; rw [if_neg (by simp)]; refine dw_skip ?_; refine dw_seq ?_; refine dwk [] TRF_ok hnt fun K hK => ?_; refine dcl (t2) ?_; refine hK _ _ ?_; clear hK K; refine dw_seq ?_; refine dw_seq ?_; refine dwk [(36, .v (.int .i64 (↑u.args.length))), (37, .v (.bool false))] TRF_ok hnt fun K hK => ?_
      refine And.intro (dintE (by rw [eTys_len])) ?_; refine And.intro auF ?_; refine dcl (i1) ?_; refine dcl (i2) ?_; refine hK _ _ ?_; clear hK K; refine dw_cond (t := false) rfl ?_; rw [if_neg (by simp)]; refine dw_skip ?_; refine dw_seq ?_; refine dwk [] TRF_ok hnt fun K hK => ?_; refine hK _ _ ?_; clear hK K; refine dw_ret ?_
      exact reta rfl
   ·have i2 := i2 false (by simp [hi2])
    have k2 := ruclos_d b C p.m u p.r 5 (checkNo hR hi2) (by omega) hr.2
    rw [decide_eq_false (by decide)] at k2
    rw [eTm_eq, eTy_eq] at i2
    rw [eTm_eq] at k2
    refine ⟨5, fun h => by obtain ⟨u', h, _, _, h4⟩ := h.u; rw [ho] at h; cases h; exact absurd h4 hi2, ?_, ?_⟩
    ·skip
     refine calldw 0 59 [ResultVar.tmp 4] TRF_ok Tryz.func23 rfl Tryz.ntmps23 rfl fun cx hnt hn0 => ?_
     ·skip
      refine dw_seq ?_; refine dwk [] TRF_ok hnt fun K hK => ?_; refine hK _ _ ?_; clear hK K; refine dw_seq ?_; refine dwk [] TRF_ok hnt fun K hK => ?_; refine hK _ _ ?_; clear hK K; refine dw_seq ?_; refine dw_block ?_; refine dw_seq ?_; refine dwk [] TRF_ok hnt fun K hK => ?_; refine dcl (hW1) ?_; refine hK _ _ ?_; clear hK K; refine dw_cond (t := false) rfl ?_; rw [if_neg (by simp)]; refine dw_seq ?_
      refine dwk [] TRF_ok hnt fun K hK => ?_; refine dcl (r1) ?_; refine dcl (r2) ?_; refine hK _ _ ?_; clear hK K; refine dw_cond (t := false) rfl ?_; rw [if_neg (by simp)]; refine dw_skip ?_; refine dw_seq ?_; refine dwk [] TRF_ok hnt fun K hK => ?_; refine dcl (t1) ?_; refine hK _ _ ?_; clear hK K; refine dw_seq ?_; refine dw_seq ?_; refine dwk [(39, .v (.bool false)), (43, .v (.int .i64 (↑u.args.length))), (44, .v (.bool false))] TRF_ok hnt fun K hK => ?_
      refine And.intro (bneF rfl) ?_; refine And.intro (dintE (by rw [eTys_len])) ?_; refine And.intro auF ?_; refine hK _ _ ?_; clear hK K; refine dw_cond (t := false) rfl ?_; rw [if_neg (by simp)]; refine dw_skip ?_; refine dw_seq ?_; refine dwk [] TRF_ok hnt fun K hK => ?_; refine hK _ _ ?_; clear hK K; refine dw_seq ?_; refine dw_seq ?_; refine dwk [] TRF_ok hnt fun K hK => ?_; refine dcl (k1) ?_; refine dcl (k2) ?_
      refine hK _ _ ?_; clear hK K; refine dw_cond (t := true) rfl ?_; rw [if_pos rfl]; refine dw_seq ?_; refine dwk [] TRF_ok hnt fun K hK => ?_; refine hK _ _ ?_; clear hK K; refine dw_ret ?_
      exact reta rfl
    ·skip
     refine calldw 0 55 [ResultVar.tmp 4] TRF_ok Tryz.func24 rfl Tryz.ntmps24 rfl fun cx hnt hn0 => ?_
     ·skip
      refine dw_seq ?_; refine dwk [] TRF_ok hnt fun K hK => ?_; refine hK _ _ ?_; clear hK K; refine dw_seq ?_; refine dwk [] TRF_ok hnt fun K hK => ?_; refine dcl (hWd) ?_; refine hK _ _ ?_; clear hK K; refine dw_seq ?_; refine dw_seq ?_; refine dwk [] TRF_ok hnt fun K hK => ?_; refine dcl (hW2) ?_; refine hK _ _ ?_; clear hK K; refine dw_cond (t := false) rfl ?_; rw [if_neg (by simp)]; refine dw_skip ?_
      refine dw_seq ?_; refine dw_seq ?_; refine dwk [] TRF_ok hnt fun K hK => ?_; refine dcl (q1) ?_; refine dcl (q2) ?_; refine hK _ _ ?_; clear hK K; refine dw_cond (t := false) rfl ?_; rw [if_neg (by simp)]; refine dw_skip ?_; refine dw_seq ?_; refine dwk [] TRF_ok hnt fun K hK => ?_; refine dcl (t2) ?_; refine hK _ _ ?_; clear hK K; refine dw_seq ?_; refine dw_seq ?_; refine dwk [(36, .v (.int .i64 (↑u.args.length))), (37, .v (.bool false))] TRF_ok hnt fun K hK => ?_
      refine And.intro (dintE (by rw [eTys_len])) ?_; refine And.intro auF ?_; refine dcl (i1) ?_; refine dcl (i2) ?_; refine hK _ _ ?_; clear hK K; refine dw_cond (t := true) rfl ?_; rw [if_pos rfl]; refine dw_seq ?_; refine dwk [] TRF_ok hnt fun K hK => ?_; refine hK _ _ ?_; clear hK K; refine dw_ret ?_
      exact reta rfl
  ·have i1 := i1 false (by simp [hi1])
   have k1 := ruclos_d b C p.m u p.l 5 (checkNo hL hi1) (by omega) hl.2
   rw [decide_eq_false (by decide)] at k1
   rw [eTm_eq, eTy_eq] at i1
   rw [eTm_eq] at k1
   refine ⟨5, fun h => by obtain ⟨u', h, _, h3, _⟩ := h.u; rw [ho] at h; cases h; exact absurd h3 hi1, ?_, ?_⟩
   ·skip
    refine calldw 0 59 [ResultVar.tmp 4] TRF_ok Tryz.func23 rfl Tryz.ntmps23 rfl fun cx hnt hn0 => ?_
    ·skip
     refine dw_seq ?_; refine dwk [] TRF_ok hnt fun K hK => ?_; refine hK _ _ ?_; clear hK K; refine dw_seq ?_; refine dwk [] TRF_ok hnt fun K hK => ?_; refine hK _ _ ?_; clear hK K; refine dw_seq ?_; refine dw_block ?_; refine dw_seq ?_; refine dwk [] TRF_ok hnt fun K hK => ?_; refine dcl (hW1) ?_; refine hK _ _ ?_; clear hK K; refine dw_cond (t := false) rfl ?_; rw [if_neg (by simp)]; refine dw_seq ?_
     refine dwk [] TRF_ok hnt fun K hK => ?_; refine dcl (r1) ?_; refine dcl (r2) ?_; refine hK _ _ ?_; clear hK K; refine dw_cond (t := false) rfl ?_; rw [if_neg (by simp)]; refine dw_skip ?_; refine dw_seq ?_; refine dwk [] TRF_ok hnt fun K hK => ?_; refine dcl (t1) ?_; refine hK _ _ ?_; clear hK K; refine dw_seq ?_; refine dw_seq ?_; refine dwk [(39, .v (.bool false)), (43, .v (.int .i64 (↑u.args.length))), (44, .v (.bool false))] TRF_ok hnt fun K hK => ?_
     refine And.intro (bneF rfl) ?_; refine And.intro (dintE (by rw [eTys_len])) ?_; refine And.intro auF ?_; refine hK _ _ ?_; clear hK K; refine dw_cond (t := false) rfl ?_; rw [if_neg (by simp)]; refine dw_skip ?_; refine dw_seq ?_; refine dwk [] TRF_ok hnt fun K hK => ?_; refine hK _ _ ?_; clear hK K; refine dw_seq ?_; refine dw_seq ?_; refine dwk [] TRF_ok hnt fun K hK => ?_; refine dcl (k1) ?_; refine hK _ _ ?_; clear hK K
     refine dw_cond (t := true) rfl ?_; rw [if_pos rfl]; refine dw_seq ?_; refine dwk [] TRF_ok hnt fun K hK => ?_; refine hK _ _ ?_; clear hK K; refine dw_ret ?_
     exact reta rfl
   ·skip
    refine calldw 0 55 [ResultVar.tmp 4] TRF_ok Tryz.func24 rfl Tryz.ntmps24 rfl fun cx hnt hn0 => ?_
    ·skip
     refine dw_seq ?_; refine dwk [] TRF_ok hnt fun K hK => ?_; refine hK _ _ ?_; clear hK K; refine dw_seq ?_; refine dwk [] TRF_ok hnt fun K hK => ?_; refine dcl (hWd) ?_; refine hK _ _ ?_; clear hK K; refine dw_seq ?_; refine dw_seq ?_; refine dwk [] TRF_ok hnt fun K hK => ?_; refine dcl (hW2) ?_; refine hK _ _ ?_; clear hK K; refine dw_cond (t := false) rfl ?_; rw [if_neg (by simp)]; refine dw_skip ?_
     refine dw_seq ?_; refine dw_seq ?_; refine dwk [] TRF_ok hnt fun K hK => ?_; refine dcl (q1) ?_; refine dcl (q2) ?_; refine hK _ _ ?_; clear hK K; refine dw_cond (t := false) rfl ?_; rw [if_neg (by simp)]; refine dw_skip ?_; refine dw_seq ?_; refine dwk [] TRF_ok hnt fun K hK => ?_; refine dcl (t2) ?_; refine hK _ _ ?_; clear hK K; refine dw_seq ?_; refine dw_seq ?_; refine dwk [(36, .v (.int .i64 (↑u.args.length))), (37, .v (.bool false))] TRF_ok hnt fun K hK => ?_
     refine And.intro (dintE (by rw [eTys_len])) ?_; refine And.intro auF ?_; refine dcl (i1) ?_; refine hK _ _ ?_; clear hK K; refine dw_cond (t := true) rfl ?_; rw [if_pos rfl]; refine dw_seq ?_; refine dwk [] TRF_ok hnt fun K hK => ?_; refine hK _ _ ?_; clear hK K; refine dw_ret ?_
     exact reta rfl
 ·have hu0 : 0 < u.args.length := List.length_pos_iff.2 hu
  refine ⟨5, fun h => by obtain ⟨u', h, h2, _⟩ := h.u; rw [ho] at h; cases h; exact absurd h2 hu, ?_, ?_⟩
  ·skip
   refine calldw 0 59 [ResultVar.tmp 4] TRF_ok Tryz.func23 rfl Tryz.ntmps23 rfl fun cx hnt hn0 => ?_
   ·skip
    refine dw_seq ?_; refine dwk [] TRF_ok hnt fun K hK => ?_; refine hK _ _ ?_; clear hK K; refine dw_seq ?_; refine dwk [] TRF_ok hnt fun K hK => ?_; refine hK _ _ ?_; clear hK K; refine dw_seq ?_; refine dw_block ?_; refine dw_seq ?_; refine dwk [] TRF_ok hnt fun K hK => ?_; refine dcl (hW1) ?_; refine hK _ _ ?_; clear hK K; refine dw_cond (t := false) rfl ?_; rw [if_neg (by simp)]; refine dw_seq ?_
    refine dwk [] TRF_ok hnt fun K hK => ?_; refine dcl (r1) ?_; refine dcl (r2) ?_; refine hK _ _ ?_; clear hK K; refine dw_cond (t := false) rfl ?_; rw [if_neg (by simp)]; refine dw_skip ?_; refine dw_seq ?_; refine dwk [] TRF_ok hnt fun K hK => ?_; refine dcl (t1) ?_; refine hK _ _ ?_; clear hK K; refine dw_seq ?_; refine dw_seq ?_; refine dwk [(39, .v (.bool false)), (43, .v (.int .i64 (↑u.args.length))), (44, .v (.bool true))] TRF_ok hnt fun K hK => ?_
    refine And.intro (bneF rfl) ?_; refine And.intro (dintE (by rw [eTys_len])) ?_; refine And.intro auT ?_; refine hK _ _ ?_; clear hK K; refine dw_cond (t := true) rfl ?_; rw [if_pos rfl]; refine dw_seq ?_; refine dwk [] TRF_ok hnt fun K hK => ?_; refine hK _ _ ?_; clear hK K; refine dw_ret ?_
    exact reta rfl
  ·skip
   refine calldw 0 55 [ResultVar.tmp 4] TRF_ok Tryz.func24 rfl Tryz.ntmps24 rfl fun cx hnt hn0 => ?_
   ·skip
    refine dw_seq ?_; refine dwk [] TRF_ok hnt fun K hK => ?_; refine hK _ _ ?_; clear hK K; refine dw_seq ?_; refine dwk [] TRF_ok hnt fun K hK => ?_; refine dcl (hWd) ?_; refine hK _ _ ?_; clear hK K; refine dw_seq ?_; refine dw_seq ?_; refine dwk [] TRF_ok hnt fun K hK => ?_; refine dcl (hW2) ?_; refine hK _ _ ?_; clear hK K; refine dw_cond (t := false) rfl ?_; rw [if_neg (by simp)]; refine dw_skip ?_
    refine dw_seq ?_; refine dw_seq ?_; refine dwk [] TRF_ok hnt fun K hK => ?_; refine dcl (q1) ?_; refine dcl (q2) ?_; refine hK _ _ ?_; clear hK K; refine dw_cond (t := false) rfl ?_; rw [if_neg (by simp)]; refine dw_skip ?_; refine dw_seq ?_; refine dwk [] TRF_ok hnt fun K hK => ?_; refine dcl (t2) ?_; refine hK _ _ ?_; clear hK K; refine dw_seq ?_; refine dw_seq ?_; refine dwk [(36, .v (.int .i64 (↑u.args.length))), (37, .v (.bool true))] TRF_ok hnt fun K hK => ?_
    refine And.intro (dintE (by rw [eTys_len])) ?_; refine And.intro auT ?_; refine hK _ _ ?_; clear hK K; refine dw_cond (t := true) rfl ?_; rw [if_pos rfl]; refine dw_seq ?_; refine dwk [] TRF_ok hnt fun K hK => ?_; refine hK _ _ ?_; clear hK K; refine dw_ret ?_
    exact reta rfl
end Go.Proofs.YtdmiekaeodcehaaGreat

namespace Go.Proofs.YtdmiekaeodcehaaGreat
open Go.RowKit
def TRG_3 : TI := ⟨1, false, [Value.int IntKind.i64 0], [], none, 8, 2, none, false⟩
theorem TRG_3_ok : TypOk Tryz.prog 3 TRG_3 := ⟨by kernel_rfl, by kernel_rfl, by kernel_rfl, by kernel_rfl, by kernel_rfl⟩
def TRG_82 : TI := ⟨1, false, [Value.slice none 0 0], [], some 3, 24, 5, none, false⟩
theorem TRG_82_ok : TypOk Tryz.prog 82 TRG_82 := ⟨by kernel_rfl, by kernel_rfl, by kernel_rfl, by kernel_rfl, by kernel_rfl⟩
def TRG_38 : TI := ⟨9, true, [Value.slice none 0 0, Value.int IntKind.i64 0, Value.int IntKind.i64 0, Value.slice none 0 0, Value.slice none 0 0, Value.int IntKind.i64 0, Value.int IntKind.i64 0, Value.slice none 0 0, Value.slice none 0 0], [(0, 4, true), (4, 4, true), (8, 1, false)], none, 152, 6, none, false⟩
theorem TRG_38_ok : TypOk Tryz.prog 38 TRG_38 := ⟨by kernel_rfl, by kernel_rfl, by kernel_rfl, by kernel_rfl, by kernel_rfl⟩
def TRG_29 : TI := ⟨9, true, [Value.slice none 0 0, Value.int IntKind.i64 0, Value.int IntKind.i64 0, Value.slice none 0 0, Value.slice none 0 0, Value.int IntKind.i64 0, Value.int IntKind.i64 0, Value.slice none 0 0, Value.slice none 0 0], [(0, 4, true), (4, 4, true), (8, 1, false)], none, 152, 6, none, false⟩
theorem TRG_29_ok : TypOk Tryz.prog 29 TRG_29 := ⟨by kernel_rfl, by kernel_rfl, by kernel_rfl, by kernel_rfl, by kernel_rfl⟩
def TRG_36 : TI := ⟨4, true, [Value.slice none 0 0, Value.int IntKind.i64 0, Value.int IntKind.i64 0, Value.slice none 0 0], [(0, 1, false), (1, 2, true), (3, 1, false)], none, 64, 6, none, false⟩
theorem TRG_36_ok : TypOk Tryz.prog 36 TRG_36 := ⟨by kernel_rfl, by kernel_rfl, by kernel_rfl, by kernel_rfl, by kernel_rfl⟩
def TRG_27 : TI := ⟨4, true, [Value.slice none 0 0, Value.int IntKind.i64 0, Value.int IntKind.i64 0, Value.slice none 0 0], [(0, 1, false), (1, 2, true), (3, 1, false)], none, 64, 6, none, false⟩
theorem TRG_27_ok : TypOk Tryz.prog 27 TRG_27 := ⟨by kernel_rfl, by kernel_rfl, by kernel_rfl, by kernel_rfl, by kernel_rfl⟩
def TRG_34 : TI := ⟨1, false, [Value.slice none 0 0], [], some 36, 24, 5, none, false⟩
theorem TRG_34_ok : TypOk Tryz.prog 34 TRG_34 := ⟨by kernel_rfl, by kernel_rfl, by kernel_rfl, by kernel_rfl, by kernel_rfl⟩
def TRG_25 : TI := ⟨1, false, [Value.slice none 0 0], [], some 27, 24, 5, none, false⟩
theorem TRG_25_ok : TypOk Tryz.prog 25 TRG_25 := ⟨by kernel_rfl, by kernel_rfl, by kernel_rfl, by kernel_rfl, by kernel_rfl⟩
def TRG_48 : TI := ⟨3, true, [Value.int IntKind.i64 0, Value.slice none 0 0, Value.slice none 0 0], [(0, 1, false), (1, 1, false), (2, 1, false)], none, 56, 6, none, false⟩
theorem TRG_48_ok : TypOk Tryz.prog 48 TRG_48 := ⟨by kernel_rfl, by kernel_rfl, by kernel_rfl, by kernel_rfl, by kernel_rfl⟩
def TRG_54 : TI := ⟨3, true, [Value.int IntKind.i64 0, Value.slice none 0 0, Value.slice none 0 0], [(0, 1, false), (1, 1, false), (2, 1, false)], none, 56, 6, none, false⟩
theorem TRG_54_ok : TypOk Tryz.prog 54 TRG_54 := ⟨by kernel_rfl, by kernel_rfl, by kernel_rfl, by kernel_rfl, by kernel_rfl⟩
def TRG_115 : TI := ⟨1, false, [Value.nilFunc], [], none, 8, 8, none, false⟩
theorem TRG_115_ok : TypOk Tryz.prog 115 TRG_115 := ⟨by kernel_rfl, by kernel_rfl, by kernel_rfl, by kernel_rfl, by kernel_rfl⟩
def TRG_33 : TI := ⟨2, true, [Value.int IntKind.i64 0, Value.int IntKind.i64 0], [(0, 1, false), (1, 1, false)], none, 16, 6, none, true⟩
theorem TRG_33_ok : TypOk Tryz.prog 33 TRG_33 := ⟨by kernel_rfl, by kernel_rfl, by kernel_rfl, by kernel_rfl, by kernel_rfl⟩
def TRG_39 : TI := ⟨1, false, [Value.int IntKind.i64 0], [], none, 8, 2, none, false⟩
theorem TRG_39_ok : TypOk Tryz.prog 39 TRG_39 := ⟨by kernel_rfl, by kernel_rfl, by kernel_rfl, by kernel_rfl, by kernel_rfl⟩
def TRG_24 : TI := ⟨2, true, [Value.int IntKind.i64 0, Value.int IntKind.i64 0], [(0, 1, false), (1, 1, false)], none, 16, 6, none, true⟩
theorem TRG_24_ok : TypOk Tryz.prog 24 TRG_24 := ⟨by kernel_rfl, by kernel_rfl, by kernel_rfl, by kernel_rfl, by kernel_rfl⟩
def TRG : List (Nat × TI) := [(3, TRG_3), (82, TRG_82), (38, TRG_38), (29, TRG_29), (36, TRG_36), (27, TRG_27), (34, TRG_34), (25, TRG_25), (48, TRG_48), (54, TRG_54), (115, TRG_115), (33, TRG_33), (39, TRG_39), (24, TRG_24)]
theorem TRG_ok : TabOk Tryz.prog TRG := (((((((((((((((TabOk.nil _).cons TRG_24_ok).cons TRG_39_ok).cons TRG_33_ok).cons TRG_115_ok).cons TRG_54_ok).cons TRG_48_ok).cons TRG_25_ok).cons TRG_34_ok).cons TRG_27_ok).cons TRG_36_ok).cons TRG_29_ok).cons TRG_38_ok).cons TRG_82_ok).cons TRG_3_ok)
namespace Ru
def ms (t : Tm) : List Int := sortU (metasL [t])
def chk (p : Li.Pr) : Int := if p.l.kind ≠ 1 then 6 else if (Pn.uses p.l [] []).2 = false then 6 else if ((ms p.r).any fun x => !((ms p.l).contains x)) = true then 7 else 0
end Ru
theorem ruin_d (h : List Int) (x : Int) (hh : h.length ≤ 1000000) : CallC Tryz.prog 68 [.v (.int .i64 x), .p 24 0] [(.c 24 0, .sl 1 (eIs h) none)] [(.c 24 0, .sl 1 (eIs h) none)] (.v (.bool (!(h.contains x)))) := by
 have hc := contains_d x h hh
 rw [show (h.any fun y => decide (y = x)) = h.contains x by rw [Bool.eq_iff_iff]; simp] at hc
 refine calldw 25 8 [ResultVar.tmp 3] TRG_ok Tryz.func68 rfl Tryz.ntmps68 rfl fun cx hnt hn0 => ?_
 ·skip
  refine dw_seq ?_; refine dwk [] TRG_ok hnt fun K hK => ?_; refine hK _ _ ?_; clear hK K; refine dw_seq ?_; refine dwk [] TRG_ok hnt fun K hK => ?_; refine dcl (hc) ?_; refine hK _ _ ?_; clear hK K; refine dw_ret ?_
  exact reta rfl
theorem ruidx_d (h : List Int) (hh : h.length ≤ 1000000) (l : List Int) (hl : l.length ≤ 1000000) : CallC Tryz.prog 110 [.sl 1 (eIs l) none, .fn 68 [.p 24 0]] [(.c 24 0, .sl 1 (eIs h) none)] [(.c 24 0, .sl 1 (eIs h) none)] (.v (.int .i64 (fidx (fun x => !(h.contains x)) l))) := by
 obtain ⟨P, hP⟩ : ∃ P : Int → Bool, (fun x => !(h.contains x)) = P := ⟨_, rfl⟩
 have hmay : ∀ x, CallC Tryz.prog 68 [.v (.int .i64 x), .p 24 0] [(.c 24 0, .sl 1 (eIs h) none)] [(.c 24 0, .sl 1 (eIs h) none)] (.v (.bool (P x))) := fun x => hP ▸ ruin_d h x hh
 rw [hP]
 clear hP
 refine calldw 25 19 [ResultVar.tmp 4] TRG_ok Tryz.func110 rfl Tryz.ntmps110 rfl fun cx hnt hn0 => ?_
 ·skip
  refine dw_seq ?_; refine dwk [] TRG_ok hnt fun K hK => ?_; refine hK _ _ ?_; clear hK K; refine dw_seq ?_; refine dw_seq ?_; refine dwk [(7, .v (.int .i64 (↑l.length)))] TRG_ok hnt fun K hK => ?_; refine And.intro (dintE (by rw [eIs_len])) ?_; refine hK _ _ ?_; clear hK K; refine dw_block ?_
  refine dw_loop (ι := { j : Nat // ∀ i (h : i < l.length), i < j → P l[i] = false }) (fun j => [(.t 0, .sl 1 (eIs l) none), (.t 1, .fn 68 [.p 24 0]), (.t 7, .v (.int .i64 ↑l.length)), (.t 8, .v (.int .i64 ↑j.1)), (.c 24 0, .sl 1 (eIs h) none)]) 25 (fun j => l.length - j.1) (⟨0, fun i h1 h2 => by omega⟩) (VS.toA) fun j => ?_
  obtain ⟨j, hj⟩ := j
  dsimp only
  by_cases hlt : j < l.length
  ·have hf := hmay l[j]
   refine dw_seq ?_; refine dwk [(9, .v (.bool true))] TRG_ok hnt fun K hK => ?_; refine And.intro auT ?_; refine hK _ _ ?_; clear hK K; refine dw_seq ?_; refine dw_cond (t := true) rfl ?_; rw [if_pos rfl]; refine dw_skip ?_; refine dw_seq ?_; refine dw_block ?_; refine dw_seq ?_; refine dwk [] TRG_ok hnt fun K hK => ?_; refine hK _ _ ?_; clear hK K
   cases he : P l[j] with
   | true =>
    rw [he] at hf
    rw [fidx_at hlt he hj]
    refine dw_seq ?_; refine dwk [(14, .q [.v (.int .i64 (l[j]))])] TRG_ok hnt fun K hK => ?_; refine And.intro (elo (eIs_len l)) ?_; refine And.intro (elv (eIs_getD l j) rfl) ?_; refine dcl (hf) ?_; refine hK _ _ ?_; clear hK K; refine dw_cond (t := true) rfl ?_; rw [if_pos rfl]; refine dw_seq ?_; refine dwk [] TRG_ok hnt fun K hK => ?_; refine hK _ _ ?_; clear hK K; refine dw_ret ?_
    exact reta rfl
   | false =>
    rw [he] at hf
    refine dw_seq ?_; refine dwk [(14, .q [.v (.int .i64 (l[j]))])] TRG_ok hnt fun K hK => ?_; refine And.intro (elo (eIs_len l)) ?_; refine And.intro (elv (eIs_getD l j) rfl) ?_; refine dcl (hf) ?_; refine hK _ _ ?_; clear hK K; refine dw_cond (t := false) rfl ?_; rw [if_neg (by simp)]; refine dw_skip ?_; refine dwk [(18, .v (.int .i64 (↑(j + 1))))] TRG_ok hnt fun K hK => ?_; refine And.intro auI ?_; refine hK _ _ ?_; clear hK K
    refine ⟨⟨j + 1, fun i h1 h2 => if e : i = j then by subst e; exact he else hj i h1 (by omega)⟩, by first | omega | (dsimp only; omega), VS.toA⟩
  ·rw [fidx_no fun i h => hj i h (by omega)]
   refine dw_seq ?_; refine dwk [(9, .v (.bool false))] TRG_ok hnt fun K hK => ?_; refine And.intro auF ?_; refine hK _ _ ?_; clear hK K; refine dw_seq ?_; refine dw_cond (t := false) rfl ?_; rw [if_neg (by simp)]; refine dw_exit ?_; refine dw_seq ?_; refine dwk [] TRG_ok hnt fun K hK => ?_; refine hK _ _ ?_; clear hK K; refine dw_ret ?_
   exact reta rfl
theorem rucontains_d (h : List Int) (hh : h.length ≤ 1000000) (l : List Int) (hl : l.length ≤ 1000000) : CallC Tryz.prog 67 [.sl 1 (eIs l) none, .fn 68 [.p 24 0]] [(.c 24 0, .sl 1 (eIs h) none)] [(.c 24 0, .sl 1 (eIs h) none)] (.v (.bool (l.any fun x => !(h.contains x)))) := by
 have hi := ruidx_d h hh l hl
 rw [← fidx_any]
 refine calldw 25 9 [ResultVar.tmp 4] TRG_ok Tryz.func67 rfl Tryz.ntmps67 rfl fun cx hnt hn0 => ?_
 ·skip
  refine dw_seq ?_; refine dwk [] TRG_ok hnt fun K hK => ?_; refine hK _ _ ?_; clear hK K; refine dw_seq ?_; refine dwk [] TRG_ok hnt fun K hK => ?_; refine dcl (hi) ?_; refine hK _ _ ?_; clear hK K; refine dw_ret ?_
  exact reta rfl

theorem ms_len (t : Tm) (h : t.full ≤ 90000) : (Ru.ms t).length ≤ 90000 := by
  have h1 := metasL_len [t] 90000 (by simpa using h)
  have h2 := sortU_len (metasL [t])
  unfold Ru.ms
  simp at h1; omega
theorem eTms_1 (t : Tm) : eTms [t] = [[.sl 2 (eTys t.binds) none, .v (.int .i64 t.kind), .v (.int .i64 t.index), .sl 4 (eTms t.args) none]] := by rw [← eTm_eq]; rfl
set_option maxHeartbeats 2000000 in
theorem rucheck_d (b : Int) (C Mw : List Ty) (p : Li.Pr) (e : Int) (hl : p.l.full ≤ 10000 ∧ p.l.Fit) (hr : p.r.full ≤ 10000 ∧ p.r.Fit) (ht : PureC Tryz.prog 23 [.ag [.v (.int .i64 b), .sl 2 (eTys C) none, .sl 2 (eTys Mw) none], .ag (ePr p)] (.v (.int .i64 e))) :
  PureC Tryz.prog 25 [.ag [.v (.int .i64 b), .sl 2 (eTys C) none, .sl 2 (eTys Mw) none], .ag (ePr p)] (.v (.int .i64 (if e ≠ 0 then e else Ru.chk p))) := by
 have hI := is_d p.l hl.1 hl.2
 have m1 := metas_d [p.l] (by simp) (by simp; omega)
 have m2 := metas_d [p.r] (by simp) (by simp; omega)
 have z1 := ms_len p.l (by omega)
 have z2 := ms_len p.r (by omega)
 rw [show sortU (metasL [p.l]) = Ru.ms p.l from rfl] at m1
 rw [show sortU (metasL [p.r]) = Ru.ms p.r from rfl] at m2
 have hc := rucontains_d (Ru.ms p.l) (by omega) (Ru.ms p.r) (by omega)
 unfold Ru.chk
 have e1 := eTms_1 p.l
 have e2 := eTms_1 p.r
 rw [ePr_at] at ht ⊢
 rw [eTm_eq] at hI
 by_cases he : e = 0
 ·subst he
  rw [if_neg (by simp)]
  by_cases hk : p.l.kind = 1
  ·rw [if_neg (by simp [hk])]
   cases hu : (Pn.uses p.l [] []).2 with
   | false =>
    rw [hu] at hI
    rw [if_pos rfl]
    refine calldw 0 34 [ResultVar.tmp 4] TRG_ok Tryz.func25 rfl Tryz.ntmps25 rfl fun cx hnt hn0 => ?_
    ·skip
     refine dw_seq ?_; refine dwk [] TRG_ok hnt fun K hK => ?_; refine hK _ _ ?_; clear hK K; refine dw_seq ?_; refine dw_seq ?_; refine dwk [] TRG_ok hnt fun K hK => ?_; refine dcl (ht) ?_; refine hK _ _ ?_; clear hK K; refine dw_seq ?_; refine dwk [(11, .v (.bool false))] TRG_ok hnt fun K hK => ?_; refine And.intro (bneF rfl) ?_; refine hK _ _ ?_; clear hK K; refine dw_cond (t := false) rfl ?_; rw [if_neg (by simp)]
     refine dw_skip ?_; refine dw_seq ?_; refine dw_seq ?_; refine dwk [(17, .v (.bool false))] TRG_ok hnt fun K hK => ?_; refine And.intro (bneF hk) ?_; refine dcl (hI) ?_; refine hK _ _ ?_; clear hK K; refine dw_cond (t := true) rfl ?_; rw [if_pos rfl]; refine dw_seq ?_; refine dwk [] TRG_ok hnt fun K hK => ?_; refine hK _ _ ?_; clear hK K; refine dw_ret ?_
     exact reta rfl
   | true =>
    rw [hu] at hI
    rw [if_neg (by simp)]
    cases hA : (Ru.ms p.r).any fun x => !((Ru.ms p.l).contains x) with
    | true =>
     rw [hA] at hc
     rw [if_pos rfl]
     refine calldw 0 34 [ResultVar.tmp 4] TRG_ok Tryz.func25 rfl Tryz.ntmps25 rfl fun cx hnt hn0 => ?_
     ·skip
      refine dw_seq ?_; refine dwk [] TRG_ok hnt fun K hK => ?_; refine hK _ _ ?_; clear hK K; refine dw_seq ?_; refine dw_seq ?_; refine dwk [] TRG_ok hnt fun K hK => ?_; refine dcl (ht) ?_; refine hK _ _ ?_; clear hK K; refine dw_seq ?_; refine dwk [(11, .v (.bool false))] TRG_ok hnt fun K hK => ?_; refine And.intro (bneF rfl) ?_; refine hK _ _ ?_; clear hK K; refine dw_cond (t := false) rfl ?_; rw [if_neg (by simp)]
      refine dw_skip ?_; refine dw_seq ?_; refine dw_seq ?_; refine dwk [(17, .v (.bool false))] TRG_ok hnt fun K hK => ?_; refine And.intro (bneF hk) ?_; refine dcl (hI) ?_; refine hK _ _ ?_; clear hK K; refine dw_cond (t := false) rfl ?_; rw [if_neg (by simp)]; refine dw_skip ?_; refine dw_seq ?_; refine dwk [(26, .sl 4 (eTms [p.l]) none)] TRG_ok hnt fun K hK => ?_; refine And.intro ((by rw [e1]; exact VLe.untag _ _ _)) ?_
      refine dcl (m1) ?_; refine hK _ _ ?_; clear hK K; refine dw_seq ?_; refine dw_seq ?_; refine dwk [(30, .sl 4 (eTms [p.r]) none)] TRG_ok hnt fun K hK => ?_; refine And.intro ((by rw [e2]; exact VLe.untag _ _ _)) ?_; refine dcl (m2) ?_; refine dcl (hc) ?_; refine hK _ _ ?_; clear hK K; refine dw_cond (t := true) rfl ?_; rw [if_pos rfl]; refine dw_seq ?_; refine dwk [] TRG_ok hnt fun K hK => ?_; refine hK _ _ ?_; clear hK K
      refine dw_ret ?_
      exact reta rfl
    | false =>
     rw [hA] at hc
     rw [if_neg (by simp)]
     refine calldw 0 34 [ResultVar.tmp 4] TRG_ok Tryz.func25 rfl Tryz.ntmps25 rfl fun cx hnt hn0 => ?_
     ·skip
      refine dw_seq ?_; refine dwk [] TRG_ok hnt fun K hK => ?_; refine hK _ _ ?_; clear hK K; refine dw_seq ?_; refine dw_seq ?_; refine dwk [] TRG_ok hnt fun K hK => ?_; refine dcl (ht) ?_; refine hK _ _ ?_; clear hK K; refine dw_seq ?_; refine dwk [(11, .v (.bool false))] TRG_ok hnt fun K hK => ?_; refine And.intro (bneF rfl) ?_; refine hK _ _ ?_; clear hK K; refine dw_cond (t := false) rfl ?_; rw [if_neg (by simp)]
      refine dw_skip ?_; refine dw_seq ?_; refine dw_seq ?_; refine dwk [(17, .v (.bool false))] TRG_ok hnt fun K hK => ?_; refine And.intro (bneF hk) ?_; refine dcl (hI) ?_; refine hK _ _ ?_; clear hK K; refine dw_cond (t := false) rfl ?_; rw [if_neg (by simp)]; refine dw_skip ?_; refine dw_seq ?_; refine dwk [(26, .sl 4 (eTms [p.l]) none)] TRG_ok hnt fun K hK => ?_; refine And.intro ((by rw [e1]; exact VLe.untag _ _ _)) ?_
      refine dcl (m1) ?_; refine hK _ _ ?_; clear hK K; refine dw_seq ?_; refine dw_seq ?_; refine dwk [(30, .sl 4 (eTms [p.r]) none)] TRG_ok hnt fun K hK => ?_; refine And.intro ((by rw [e2]; exact VLe.untag _ _ _)) ?_; refine dcl (m2) ?_; refine dcl (hc) ?_; refine hK _ _ ?_; clear hK K; refine dw_cond (t := false) rfl ?_; rw [if_neg (by simp)]; refine dw_skip ?_; refine dw_seq ?_; refine dwk [] TRG_ok hnt fun K hK => ?_
      refine hK _ _ ?_; clear hK K; refine dw_ret ?_
      exact reta rfl
  ·rw [if_pos hk]
   refine calldw 0 34 [ResultVar.tmp 4] TRG_ok Tryz.func25 rfl Tryz.ntmps25 rfl fun cx hnt hn0 => ?_
   ·skip
    refine dw_seq ?_; refine dwk [] TRG_ok hnt fun K hK => ?_; refine hK _ _ ?_; clear hK K; refine dw_seq ?_; refine dw_seq ?_; refine dwk [] TRG_ok hnt fun K hK => ?_; refine dcl (ht) ?_; refine hK _ _ ?_; clear hK K; refine dw_seq ?_; refine dwk [(11, .v (.bool false))] TRG_ok hnt fun K hK => ?_; refine And.intro (bneF rfl) ?_; refine hK _ _ ?_; clear hK K; refine dw_cond (t := false) rfl ?_; rw [if_neg (by simp)]
    refine dw_skip ?_; refine dw_seq ?_; refine dw_seq ?_; refine dwk [(17, .v (.bool true))] TRG_ok hnt fun K hK => ?_; refine And.intro (bneT hk) ?_; refine hK _ _ ?_; clear hK K; refine dw_cond (t := true) rfl ?_; rw [if_pos rfl]; refine dw_seq ?_; refine dwk [] TRG_ok hnt fun K hK => ?_; refine hK _ _ ?_; clear hK K; refine dw_ret ?_
    exact reta rfl
 ·rw [if_pos he]
  refine calldw 0 34 [ResultVar.tmp 4] TRG_ok Tryz.func25 rfl Tryz.ntmps25 rfl fun cx hnt hn0 => ?_
  ·skip
   refine dw_seq ?_; refine dwk [] TRG_ok hnt fun K hK => ?_; refine hK _ _ ?_; clear hK K; refine dw_seq ?_; refine dw_seq ?_; refine dwk [] TRG_ok hnt fun K hK => ?_; refine dcl (ht) ?_; refine hK _ _ ?_; clear hK K; refine dw_seq ?_; refine dwk [(11, .v (.bool true))] TRG_ok hnt fun K hK => ?_; refine And.intro (bneT he) ?_; refine hK _ _ ?_; clear hK K; refine dw_cond (t := true) rfl ?_; rw [if_pos rfl]
   refine dw_seq ?_; refine dwk [] TRG_ok hnt fun K hK => ?_; refine hK _ _ ?_; clear hK K; refine dw_ret ?_
   exact reta rfl
end Go.Proofs.YtdmiekaeodcehaaGreat

namespace Go.Proofs.YtdmiekaeodcehaaGreat
open Go.RowKit
def TRH_38 : TI := ⟨9, true, [Value.slice none 0 0, Value.int IntKind.i64 0, Value.int IntKind.i64 0, Value.slice none 0 0, Value.slice none 0 0, Value.int IntKind.i64 0, Value.int IntKind.i64 0, Value.slice none 0 0, Value.slice none 0 0], [(0, 4, true), (4, 4, true), (8, 1, false)], none, 152, 6, none, false⟩
theorem TRH_38_ok : TypOk Tryz.prog 38 TRH_38 := ⟨by kernel_rfl, by kernel_rfl, by kernel_rfl, by kernel_rfl, by kernel_rfl⟩
def TRH_3 : TI := ⟨1, false, [Value.int IntKind.i64 0], [], none, 8, 2, none, false⟩
theorem TRH_3_ok : TypOk Tryz.prog 3 TRH_3 := ⟨by kernel_rfl, by kernel_rfl, by kernel_rfl, by kernel_rfl, by kernel_rfl⟩
def TRH_36 : TI := ⟨4, true, [Value.slice none 0 0, Value.int IntKind.i64 0, Value.int IntKind.i64 0, Value.slice none 0 0], [(0, 1, false), (1, 2, true), (3, 1, false)], none, 64, 6, none, false⟩
theorem TRH_36_ok : TypOk Tryz.prog 36 TRH_36 := ⟨by kernel_rfl, by kernel_rfl, by kernel_rfl, by kernel_rfl, by kernel_rfl⟩
def TRH_34 : TI := ⟨1, false, [Value.slice none 0 0], [], some 36, 24, 5, none, false⟩
theorem TRH_34_ok : TypOk Tryz.prog 34 TRH_34 := ⟨by kernel_rfl, by kernel_rfl, by kernel_rfl, by kernel_rfl, by kernel_rfl⟩
def TRH_32 : TI := ⟨1, false, [Value.slice none 0 0], [], some 75, 24, 5, none, false⟩
theorem TRH_32_ok : TypOk Tryz.prog 32 TRH_32 := ⟨by kernel_rfl, by kernel_rfl, by kernel_rfl, by kernel_rfl, by kernel_rfl⟩
def TRH_75 : TI := ⟨2, true, [Value.slice none 0 0, Value.int IntKind.i64 0], [(0, 1, false), (1, 1, false)], none, 32, 6, none, false⟩
theorem TRH_75_ok : TypOk Tryz.prog 75 TRH_75 := ⟨by kernel_rfl, by kernel_rfl, by kernel_rfl, by kernel_rfl, by kernel_rfl⟩
def TRH_48 : TI := ⟨3, true, [Value.int IntKind.i64 0, Value.slice none 0 0, Value.slice none 0 0], [(0, 1, false), (1, 1, false), (2, 1, false)], none, 56, 6, none, false⟩
theorem TRH_48_ok : TypOk Tryz.prog 48 TRH_48 := ⟨by kernel_rfl, by kernel_rfl, by kernel_rfl, by kernel_rfl, by kernel_rfl⟩
def TRH_39 : TI := ⟨1, false, [Value.int IntKind.i64 0], [], none, 8, 2, none, false⟩
theorem TRH_39_ok : TypOk Tryz.prog 39 TRH_39 := ⟨by kernel_rfl, by kernel_rfl, by kernel_rfl, by kernel_rfl, by kernel_rfl⟩
def TRH_33 : TI := ⟨2, true, [Value.int IntKind.i64 0, Value.int IntKind.i64 0], [(0, 1, false), (1, 1, false)], none, 16, 6, none, true⟩
theorem TRH_33_ok : TypOk Tryz.prog 33 TRH_33 := ⟨by kernel_rfl, by kernel_rfl, by kernel_rfl, by kernel_rfl, by kernel_rfl⟩
def TRH : List (Nat × TI) := [(38, TRH_38), (3, TRH_3), (36, TRH_36), (34, TRH_34), (32, TRH_32), (75, TRH_75), (48, TRH_48), (39, TRH_39), (33, TRH_33)]
theorem TRH_ok : TabOk Tryz.prog TRH := ((((((((((TabOk.nil _).cons TRH_33_ok).cons TRH_39_ok).cons TRH_48_ok).cons TRH_75_ok).cons TRH_32_ok).cons TRH_34_ok).cons TRH_36_ok).cons TRH_3_ok).cons TRH_38_ok)
namespace Ru
def kA : Ty := .mk [] 0
def kC : List Ty := [.mk [kA, kA] 0, .mk [kA] 0]
def km (i : Int) : Tm := .mk [] 2 i []
def kc (i : Int) (l : List Tm) : Tm := .mk [] 1 i l
def KP : Li.Pr := ⟨kc 0 [km 1, km 0], kc 1 [km 1], [kA, kA]⟩
def KQ : Li.Pr := ⟨kc 0 [km 0, km 1], kc 1 [km 0], [kA, kA]⟩
def KS : Li.Pr := ⟨kc 1 [km 0], kc 1 [km 1], [kA, kA]⟩
theorem km_fit (i : Int) (h1 : -1000 ≤ i) (h2 : i ≤ 1000) : (km i).Fit := Tm.fit_iff.2 ⟨by omega, by omega, nofun⟩
theorem kc_fit {i : Int} {l : List Tm} (h1 : -1000 ≤ i) (h2 : i ≤ 1000) (h : ∀ t ∈ l, t.Fit) : (kc i l).Fit := Tm.fit_iff.2 ⟨by omega, by omega, h⟩
theorem own_P : own KP = (KQ, 0) := by kernel_rfl
theorem own_Q : own KQ = (KQ, 0) := by kernel_rfl
theorem vari_PQ : vari KP KQ = true := by unfold vari; rw [own_P, own_Q]; kernel_rfl
theorem chk_at {p : Li.Pr} (h1 : p.l.kind = 1) (h2 : (Pn.uses p.l [] []).2 = true) : chk p = if ∃ x ∈ metasL [p.r], x ∉ metasL [p.l] then 7 else 0 := by
  unfold chk
  rw [if_neg (by simp [h1]), if_neg (by simp [h2])]
  have e : ((ms p.r).any fun x => !((ms p.l).contains x)) = true ↔ ∃ x ∈ metasL [p.r], x ∉ metasL [p.l] := by
    unfold ms
    rw [List.any_eq_true]
    constructor
    · rintro ⟨x, h, h2⟩
      refine ⟨x, ((sortU_spec _).2 x).1 h, fun h3 => ?_⟩
      rw [List.contains_iff_mem.2 (((sortU_spec _).2 x).2 h3)] at h2
      cases h2
    · rintro ⟨x, h, h2⟩
      refine ⟨x, ((sortU_spec _).2 x).2 h, ?_⟩
      rw [Bool.not_eq_true', Bool.eq_false_iff]
      exact fun h3 => h2 (((sortU_spec _).2 x).1 (List.contains_iff_mem.1 h3))
  by_cases h : ∃ x ∈ metasL [p.r], x ∉ metasL [p.l]
  · rw [if_pos (e.2 h), if_pos h]
  · rw [if_neg (fun g => h (e.1 g)), if_neg h]
theorem chk_P : chk KP = 0 := by
  rw [chk_at rfl (by kernel_rfl), if_neg]
  rw [show metasL [KP.r] = [1] by decide +kernel, show metasL [KP.l] = [1, 0] by decide +kernel]
  simp
theorem chk_S : chk KS = 7 := by
  rw [chk_at rfl (by kernel_rfl), if_pos]
  rw [show metasL [KS.r] = [1] by decide +kernel, show metasL [KS.l] = [0] by decide +kernel]
  exact ⟨1, by simp, by simp⟩
theorem kWd : RightWd 1 kC [kA, kA] := by
  refine ⟨by decide, fun t ht => ?_⟩
  have : t = kA ∨ t = .mk [kA, kA] 0 ∨ t = .mk [kA] 0 := by
    simp [kC] at ht
    rcases ht with h | h | h
    · exact .inr (.inl h)
    · exact .inr (.inr h)
    · exact .inl h
  rcases this with rfl | rfl | rfl
  · exact ⟨by decide, by decide, by simp [kA, Ty.low_iff]⟩
  · exact ⟨by decide, by decide, by simp [kA, Ty.low_iff]⟩
  · exact ⟨by decide, by decide, by simp [kA, Ty.low_iff]⟩
theorem good_P : Good 1 kC KP := ⟨kWd, by decide, by decide, kA, by kernel_rfl, rfl, by simp [KP, kc, km, kC, kA, IsOf, IsOfs, headTy, Ty.args, Ty.base], by simp [KP, kc, km, kC, kA, IsOf, IsOfs, headTy, Ty.args, Ty.base]⟩
theorem good_S : Good 1 kC KS := ⟨kWd, by decide, by decide, kA, by kernel_rfl, rfl, by simp [KS, kc, km, kC, kA, IsOf, IsOfs, headTy, Ty.args, Ty.base], by simp [KS, kc, km, kC, kA, IsOf, IsOfs, headTy, Ty.args, Ty.base]⟩
theorem fit_P : KP.l.Fit ∧ KP.r.Fit := ⟨kc_fit (by decide) (by decide) (by
  intro t ht
  simp at ht
  rcases ht with rfl | rfl
  · exact km_fit _ (by decide) (by decide)
  · exact km_fit _ (by decide) (by decide)), kc_fit (by decide) (by decide) (by
  intro t ht
  simp at ht
  subst ht
  exact km_fit _ (by decide) (by decide))⟩
theorem fit_Q : KQ.l.Fit ∧ KQ.r.Fit := ⟨kc_fit (by decide) (by decide) (by
  intro t ht
  simp at ht
  rcases ht with rfl | rfl
  · exact km_fit _ (by decide) (by decide)
  · exact km_fit _ (by decide) (by decide)), kc_fit (by decide) (by decide) (by
  intro t ht
  simp at ht
  subst ht
  exact km_fit _ (by decide) (by decide))⟩
theorem fit_S : KS.l.Fit ∧ KS.r.Fit := ⟨kc_fit (by decide) (by decide) (by
  intro t ht
  simp at ht
  subst ht
  exact km_fit _ (by decide) (by decide)), kc_fit (by decide) (by decide) (by
  intro t ht
  simp at ht
  subst ht
  exact km_fit _ (by decide) (by decide))⟩
end Ru
theorem rk1_d (i : Int) (l : List Tm) : PureC Tryz.prog 39 [.v (.int .i64 i), .sl 4 (eTms l) none] (.ag [.sl 2 [] none, .v (.int .i64 1), .v (.int .i64 i), .sl 4 (eTms l) none]) := by
 refine calldw 0 9 [ResultVar.cell 4 36] TRH_ok Tryz.func39 rfl Tryz.ntmps39 rfl fun cx hnt hn0 => ?_
 ·skip
  refine dw_seq ?_; refine dwk [] TRH_ok hnt fun K hK => ?_; refine hK _ _ ?_; clear hK K; refine dw_seq ?_; refine dwk [] TRH_ok hnt fun K hK => ?_; refine hK _ _ ?_; clear hK K; refine dw_ret ?_
  exact reta rfl
theorem rk2_d (i : Int) : PureC Tryz.prog 40 [.v (.int .i64 i)] (.ag [.sl 2 [] none, .v (.int .i64 2), .v (.int .i64 i), .sl 4 [] none]) := by
 refine calldw 0 6 [ResultVar.cell 2 36] TRH_ok Tryz.func40 rfl Tryz.ntmps40 rfl fun cx hnt hn0 => ?_
 ·skip
  refine dw_seq ?_; refine dwk [] TRH_ok hnt fun K hK => ?_; refine hK _ _ ?_; clear hK K; refine dw_seq ?_; refine dwk [] TRH_ok hnt fun K hK => ?_; refine hK _ _ ?_; clear hK K; refine dw_ret ?_
  exact reta rfl
theorem rkOf0_d : PureC Tryz.prog 38 [.v (.int .i64 0), .v (.slice none 0 0)] (.ag [.sl 2 [] none, .v (.int .i64 0)]) := CallC.vle (kOf_d 0 [] (by simp [Ty.sizes])) (.cons (VLe.refl _) (.cons (VLe.nil _) .nil)) (VLe.refl _)
theorem kSz : ∀ t ∈ Ru.kC ++ [Ru.kA, Ru.kA], t.size ≤ 400000 := fun t ht => by have := (Ru.kWd.2 t ht).1; omega
theorem kcheck_d (p : Li.Pr) (c : Int) (hm : p.m = [Ru.kA, Ru.kA]) (hg : Ru.Good 1 Ru.kC p) (hc : Ru.chk p = c) (hl : p.l.full ≤ 10000 ∧ p.l.Fit) (hr : p.r.full ≤ 10000 ∧ p.r.Fit) : PureC Tryz.prog 25 [.ag [.v (.int .i64 1), .sl 2 (eTys Ru.kC) none, .sl 2 (eTys []) none], .ag (ePr p)] (.v (.int .i64 c)) := by
  obtain ⟨e, he, h1, _⟩ := rutyped_d 1 Ru.kC [] p ⟨by omega, hl.2⟩ ⟨by omega, hr.2⟩ (by decide) (by rw [hm]; decide) (by rw [hm]; exact kSz)
  have := he hg; subst this
  have h := rucheck_d 1 Ru.kC [] p 0 hl hr h1
  rw [if_neg (by simp), hc] at h
  exact h
set_option maxHeartbeats 4000000 in
theorem known17_d : PureC Tryz.prog 7 [] (.v (.bool true)) := by
 have ho := rkOf0_d
 have o1 := kOf_d 0 [Ru.kA, Ru.kA] (by decide)
 have o2 := kOf_d 0 [Ru.kA] (by decide)
 have hown := ruown_d Ru.KP ⟨by decide, Ru.fit_P.1⟩ ⟨by decide, Ru.fit_P.2⟩ (by decide) (by decide)
 rw [Ru.own_P] at hown
 have hv := ruvari_d Ru.KP Ru.KQ ⟨by decide, Ru.fit_P.1⟩ ⟨by decide, Ru.fit_P.2⟩ (by decide) (by decide) ⟨by decide, Ru.fit_Q.1⟩ ⟨by decide, Ru.fit_Q.2⟩ (by decide) (by decide)
 rw [Ru.vari_PQ] at hv
 have c1 := kcheck_d Ru.KP 0 rfl Ru.good_P Ru.chk_P ⟨by decide, Ru.fit_P.1⟩ ⟨by decide, Ru.fit_P.2⟩
 have c2 := kcheck_d Ru.KS 7 rfl Ru.good_S Ru.chk_S ⟨by decide, Ru.fit_S.1⟩ ⟨by decide, Ru.fit_S.2⟩
 have e1 : PureC Tryz.prog 41 [.ag [.sl 2 (eTys Ru.KQ.l.binds) none, .v (.int .i64 Ru.KQ.l.kind), .v (.int .i64 Ru.KQ.l.index), .sl 4 (eTms Ru.KQ.l.args) none], .ag [.sl 2 [] none, .v (.int .i64 1), .v (.int .i64 0), .sl 4 (eTms [Ru.km 0, Ru.km 1]) none]] (.v (.bool true)) := by
  have := equal2_d Ru.KQ.l (Ru.kc 0 [Ru.km 0, Ru.km 1])
  rw [decide_eq_true (show Ru.KQ.l = Ru.kc 0 [Ru.km 0, Ru.km 1] from rfl)] at this
  exact this
 have e2 : PureC Tryz.prog 41 [.ag [.sl 2 (eTys Ru.KQ.r.binds) none, .v (.int .i64 Ru.KQ.r.kind), .v (.int .i64 Ru.KQ.r.index), .sl 4 (eTms Ru.KQ.r.args) none], .ag [.sl 2 [] none, .v (.int .i64 1), .v (.int .i64 1), .sl 4 (eTms [Ru.km 0]) none]] (.v (.bool true)) := by
  have := equal2_d Ru.KQ.r (Ru.kc 1 [Ru.km 0])
  rw [decide_eq_true (show Ru.KQ.r = Ru.kc 1 [Ru.km 0] from rfl)] at this
  exact this
 dsimp only at hown
 rw [ePr_at, ePr_at] at hown hv
 rw [ePr_at] at c1 c2
 refine calldw 0 92 [ResultVar.tmp 0] TRH_ok Tryz.func7 rfl Tryz.ntmps7 rfl fun cx hnt hn0 => ?_
 ·skip
  refine dw_seq ?_; refine dwk [] TRH_ok hnt fun K hK => ?_; refine hK _ _ ?_; clear hK K; refine dw_seq ?_; refine dwk [] TRH_ok hnt fun K hK => ?_; refine dcl (ho) ?_; refine hK _ _ ?_; clear hK K; refine dw_seq ?_; refine dwkD [(9, .ag (eTy Ru.kA)), (10, .ag (eTy Ru.kA)), (11, .sl 2 (eTys [Ru.kA, Ru.kA]) none), (13, .ag (eTy Ru.kA)), (14, .sl 2 (eTys [Ru.kA]) none), (16, .sl 2 (eTys Ru.kC) none)] TRH_ok hnt fun K hK => ?_
  refine And.intro (auV) ?_; refine And.intro (auV) ?_; refine And.intro (VLe.untag _ _ _) ?_; refine dcl (o1) ?_; refine And.intro (auV) ?_; refine And.intro (VLe.untag _ _ _) ?_; refine dcl (o2) ?_; refine And.intro (VLe.untag _ _ _) ?_; refine hK _ _ (by kernel_rfl) ?_; clear hK K; refine dw_seq ?_; refine dwk [] TRH_ok hnt fun K hK => ?_; refine hK _ _ ?_; clear hK K; refine dw_seq ?_; refine dwk [] TRH_ok hnt fun K hK => ?_
  refine hK _ _ ?_; clear hK K; refine dw_seq ?_; refine dwkD [(23, .sl 4 (eTms [Ru.km 1, Ru.km 0]) none), (28, .sl 4 (eTms [Ru.km 1]) none), (30, .ag (eTy Ru.kA)), (31, .ag (eTy Ru.kA)), (32, .sl 2 (eTys [Ru.kA, Ru.kA]) none)] TRH_ok hnt fun K hK => ?_; refine dcl (rk2_d 1) ?_; refine dcl (rk2_d 0) ?_; refine And.intro (VLe.untag _ _ _) ?_; refine dcl (rk1_d 0 _) ?_; refine dcl (rk2_d 1) ?_; refine And.intro (VLe.untag _ _ _) ?_
  refine dcl (rk1_d 1 _) ?_; refine And.intro (auV) ?_; refine And.intro (auV) ?_; refine And.intro (VLe.untag _ _ _) ?_; refine hK _ _ (by kernel_rfl) ?_; clear hK K; refine dw_seq ?_; refine dwk [(35, .ag [.sl 2 (eTys Ru.KP.l.binds) none, .v (.int .i64 Ru.KP.l.kind), .v (.int .i64 Ru.KP.l.index), .sl 4 (eTms Ru.KP.l.args) none, .sl 2 (eTys Ru.KP.r.binds) none, .v (.int .i64 Ru.KP.r.kind), .v (.int .i64 Ru.KP.r.index), .sl 4 (eTms Ru.KP.r.args) none, .sl 2 (eTys Ru.KP.m) none])] TRH_ok hnt fun K hK => ?_
  refine And.intro (auV) ?_; refine dcl (hown) ?_; refine hK _ _ ?_; clear hK K; refine dw_seq ?_; refine dwkD [(40, .v (.bool true)), (49, .sl 4 (eTms [Ru.km 0, Ru.km 1]) none), (59, .sl 4 (eTms [Ru.km 0]) none), (64, .ag [.v (.int .i64 1), .sl 2 (eTys Ru.kC) none, .sl 2 (eTys []) none]), (65, .ag [.sl 2 (eTys Ru.KP.l.binds) none, .v (.int .i64 Ru.KP.l.kind), .v (.int .i64 Ru.KP.l.index), .sl 4 (eTms Ru.KP.l.args) none, .sl 2 (eTys Ru.KP.r.binds) none, .v (.int .i64 Ru.KP.r.kind), .v (.int .i64 Ru.KP.r.index), .sl 4 (eTms Ru.KP.r.args) none, .sl 2 (eTys Ru.KP.m) none]), (67, .v (.bool true)), (70, .ag [.v (.int .i64 1), .sl 2 (eTys Ru.kC) none, .sl 2 (eTys []) none]), (74, .sl 4 (eTms [Ru.km 0]) none), (79, .sl 4 (eTms [Ru.km 1]) none), (83, .ag [.sl 2 (eTys Ru.KS.l.binds) none, .v (.int .i64 Ru.KS.l.kind), .v (.int .i64 Ru.KS.l.index), .sl 4 (eTms Ru.KS.l.args) none, .sl 2 (eTys Ru.KS.r.binds) none, .v (.int .i64 Ru.KS.r.kind), .v (.int .i64 Ru.KS.r.index), .sl 4 (eTms Ru.KS.r.args) none, .sl 2 (eTys Ru.KS.m) none]), (85, .v (.bool true)), (88, .ag [.sl 2 (eTys Ru.KP.l.binds) none, .v (.int .i64 Ru.KP.l.kind), .v (.int .i64 Ru.KP.l.index), .sl 4 (eTms Ru.KP.l.args) none, .sl 2 (eTys Ru.KP.r.binds) none, .v (.int .i64 Ru.KP.r.kind), .v (.int .i64 Ru.KP.r.index), .sl 4 (eTms Ru.KP.r.args) none, .sl 2 (eTys Ru.KP.m) none])] TRH_ok hnt fun K hK => ?_
  refine And.intro (VLe.refl _) ?_; refine dcl (rk2_d 0) ?_; refine dcl (rk2_d 1) ?_; refine And.intro (VLe.untag _ _ _) ?_; refine dcl (rk1_d 0 _) ?_; refine dcl (e1) ?_; refine dcl (rk2_d 0) ?_; refine And.intro (VLe.untag _ _ _) ?_; refine dcl (rk1_d 1 _) ?_; refine dcl (e2) ?_; refine And.intro (auV) ?_; refine And.intro (auV) ?_; refine dcl (c1) ?_; refine And.intro (VLe.refl _) ?_; refine And.intro (auV) ?_
  refine dcl (rk2_d 0) ?_; refine And.intro (VLe.untag _ _ _) ?_; refine dcl (rk1_d 1 _) ?_; refine dcl (rk2_d 1) ?_; refine And.intro (VLe.untag _ _ _) ?_; refine dcl (rk1_d 1 _) ?_; refine And.intro (auV) ?_; refine dcl (c2) ?_; refine And.intro (VLe.refl _) ?_; refine And.intro (auV) ?_; refine dcl (hv) ?_; refine hK _ _ (by kernel_rfl) ?_; clear hK K; refine dw_ret ?_
  exact reta rfl
end Go.Proofs.YtdmiekaeodcehaaGreat

namespace Go.Proofs.YtdmiekaeodcehaaGreat
open Go.RowKit
def TRI_29 : TI := ⟨9, true, [Value.slice none 0 0, Value.int IntKind.i64 0, Value.int IntKind.i64 0, Value.slice none 0 0, Value.slice none 0 0, Value.int IntKind.i64 0, Value.int IntKind.i64 0, Value.slice none 0 0, Value.slice none 0 0], [(0, 4, true), (4, 4, true), (8, 1, false)], none, 152, 6, none, false⟩
theorem TRI_29_ok : TypOk Tryz.prog 29 TRI_29 := ⟨by kernel_rfl, by kernel_rfl, by kernel_rfl, by kernel_rfl, by kernel_rfl⟩
def TRI_38 : TI := ⟨9, true, [Value.slice none 0 0, Value.int IntKind.i64 0, Value.int IntKind.i64 0, Value.slice none 0 0, Value.slice none 0 0, Value.int IntKind.i64 0, Value.int IntKind.i64 0, Value.slice none 0 0, Value.slice none 0 0], [(0, 4, true), (4, 4, true), (8, 1, false)], none, 152, 6, none, false⟩
theorem TRI_38_ok : TypOk Tryz.prog 38 TRI_38 := ⟨by kernel_rfl, by kernel_rfl, by kernel_rfl, by kernel_rfl, by kernel_rfl⟩
def TRI_27 : TI := ⟨4, true, [Value.slice none 0 0, Value.int IntKind.i64 0, Value.int IntKind.i64 0, Value.slice none 0 0], [(0, 1, false), (1, 2, true), (3, 1, false)], none, 64, 6, none, false⟩
theorem TRI_27_ok : TypOk Tryz.prog 27 TRI_27 := ⟨by kernel_rfl, by kernel_rfl, by kernel_rfl, by kernel_rfl, by kernel_rfl⟩
def TRI_39 : TI := ⟨1, false, [Value.int IntKind.i64 0], [], none, 8, 2, none, false⟩
theorem TRI_39_ok : TypOk Tryz.prog 39 TRI_39 := ⟨by kernel_rfl, by kernel_rfl, by kernel_rfl, by kernel_rfl, by kernel_rfl⟩
def TRI_4 : TI := ⟨1, false, [Value.bool false], [], none, 1, 1, none, false⟩
theorem TRI_4_ok : TypOk Tryz.prog 4 TRI_4 := ⟨by kernel_rfl, by kernel_rfl, by kernel_rfl, by kernel_rfl, by kernel_rfl⟩
def TRI_59 : TI := ⟨1, false, [Value.slice none 0 0], [], some 29, 24, 5, none, false⟩
theorem TRI_59_ok : TypOk Tryz.prog 59 TRI_59 := ⟨by kernel_rfl, by kernel_rfl, by kernel_rfl, by kernel_rfl, by kernel_rfl⟩
def TRI_22 : TI := ⟨1, false, [Value.slice none 0 0], [], some 91, 24, 5, none, false⟩
theorem TRI_22_ok : TypOk Tryz.prog 22 TRI_22 := ⟨by kernel_rfl, by kernel_rfl, by kernel_rfl, by kernel_rfl, by kernel_rfl⟩
def TRI_48 : TI := ⟨3, true, [Value.int IntKind.i64 0, Value.slice none 0 0, Value.slice none 0 0], [(0, 1, false), (1, 1, false), (2, 1, false)], none, 56, 6, none, false⟩
theorem TRI_48_ok : TypOk Tryz.prog 48 TRI_48 := ⟨by kernel_rfl, by kernel_rfl, by kernel_rfl, by kernel_rfl, by kernel_rfl⟩
def TRI_36 : TI := ⟨4, true, [Value.slice none 0 0, Value.int IntKind.i64 0, Value.int IntKind.i64 0, Value.slice none 0 0], [(0, 1, false), (1, 2, true), (3, 1, false)], none, 64, 6, none, false⟩
theorem TRI_36_ok : TypOk Tryz.prog 36 TRI_36 := ⟨by kernel_rfl, by kernel_rfl, by kernel_rfl, by kernel_rfl, by kernel_rfl⟩
def TRI_91 : TI := ⟨2, true, [Value.slice none 0 0, Value.int IntKind.i64 0], [(0, 1, false), (1, 1, false)], none, 32, 6, none, false⟩
theorem TRI_91_ok : TypOk Tryz.prog 91 TRI_91 := ⟨by kernel_rfl, by kernel_rfl, by kernel_rfl, by kernel_rfl, by kernel_rfl⟩
def TRI : List (Nat × TI) := [(29, TRI_29), (38, TRI_38), (27, TRI_27), (39, TRI_39), (4, TRI_4), (59, TRI_59), (22, TRI_22), (48, TRI_48), (36, TRI_36), (91, TRI_91)]
theorem TRI_ok : TabOk Tryz.prog TRI := (((((((((((TabOk.nil _).cons TRI_91_ok).cons TRI_36_ok).cons TRI_48_ok).cons TRI_22_ok).cons TRI_59_ok).cons TRI_4_ok).cons TRI_39_ok).cons TRI_27_ok).cons TRI_38_ok).cons TRI_29_ok)
namespace Ru
def rg : Nat → List Int
  | 0 => []
  | n + 1 => rg n ++ [(n : Int)]
theorem rg_len : ∀ n, (rg n).length = n
  | 0 => rfl
  | n + 1 => by rw [rg]; simp [rg_len n]
theorem rg_mem : ∀ (n : Nat) (x : Int), x ∈ rg n ↔ 0 ≤ x ∧ x < n
  | 0, x => by
    constructor
    · intro h; cases h
    · intro h; omega
  | n + 1, x => by
    rw [rg, List.mem_append, rg_mem n x, List.mem_singleton]
    push_cast
    omega
theorem rg_ix : ∀ (n x : Nat), x < n → ix (x : Int) (rg n) = x
  | 0, x, h => by omega
  | n + 1, x, h => by
    rw [rg]
    by_cases hx : x < n
    · rw [ix_app _ _ _ ((rg_mem n x).2 (by omega)), rg_ix n x hx]
    · have : x = n := by omega
      subst this
      rw [ix_new _ _ (fun h => by have := (rg_mem x x).1 h; omega), rg_len]
theorem ix_lt {m : Int} : ∀ {o : List Int}, m ∈ o → ix m o < o.length
  | [], h => by cases h
  | x :: l, h => by
    rw [ix]
    by_cases hx : x = m
    · rw [if_pos hx]; simp
    · rw [if_neg hx]
      have := ix_lt (m := m) (o := l) (by rcases List.mem_cons.1 h with h | h; exact absurd h.symm hx; exact h)
      simp only [List.length_cons]; omega
theorem met_rg (o : List Int) (i : Int) : met (rg o.length) (ix i o : Int) = rg (met o i).length ∧ ix (ix i o : Int) (rg o.length) = ix i o := by
  by_cases h : i ∈ o
  · have h2 := ix_lt h
    have h3 : ((ix i o : Nat) : Int) ∈ rg o.length := (rg_mem _ _).2 (by omega)
    unfold met
    rw [if_pos h3, if_pos h]
    exact ⟨rfl, rg_ix _ _ h2⟩
  · rw [ix_no h]
    have h3 : ((o.length : Nat) : Int) ∉ rg o.length := fun h => by have := (rg_mem _ _).1 h; omega
    unfold met
    rw [if_neg h3, if_neg h, ix_no h3, rg_len]
    exact ⟨by simp [rg], rfl⟩
theorem trs_rg_of {l : List Tm} (h : ∀ t ∈ l, ∀ o, tr (tr t o).2 (rg o.length) = (rg (tr t o).1.length, (tr t o).2)) : ∀ o, trs (trs l o).2 (rg o.length) = (rg (trs l o).1.length, (trs l o).2) := by
  induction l with
  | nil => intro o; simp [trs]
  | cons t l ih =>
    intro o
    have h1 := h t (by simp) o
    have h2 := ih (fun u hu => h u (by simp [hu])) (tr t o).1
    rw [trs]
    dsimp only
    rw [trs, h1]
    dsimp only
    rw [h2]
theorem tr_rg (t : Tm) : ∀ o, tr (tr t o).2 (rg o.length) = (rg (tr t o).1.length, (tr t o).2) := by
  induction t using Tm.ind with
  | h b k i a ih =>
    intro o
    rw [tr_eq]
    dsimp only
    rw [tr_eq]
    by_cases hk : k = 2
    · rw [if_pos hk, if_pos hk, if_pos hk, if_pos hk]
      obtain ⟨h1, h2⟩ := met_rg o i
      rw [h1, h2, trs_rg_of ih]
    · rw [if_neg hk, if_neg hk, if_neg hk, if_neg hk, trs_rg_of ih]
theorem rg_map (W : List Ty) : ∀ n, n ≤ W.length → (rg n).map (mt W) = W.take n
  | 0, _ => by simp [rg]
  | n + 1, h => by
    rw [rg, List.map_append, rg_map W n (by omega), List.take_succ_eq_append_getElem (by omega)]
    simp [mt_at (show n < W.length by omega)]
theorem own_z : own .z = (.z, 0) := by kernel_rfl
theorem own_code (p : Li.Pr) : (own p).2 = 0 ∨ (own p = (.z, 10)) := by
  unfold own; split
  · exact .inr rfl
  · exact .inl rfl
theorem own_own (p : Li.Pr) : own (own p).1 = ((own p).1, 0) := by
  by_cases hb : (tr p.r (tr p.l []).1).1.any (bad p.m) = true
  · have : own p = (.z, 10) := by unfold own; rw [if_pos hb]
    rw [this]; exact own_z
  · have e : own p = (⟨(tr p.l []).2, (tr p.r (tr p.l []).1).2, (tr p.r (tr p.l []).1).1.map (mt p.m)⟩, 0) := by unfold own; rw [if_neg hb]
    rw [e]
    have h1 := tr_rg p.l []
    have h2 := tr_rg p.r (tr p.l []).1
    rw [show rg ([] : List Int).length = [] from rfl] at h1
    generalize (tr p.r (tr p.l []).1).1 = o at h2 ⊢
    unfold own
    dsimp only
    rw [h1]
    dsimp only
    rw [h2]
    dsimp only
    have hl : (o.map (mt p.m)).length = o.length := List.length_map ..
    rw [if_neg]
    · congr 2
      rw [rg_map _ _ (by omega), List.take_of_length_le (by omega)]
    · intro h
      obtain ⟨x, hx, hb⟩ := List.any_eq_true.1 h
      have := (rg_mem _ _).1 hx
      unfold bad at hb
      rw [decide_eq_true_eq] at hb
      omega
structure Sm (p : Li.Pr) : Prop where
  l : p.l.full ≤ 150 ∧ p.l.Fit
  r : p.r.full ≤ 150 ∧ p.r.Fit
  ml : p.m.length ≤ 300
  m : ∀ t ∈ p.m, t.size ≤ 60
theorem mt_size {M : List Ty} (h : ∀ t ∈ M, t.size ≤ 60) (x : Int) : (mt M x).size ≤ 60 := by
  unfold mt
  rw [List.getD_eq_getElem?_getD]
  cases hx : M[x.toNat]? with
  | none => simp [Ty.size, Ty.sizes]
  | some t => exact h t (List.mem_of_getElem? hx)
theorem Sm.own {p : Li.Pr} (h : Sm p) : Sm (own p).1 := by
  by_cases hb : (tr p.r (tr p.l []).1).1.any (bad p.m) = true
  · have : Ru.own p = (.z, 10) := by unfold Ru.own; rw [if_pos hb]
    rw [this]
    exact ⟨⟨by decide, Tm.fit_iff.2 ⟨by decide, by decide, nofun⟩⟩, ⟨by decide, Tm.fit_iff.2 ⟨by decide, by decide, nofun⟩⟩, by decide, nofun⟩
  · have e : Ru.own p = (⟨(tr p.l []).2, (tr p.r (tr p.l []).1).2, (tr p.r (tr p.l []).1).1.map (mt p.m)⟩, 0) := by unfold Ru.own; rw [if_neg hb]
    rw [e]
    have g1 := tr_grow p.l []
    have g2 := tr_grow p.r (tr p.l []).1
    have := h.l.1
    have := h.r.1
    simp only [List.length_nil, Nat.zero_add] at g1
    refine ⟨⟨?_, ?_⟩, ⟨?_, ?_⟩, ?_, fun t ht => ?_⟩
    · show (tr p.l []).2.full ≤ 150
      rw [tr_full]; exact h.l.1
    · exact tr_fit p.l [] (by simp; omega) h.l.2
    · show (tr p.r (tr p.l []).1).2.full ≤ 150
      rw [tr_full]; exact h.r.1
    · exact tr_fit p.r _ (by omega) h.r.2
    · show (List.map _ _).length ≤ 300
      rw [List.length_map]; omega
    · obtain ⟨x, _, rfl⟩ := List.mem_map.1 ht
      exact mt_size h.m x
theorem Sm.sizes {p : Li.Pr} (h : Sm p) : Ty.sizes p.m ≤ 18000 := by
  have := sizes_le22 h.m
  have := h.ml
  omega
theorem Sm.of {p : Li.Pr} (h : fewP p = true) (hf : p.l.Fit ∧ p.r.Fit) : Sm p := by
  obtain ⟨h1, h2, h3⟩ := fewP_ok h
  exact ⟨⟨h1.1, hf.1⟩, ⟨h1.2, hf.2⟩, by omega, h3⟩
end Ru
set_option maxHeartbeats 8000000 in
theorem ruleOwns_d (a b : Li.Pr) (ha : a.l.Fit ∧ a.r.Fit) (hb : b.l.Fit ∧ b.r.Fit) : PureC Tryz.prog 3 [.ag (ePr a), .ag (ePr b)] (.v (.bool true)) := by
 have hk := known17_d
 have hF := few17_d [a, b] (by simp)
 have eP : ePrs [a, b] = [ePr a, ePr b] := rfl
 rw [ePr_at, ePr_at b] at eP
 rw [ePr_at, ePr_at b]
 cases hf : [a, b].all fewP with
 | false =>
  rw [hf] at hF
  refine calldw 0 112 [ResultVar.tmp 4] TRI_ok Tryz.func3 rfl Tryz.ntmps3 rfl fun cx hnt hn0 => ?_
  ·skip
   refine dw_seq ?_; refine dwk [] TRI_ok hnt fun K hK => ?_; refine hK _ _ ?_; clear hK K; refine dw_seq ?_; refine dw_seq ?_; refine dwk [(15, .sl 9 (ePrs [a, b]) none)] TRI_ok hnt fun K hK => ?_; refine And.intro ((by rw [eP]; exact VLe.untag _ _ _)) ?_; refine dcl (hF) ?_; refine hK _ _ ?_; clear hK K; refine dw_cond (t := true) rfl ?_; rw [if_pos rfl]; refine dw_seq ?_; refine dwk [] TRI_ok hnt fun K hK => ?_
   refine dcl (hk) ?_; refine hK _ _ ?_; clear hK K; refine dw_ret ?_
   exact reta rfl
 | true =>
 rw [hf] at hF
 simp only [List.all_cons, List.all_nil, Bool.and_true, Bool.and_eq_true] at hf
 have sa := Ru.Sm.of hf.1 ha
 have sb := Ru.Sm.of hf.2 hb
 have za := sa.sizes
 have zb := sb.sizes
 have sx := sa.own
 have zx := sx.sizes
 have sy := sb.own
 have la := sa.ml
 have lb := sb.ml
 have lx := sx.ml
 have ly := sy.ml
 have fa1 := sa.l.1
 have fa2 := sa.r.1
 have fb1 := sb.l.1
 have fb2 := sb.r.1
 have fx1 := sx.l.1
 have fx2 := sx.r.1
 have tA := to17_d a (by omega) (by omega) (by omega)
 have tB := to17_d b (by omega) (by omega) (by omega)
 have tM := toTys_d a.m (by omega)
 have tL := to6D_d a.l (by omega)
 have tR := to6D_d a.r (by omega)
 have oA := ruown_d a ⟨by omega, ha.1⟩ ⟨by omega, ha.2⟩ (fun t h => by have := sa.m t h; omega) (by omega)
 have oR := rown_d a ⟨by omega, ha.1⟩ ⟨by omega, ha.2⟩ (by omega)
 have oF := ruof_d 0 [] a.m a.l a.r ⟨by omega, ha.1⟩ ⟨by omega, ha.2⟩ (fun t h => by have := sa.m t h; omega) (by omega)
 rw [show (⟨a.l, a.r, a.m⟩ : Li.Pr) = a from rfl] at oF
 have oX := ruown_d (Ru.own a).1 ⟨by omega, sx.l.2⟩ ⟨by omega, sx.r.2⟩ (fun t h => by have := sx.m t h; omega) (by omega)
 rw [Ru.own_own] at oX
 have fX := of17_d (Ru.own a).1 (by omega) (by omega) (by omega)
 have sX := same17_d (Ru.own a).1 (Ru.own a).1 (by omega) (by omega)
 have eX := ruequal_d (Ru.own a).1 (Ru.own a).1
 rw [decide_eq_true rfl] at sX eX
 have v1 := ruvari_d a b ⟨by omega, ha.1⟩ ⟨by omega, ha.2⟩ (fun t h => by have := sa.m t h; omega) (by omega) ⟨by omega, hb.1⟩ ⟨by omega, hb.2⟩ (fun t h => by have := sb.m t h; omega) (by omega)
 have v2 := rvari_d a b ⟨by omega, ha.1⟩ ⟨by omega, ha.2⟩ (by omega) ⟨by omega, hb.1⟩ ⟨by omega, hb.2⟩ (by omega) ⟨by omega, by omega⟩
 have e1 := ruequal_d a b
 have e2 := same17_d a b (by omega) (by omega)
 have hc : (Ru.own a).2 = 0 ∨ (Ru.own a).2 = 10 := by rcases Ru.own_code a with h | h; exact .inl h; rw [h]; exact .inr rfl
 generalize Ru.own a = x at oA oR oF oX fX sX eX hc
 obtain ⟨X, e⟩ := x
 dsimp only at oA oR oF oX fX sX eX hc
 rw [eTm_eq] at tL tR
 rw [eTm_eq, eTm_eq] at oF
 rw [ePr_at a] at tA oA oR v1 v2 e1 e2
 rw [ePr_at b] at tB v1 v2 e1 e2
 rw [ePr_at X] at oA oR oF oX fX sX eX
 rcases hc with hc | hc
 ·subst hc
  rw [decide_eq_true rfl] at oR
  refine calldw 0 112 [ResultVar.tmp 4] TRI_ok Tryz.func3 rfl Tryz.ntmps3 rfl fun cx hnt hn0 => ?_
  ·skip
   refine dw_seq ?_; refine dwk [] TRI_ok hnt fun K hK => ?_; refine hK _ _ ?_; clear hK K; refine dw_seq ?_; refine dw_seq ?_; refine dwk [(15, .sl 9 (ePrs [a, b]) none)] TRI_ok hnt fun K hK => ?_; refine And.intro ((by rw [eP]; exact VLe.untag _ _ _)) ?_; refine dcl (hF) ?_; refine hK _ _ ?_; clear hK K; refine dw_cond (t := false) rfl ?_; rw [if_neg (by simp)]; refine dw_skip ?_; refine dw_seq ?_; refine dwk [] TRI_ok hnt fun K hK => ?_
   refine dcl (tA) ?_; refine dcl (oA) ?_; refine hK _ _ ?_; clear hK K; refine dw_seq ?_; refine dwk [] TRI_ok hnt fun K hK => ?_; refine dcl (oR) ?_; refine hK _ _ ?_; clear hK K; refine dw_seq ?_; refine dwkD [(34, .ag [.v (.int .i64 0), .sl 2 (eTys []) none, .sl 2 (eTys a.m) none])] TRI_ok hnt fun K hK => ?_; refine dcl (tM) ?_; refine And.intro (auV) ?_; refine dcl (tL) ?_; refine dcl (tR) ?_; refine dcl (oF) ?_
   refine hK _ _ (by kernel_rfl) ?_; clear hK K; refine dw_seq ?_; refine dw_seq ?_; refine dwkD [(45, .v (.bool true)), (47, .v (.bool false)), (66, .v (.bool false))] TRI_ok hnt fun K hK => ?_; refine And.intro (VLe.refl _) ?_; refine And.intro (VLe.refl _) ?_; refine dcl (fX) ?_; refine dcl (sX) ?_; refine And.intro (VLe.refl _) ?_; refine dcl (fX) ?_; refine dcl (sX) ?_; refine hK _ _ (by kernel_rfl) ?_; clear hK K
   refine dw_cond (t := false) rfl ?_; rw [if_neg (by simp)]; refine dw_skip ?_; refine dw_seq ?_; refine dwk [] TRI_ok hnt fun K hK => ?_; refine dcl (oX) ?_; refine hK _ _ ?_; clear hK K; refine dw_seq ?_; refine dwkD [(83, .v (.bool true)), (99, .v (.bool true)), (110, .v (.bool true))] TRI_ok hnt fun K hK => ?_; refine dcl (hk) ?_; refine And.intro (VLe.refl _) ?_; refine dcl (eX) ?_; refine dcl (tA) ?_
   refine dcl (tB) ?_; refine dcl (v1) ?_; refine dcl (v2) ?_; refine And.intro (VLe.of_eq (by simp)) ?_; refine dcl (tA) ?_; refine dcl (tB) ?_; refine dcl (e1) ?_; refine dcl (e2) ?_; refine And.intro (VLe.of_eq (by simp)) ?_; refine hK _ _ (by kernel_rfl) ?_; clear hK K; refine dw_ret ?_
   exact reta rfl
 ·subst hc
  rw [decide_eq_false (by decide)] at oR
  refine calldw 0 112 [ResultVar.tmp 4] TRI_ok Tryz.func3 rfl Tryz.ntmps3 rfl fun cx hnt hn0 => ?_
  ·skip
   refine dw_seq ?_; refine dwk [] TRI_ok hnt fun K hK => ?_; refine hK _ _ ?_; clear hK K; refine dw_seq ?_; refine dw_seq ?_; refine dwk [(15, .sl 9 (ePrs [a, b]) none)] TRI_ok hnt fun K hK => ?_; refine And.intro ((by rw [eP]; exact VLe.untag _ _ _)) ?_; refine dcl (hF) ?_; refine hK _ _ ?_; clear hK K; refine dw_cond (t := false) rfl ?_; rw [if_neg (by simp)]; refine dw_skip ?_; refine dw_seq ?_; refine dwk [] TRI_ok hnt fun K hK => ?_
   refine dcl (tA) ?_; refine dcl (oA) ?_; refine hK _ _ ?_; clear hK K; refine dw_seq ?_; refine dwk [] TRI_ok hnt fun K hK => ?_; refine dcl (oR) ?_; refine hK _ _ ?_; clear hK K; refine dw_seq ?_; refine dwkD [(34, .ag [.v (.int .i64 0), .sl 2 (eTys []) none, .sl 2 (eTys a.m) none])] TRI_ok hnt fun K hK => ?_; refine dcl (tM) ?_; refine And.intro (auV) ?_; refine dcl (tL) ?_; refine dcl (tR) ?_; refine dcl (oF) ?_
   refine hK _ _ (by kernel_rfl) ?_; clear hK K; refine dw_seq ?_; refine dw_seq ?_; refine dwkD [(45, .v (.bool false)), (47, .v (.bool false)), (53, .v (.bool false)), (66, .v (.bool false))] TRI_ok hnt fun K hK => ?_; refine And.intro (VLe.refl _) ?_; refine And.intro (VLe.refl _) ?_; refine And.intro (VLe.refl _) ?_; refine dcl (fX) ?_; refine dcl (sX) ?_; refine And.intro (VLe.refl _) ?_; refine dcl (fX) ?_
   refine dcl (sX) ?_; refine hK _ _ (by kernel_rfl) ?_; clear hK K; refine dw_cond (t := false) rfl ?_; rw [if_neg (by simp)]; refine dw_skip ?_; refine dw_seq ?_; refine dwk [] TRI_ok hnt fun K hK => ?_; refine dcl (oX) ?_; refine hK _ _ ?_; clear hK K; refine dw_seq ?_; refine dwkD [(83, .v (.bool true)), (99, .v (.bool true)), (110, .v (.bool true))] TRI_ok hnt fun K hK => ?_; refine dcl (hk) ?_; refine And.intro (VLe.refl _) ?_
   refine dcl (eX) ?_; refine dcl (tA) ?_; refine dcl (tB) ?_; refine dcl (v1) ?_; refine dcl (v2) ?_; refine And.intro (VLe.of_eq (by simp)) ?_; refine dcl (tA) ?_; refine dcl (tB) ?_; refine dcl (e1) ?_; refine dcl (e2) ?_; refine And.intro (VLe.of_eq (by simp)) ?_; refine hK _ _ (by kernel_rfl) ?_; clear hK K; refine dw_ret ?_
   exact reta rfl
end Go.Proofs.YtdmiekaeodcehaaGreat

