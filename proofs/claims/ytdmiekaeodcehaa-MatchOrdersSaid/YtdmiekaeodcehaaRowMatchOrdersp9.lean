/-
  Variants and what is more general, walked in the deep way; MatchOrders.
-/
import Derived.Test.YtdmiekaeodcehaaRowMatchOrdersp8
set_option maxRecDepth 100000
set_option maxHeartbeats 1000000
set_option linter.unusedVariables false
set_option linter.unusedSimpArgs false
namespace Go.Proofs.Ytdmiekaeodcehaa
open Go.RowKit
def TMO_34 : TI := ⟨4, true, [Value.slice none 0 0, Value.int IntKind.i64 0, Value.int IntKind.i64 0, Value.slice none 0 0], [(0, 1, false), (1, 2, true), (3, 1, false)], none, 64, 6, none, false⟩
theorem TMO_34_ok : TypOk Try.prog 34 TMO_34 := ⟨by kernel_rfl, by kernel_rfl, by kernel_rfl, by kernel_rfl, by kernel_rfl⟩
def TMO_27 : TI := ⟨4, true, [Value.slice none 0 0, Value.int IntKind.i64 0, Value.int IntKind.i64 0, Value.slice none 0 0], [(0, 1, false), (1, 2, true), (3, 1, false)], none, 64, 6, none, false⟩
theorem TMO_27_ok : TypOk Try.prog 27 TMO_27 := ⟨by kernel_rfl, by kernel_rfl, by kernel_rfl, by kernel_rfl, by kernel_rfl⟩
def TMO_3 : TI := ⟨1, false, [Value.int IntKind.i64 0], [], none, 8, 2, none, false⟩
theorem TMO_3_ok : TypOk Try.prog 3 TMO_3 := ⟨by kernel_rfl, by kernel_rfl, by kernel_rfl, by kernel_rfl, by kernel_rfl⟩
def TMO_31 : TI := ⟨2, true, [Value.int IntKind.i64 0, Value.int IntKind.i64 0], [(0, 1, false), (1, 1, false)], none, 16, 6, none, true⟩
theorem TMO_31_ok : TypOk Try.prog 31 TMO_31 := ⟨by kernel_rfl, by kernel_rfl, by kernel_rfl, by kernel_rfl, by kernel_rfl⟩
def TMO_24 : TI := ⟨2, true, [Value.int IntKind.i64 0, Value.int IntKind.i64 0], [(0, 1, false), (1, 1, false)], none, 16, 6, none, true⟩
theorem TMO_24_ok : TypOk Try.prog 24 TMO_24 := ⟨by kernel_rfl, by kernel_rfl, by kernel_rfl, by kernel_rfl, by kernel_rfl⟩
def TMO_105 : TI := ⟨5, true, [Value.int IntKind.i64 0, Value.slice none 0 0, Value.int IntKind.i64 0, Value.int IntKind.i64 0, Value.slice none 0 0], [(0, 1, false), (1, 4, true)], none, 72, 6, none, false⟩
theorem TMO_105_ok : TypOk Try.prog 105 TMO_105 := ⟨by kernel_rfl, by kernel_rfl, by kernel_rfl, by kernel_rfl, by kernel_rfl⟩
def TMO_43 : TI := ⟨1, false, [Value.slice none 0 0], [], some 3, 24, 5, none, false⟩
theorem TMO_43_ok : TypOk Try.prog 43 TMO_43 := ⟨by kernel_rfl, by kernel_rfl, by kernel_rfl, by kernel_rfl, by kernel_rfl⟩
def TMO_25 : TI := ⟨1, false, [Value.slice none 0 0], [], some 27, 24, 5, none, false⟩
theorem TMO_25_ok : TypOk Try.prog 25 TMO_25 := ⟨by kernel_rfl, by kernel_rfl, by kernel_rfl, by kernel_rfl, by kernel_rfl⟩
def TMO_208 : TI := ⟨1, false, [Value.map none], [], none, 8, 7, some 4, false⟩
theorem TMO_208_ok : TypOk Try.prog 208 TMO_208 := ⟨by kernel_rfl, by kernel_rfl, by kernel_rfl, by kernel_rfl, by kernel_rfl⟩
def TMO_4 : TI := ⟨1, false, [Value.bool false], [], none, 1, 1, none, false⟩
theorem TMO_4_ok : TypOk Try.prog 4 TMO_4 := ⟨by kernel_rfl, by kernel_rfl, by kernel_rfl, by kernel_rfl, by kernel_rfl⟩
def TMO_53 : TI := ⟨1, false, [Value.slice none 0 0], [], some 105, 24, 5, none, false⟩
theorem TMO_53_ok : TypOk Try.prog 53 TMO_53 := ⟨by kernel_rfl, by kernel_rfl, by kernel_rfl, by kernel_rfl, by kernel_rfl⟩
def TMO_46 : TI := ⟨1, false, [Value.slice none 0 0], [], some 49, 24, 5, none, false⟩
theorem TMO_46_ok : TypOk Try.prog 46 TMO_46 := ⟨by kernel_rfl, by kernel_rfl, by kernel_rfl, by kernel_rfl, by kernel_rfl⟩
def TMO_56 : TI := ⟨1, false, [Value.slice none 0 0], [], some 95, 24, 5, none, false⟩
theorem TMO_56_ok : TypOk Try.prog 56 TMO_56 := ⟨by kernel_rfl, by kernel_rfl, by kernel_rfl, by kernel_rfl, by kernel_rfl⟩
def TMO_35 : TI := ⟨1, false, [Value.int IntKind.i64 0], [], none, 8, 2, none, false⟩
theorem TMO_35_ok : TypOk Try.prog 35 TMO_35 := ⟨by kernel_rfl, by kernel_rfl, by kernel_rfl, by kernel_rfl, by kernel_rfl⟩
def TMO_49 : TI := ⟨8, true, [Value.slice none 0 0, Value.int IntKind.i64 0, Value.int IntKind.i64 0, Value.slice none 0 0, Value.slice none 0 0, Value.int IntKind.i64 0, Value.int IntKind.i64 0, Value.slice none 0 0], [(0, 4, true), (4, 4, true)], none, 128, 6, none, false⟩
theorem TMO_49_ok : TypOk Try.prog 49 TMO_49 := ⟨by kernel_rfl, by kernel_rfl, by kernel_rfl, by kernel_rfl, by kernel_rfl⟩
def TMO_95 : TI := ⟨5, true, [Value.int IntKind.i64 0, Value.slice none 0 0, Value.int IntKind.i64 0, Value.int IntKind.i64 0, Value.slice none 0 0], [(0, 1, false), (1, 4, true)], none, 72, 6, none, false⟩
theorem TMO_95_ok : TypOk Try.prog 95 TMO_95 := ⟨by kernel_rfl, by kernel_rfl, by kernel_rfl, by kernel_rfl, by kernel_rfl⟩
def TMO : List (Nat × TI) := [(34, TMO_34), (27, TMO_27), (3, TMO_3), (31, TMO_31), (24, TMO_24), (105, TMO_105), (43, TMO_43), (25, TMO_25), (208, TMO_208), (4, TMO_4), (53, TMO_53), (46, TMO_46), (56, TMO_56), (35, TMO_35), (49, TMO_49), (95, TMO_95)]
theorem TMO_ok : TabOk Try.prog TMO := (((((((((((((((((TabOk.nil _).cons TMO_95_ok).cons TMO_49_ok).cons TMO_35_ok).cons TMO_56_ok).cons TMO_46_ok).cons TMO_53_ok).cons TMO_4_ok).cons TMO_208_ok).cons TMO_25_ok).cons TMO_43_ok).cons TMO_105_ok).cons TMO_24_ok).cons TMO_31_ok).cons TMO_3_ok).cons TMO_27_ok).cons TMO_34_ok)

namespace Pn
def metL : List (Int × Tm) → List Int → Option (List Int)
  | [], acc => some acc
  | p :: l, acc => if longB p.2 && (decide (p.2.kind = 2) && !acc.contains p.2.headIx) then metL l (acc ++ [p.2.headIx]) else none
def renB (a b : Tm) : Bool := decide ((mAll [(a, b)]).2 = 0) && (metL (mAll [(a, b)]).1 []).isSome
theorem metL_app : ∀ (l r : List (Int × Tm)) (acc : List Int), metL (l ++ r) acc = (metL l acc).bind (metL r)
  | [], r, acc => rfl
  | p :: l, r, acc => by
    rw [List.cons_append, metL, metL]
    split
    · exact metL_app l r _
    · rfl
theorem metL_at (l : List (Int × Tm)) (j : Nat) (hj : j < l.length) {acc : List Int} (h : metL (l.take j) [] = some acc) : metL (l.take (j + 1)) [] = metL [l[j]] acc ∧ (metL [l[j]] acc = none → metL l [] = none) := by
  constructor
  · rw [List.take_add_one, List.getElem?_eq_getElem hj, metL_app, h]; rfl
  · intro h0
    have e : l = l.take j ++ ([l[j]] ++ l.drop (j + 1)) := by
      rw [List.singleton_append, ← List.drop_eq_getElem_cons hj, List.take_append_drop]
    have : metL (l.take j ++ ([l[j]] ++ l.drop (j + 1))) [] = none := by rw [metL_app, h, Option.bind_some, metL_app, h0]; rfl
    rw [← e] at this; exact this
theorem metL_len : ∀ (l : List (Int × Tm)) (acc r : List Int), metL l acc = some r → r.length = acc.length + l.length
  | [], acc, r, h => by cases h; simp
  | p :: l, acc, r, h => by
    rw [metL] at h
    split at h
    · have := metL_len l _ _ h
      simp at this ⊢; omega
    · cases h
theorem metL_one (p : Int × Tm) (acc : List Int) : metL [p] acc = if longB p.2 && (decide (p.2.kind = 2) && !acc.contains p.2.headIx) then some (acc ++ [p.2.headIx]) else none := by
  rw [metL]; split <;> rfl
end Pn
set_option maxHeartbeats 2000000 in
theorem mren_d (a b : Tm) (h : PPok (a, b)) : PureC Try.prog 79 [.ag (eTm a), .ag (eTm b)] (.v (.bool (Pn.renB a b))) := by
 have hM := mMatch_d a b h
 have hmo := Pn.mAll_ok [(a, b)] (fun q hq => by rw [List.mem_singleton] at hq; subst hq; exact h)
 unfold Pn.renB
 obtain ⟨⟨l, e⟩, hr⟩ : ∃ r, Pn.mAll [(a, b)] = r := ⟨_, rfl⟩
 rw [hr] at hM hmo ⊢
 obtain ⟨hm1, hm2⟩ := hmo
 dsimp only at hM hm1 hm2 ⊢
 simp only [List.length_cons, List.length_nil] at hm2
 rw [eTm_eq, eTm_eq] at hM ⊢
 by_cases he : e = 0
 ·rw [decide_eq_true he, Bool.true_and]
  refine calldw 0 50 [ResultVar.tmp 4] TMO_ok Try.func79 rfl Try.ntmps79 rfl fun cx hnt hn0 => ?_
  ·skip
   refine dw_seq ?_; refine dwk [] TMO_ok hnt fun K hK => ?_; refine hK _ _ ?_; clear hK K; refine dw_seq ?_; refine dwk [] TMO_ok hnt fun K hK => ?_; refine dcl (hM) ?_; refine hK _ _ ?_; clear hK K; refine dw_seq ?_; refine dw_seq ?_; refine dwk [(19, .v (.bool false))] TMO_ok hnt fun K hK => ?_; refine And.intro (bneF he) ?_; refine hK _ _ ?_; clear hK K; refine dw_cond (t := false) rfl ?_; rw [if_neg (by simp)]
   refine dw_skip ?_; refine dw_seq ?_; refine dwk [] TMO_ok hnt fun K hK => ?_; refine hK _ _ ?_; clear hK K; refine dw_seq ?_; refine dw_seq ?_; refine dwk [(22, .v (.int .i64 (↑l.length)))] TMO_ok hnt fun K hK => ?_; refine And.intro (dintE (by rw [ePairs_len])) ?_; refine hK _ _ ?_; clear hK K; refine dw_block ?_
   refine dw_loop (ι := { q : Nat × List Int // Pn.metL (l.take q.1) [] = some q.2 }) (fun q => [(.t 7, .mo 13), (.o 13, .mp (eMet q.1.2)), (.t 21, .sl 5 (ePairs l) none), (.t 22, .v (.int .i64 ↑l.length)), (.t 23, .v (.int .i64 ↑q.1.1))]) 14 (fun q => l.length - q.1.1) (⟨(0, []), rfl⟩) ((VS.toK (by omega) (by repeat first | exact trivial | refine And.intro (And.intro (by first | rfl | simp [D.ok, D.oks, D.okss, D.okm, upto, keyOk, eMet]) (by first | exact Or.inl rfl | exact Or.inr ⟨_, rfl, (by repeat first | exact VLe.refl _ | exact VLe.nil _ | exact VLe.untag _ _ _ | refine VLe.ag ?_ | refine VLe.tu ?_ | refine VLeL.cons ?_ ?_ | exact VLeL.nil), trivial⟩ | simp [get, Key.eq, eMet])) ?_))) fun q => ?_
   obtain ⟨⟨j, acc⟩, hq⟩ := q
   dsimp only at hq ⊢
   by_cases hlt : j < l.length
   ·have hst := Pn.metL_at l j hlt hq
    have hok := hm1 _ (List.getElem_mem hlt)
    have hva := var_d l[j].2 (by omega) hok.2
    have hfi := eMet_find acc l[j].2.headIx
    rw [Pn.metL_one] at hst
    unfold varV at hva
    rw [eTm_eq] at hva
    refine dw_seq ?_; refine dwk [(24, .v (.bool true))] TMO_ok hnt fun K hK => ?_; refine And.intro auT ?_; refine hK _ _ ?_; clear hK K; refine dw_seq ?_; refine dw_cond (t := true) rfl ?_; rw [if_pos rfl]; refine dw_skip ?_; refine dw_seq ?_; refine dw_block ?_; refine dw_seq ?_; refine dwk [(25, .q [.v (.int .i64 l[j].1), .sl 2 (eTys l[j].2.binds) none, .v (.int .i64 l[j].2.kind), .v (.int .i64 l[j].2.index), .sl 4 (eTms l[j].2.args) none])] TMO_ok hnt fun K hK => ?_
    refine And.intro (elo (ePairs_len l)) ?_; refine And.intro (elv (ePairs_getD l j) (ePair_eq _)) ?_; refine hK _ _ ?_; clear hK K
    cases h1 : longB l[j].2 with
    | false =>
     rw [h1] at hva
     rw [hst.2 (by rw [h1]; simp)]
     refine dw_seq ?_; refine dwk [] TMO_ok hnt fun K hK => ?_; refine dcl (hva) ?_; refine hK _ _ ?_; clear hK K; refine dw_seq ?_; refine dw_seq ?_; refine dwk [] TMO_ok hnt fun K hK => ?_; refine hK _ _ ?_; clear hK K; refine dw_cond (t := true) rfl ?_; rw [if_pos rfl]; refine dw_seq ?_; refine dwk [] TMO_ok hnt fun K hK => ?_; refine hK _ _ ?_; clear hK K; refine dw_ret ?_
     exact reta rfl
    | true =>
     rw [h1, if_pos rfl, if_pos rfl] at hva
     refine dw_seq ?_; refine dwk [] TMO_ok hnt fun K hK => ?_; refine dcl (hva) ?_; refine hK _ _ ?_; clear hK K
     by_cases h2 : l[j].2.kind = 2
     ·cases h4 : acc.contains l[j].2.headIx with
      | true =>
       rw [h4] at hfi
       rw [hst.2 (by rw [h1, h4]; simp)]
       refine dw_seq ?_; refine dw_seq ?_; refine dwk [(38, .v (.bool false)), (44, .v (.bool true))] TMO_ok hnt fun K hK => ?_; refine And.intro (bneF h2) ?_; refine And.intro (VLe.of_eq hfi) ?_; refine hK _ _ ?_; clear hK K; refine dw_cond (t := true) rfl ?_; rw [if_pos rfl]; refine dw_seq ?_; refine dwk [] TMO_ok hnt fun K hK => ?_; refine hK _ _ ?_; clear hK K; refine dw_ret ?_
       exact reta rfl
      | false =>
       rw [h4] at hfi
       have hpu := eMet_put acc _ h4
       rw [if_pos (by rw [h1, h4, decide_eq_true h2]; rfl)] at hst; refine dw_seq ?_; refine dw_seq ?_; refine dwk [(38, .v (.bool false)), (44, .v (.bool false))] TMO_ok hnt fun K hK => ?_; refine And.intro (bneF h2) ?_; refine And.intro (VLe.of_eq hfi) ?_; refine hK _ _ ?_; clear hK K; refine dw_cond (t := false) rfl ?_; rw [if_neg (by simp)]; refine dw_skip ?_; refine dwk [] TMO_ok hnt fun K hK => ?_; refine hK _ _ ?_; clear hK K
       rw [hpu]
       refine dwk [(49, .v (.int .i64 (↑(j + 1))))] TMO_ok hnt fun K hK => ?_; refine And.intro auI ?_; refine hK _ _ ?_; clear hK K
       refine ⟨⟨(j + 1, acc ++ [l[j].2.headIx]), hst.1⟩, by first | omega | (dsimp only; omega), VS.toA⟩
     ·rw [hst.2 (by rw [h1, decide_eq_false h2]; simp)]
      refine dw_seq ?_; refine dw_seq ?_; refine dwk [(38, .v (.bool true))] TMO_ok hnt fun K hK => ?_; refine And.intro (bneT h2) ?_; refine hK _ _ ?_; clear hK K; refine dw_cond (t := true) rfl ?_; rw [if_pos rfl]; refine dw_seq ?_; refine dwk [] TMO_ok hnt fun K hK => ?_; refine hK _ _ ?_; clear hK K; refine dw_ret ?_
      exact reta rfl
   ·rw [List.take_of_length_le (by omega)] at hq
    rw [hq]
    refine dw_seq ?_; refine dwk [(24, .v (.bool false))] TMO_ok hnt fun K hK => ?_; refine And.intro auF ?_; refine hK _ _ ?_; clear hK K; refine dw_seq ?_; refine dw_cond (t := false) rfl ?_; rw [if_neg (by simp)]; refine dw_exit ?_; refine dw_seq ?_; refine dwk [] TMO_ok hnt fun K hK => ?_; refine hK _ _ ?_; clear hK K; refine dw_ret ?_
    exact reta rfl
 ·rw [decide_eq_false he, Bool.false_and]
  refine calldw 0 50 [ResultVar.tmp 4] TMO_ok Try.func79 rfl Try.ntmps79 rfl fun cx hnt hn0 => ?_
  ·skip
   refine dw_seq ?_; refine dwk [] TMO_ok hnt fun K hK => ?_; refine hK _ _ ?_; clear hK K; refine dw_seq ?_; refine dwk [] TMO_ok hnt fun K hK => ?_; refine dcl (hM) ?_; refine hK _ _ ?_; clear hK K; refine dw_seq ?_; refine dw_seq ?_; refine dwk [(19, .v (.bool true))] TMO_ok hnt fun K hK => ?_; refine And.intro (bneT he) ?_; refine hK _ _ ?_; clear hK K; refine dw_cond (t := true) rfl ?_; rw [if_pos rfl]
   refine dw_seq ?_; refine dwk [] TMO_ok hnt fun K hK => ?_; refine hK _ _ ?_; clear hK K; refine dw_ret ?_
   exact reta rfl
theorem rMatch_d (p t : Tm) (h : PPok (p, t)) : PureC Try.prog 24 [.ag (eTm p), .ag (eTm t)] (.tu [.sl 5 (ePairs (Pn.mAll [(p, t)]).1) none, .v (.int .i64 (Pn.mAll [(p, t)]).2)]) := by
 have hA := rAll_d [(p, t)] (by simp) (fun q hq => by rw [List.mem_singleton] at hq; subst hq; exact h)
 have h1 := ePPs_one (p, t)
 dsimp only at h1
 rw [eTm_eq, eTm_eq]
 refine calldw 0 13 [ResultVar.tmp 4, ResultVar.tmp 5] TMO_ok Try.func24 rfl Try.ntmps24 rfl fun cx hnt hn0 => ?_
 ·skip
  refine dw_seq ?_; refine dwk [] TMO_ok hnt fun K hK => ?_; refine hK _ _ ?_; clear hK K; refine dw_seq ?_; refine dwk [(9, .sl 8 (ePPs [(p, t)]) none)] TMO_ok hnt fun K hK => ?_; refine And.intro ((by rw [h1]; exact VLe.untag _ _ _)) ?_; refine dcl (hA) ?_; refine hK _ _ ?_; clear hK K; refine dw_ret ?_
  exact reta rfl
set_option maxHeartbeats 2000000 in
theorem rren_d (a b : Tm) (h : PPok (a, b)) : PureC Try.prog 80 [.ag (eTm a), .ag (eTm b)] (.v (.bool (Pn.renB a b))) := by
 have hM := rMatch_d a b h
 have hmo := Pn.mAll_ok [(a, b)] (fun q hq => by rw [List.mem_singleton] at hq; subst hq; exact h)
 unfold Pn.renB
 obtain ⟨⟨l, e⟩, hr⟩ : ∃ r, Pn.mAll [(a, b)] = r := ⟨_, rfl⟩
 rw [hr] at hM hmo ⊢
 obtain ⟨hm1, hm2⟩ := hmo
 dsimp only at hM hm1 hm2 ⊢
 simp only [List.length_cons, List.length_nil] at hm2
 rw [eTm_eq, eTm_eq] at hM ⊢
 by_cases he : e = 0
 ·rw [decide_eq_true he, Bool.true_and]
  refine calldw 0 52 [ResultVar.tmp 4] TMO_ok Try.func80 rfl Try.ntmps80 rfl fun cx hnt hn0 => ?_
  ·skip
   refine dw_seq ?_; refine dwk [] TMO_ok hnt fun K hK => ?_; refine hK _ _ ?_; clear hK K; refine dw_seq ?_; refine dwk [] TMO_ok hnt fun K hK => ?_; refine dcl (hM) ?_; refine hK _ _ ?_; clear hK K; refine dw_seq ?_; refine dw_seq ?_; refine dwk [(18, .v (.bool false))] TMO_ok hnt fun K hK => ?_; refine And.intro (bneF he) ?_; refine hK _ _ ?_; clear hK K; refine dw_cond (t := false) rfl ?_; rw [if_neg (by simp)]
   refine dw_skip ?_; refine dw_seq ?_; refine dwk [] TMO_ok hnt fun K hK => ?_; refine hK _ _ ?_; clear hK K
   refine DW.vs (VS.rowT (x := 7) (by rw [hnt]; decide) 3 1 rfl) ?_
   refine dw_seq ?_; refine dw_seq ?_; refine dwk [] TMO_ok hnt fun K hK => ?_; refine hK _ _ ?_; clear hK K; refine dw_block ?_
   refine dw_loop (ι := { q : Nat × List Int // Pn.metL (l.take q.1) [] = some q.2 }) (fun q => [(.t 5, .sl 5 (ePairs l) none), (.t 7, .sl 1 (eIs q.1.2) (some 14)), (.r 14, .rw 3 1 q.1.2.length), (.t 8, .v (.int .i64 ↑q.1.1))]) 15 (fun q => l.length - q.1.1) (⟨(0, []), rfl⟩) (VS.toA) fun q => ?_
   obtain ⟨⟨j, acc⟩, hq⟩ := q
   dsimp only at hq ⊢
   by_cases hlt : j < l.length
   ·have hst := Pn.metL_at l j hlt hq
    have hal := Pn.metL_len _ _ _ hq
    rw [List.length_take, List.length_nil] at hal
    have hok := hm1 _ (List.getElem_mem hlt)
    have hva := rvar_d l[j].2 (by omega) hok.2
    have hha := rhas_d acc l[j].2.headIx (by omega)
    rw [Pn.metL_one] at hst
    unfold varV at hva
    rw [eTm_eq] at hva
    refine dw_seq ?_; refine dw_seq ?_; refine dwk [(21, .v (.int .i64 (↑l.length))), (22, .v (.bool true))] TMO_ok hnt fun K hK => ?_; refine And.intro (dintE (by rw [ePairs_len])) ?_; refine And.intro auT ?_; refine hK _ _ ?_; clear hK K; refine dw_cond (t := true) rfl ?_; rw [if_pos rfl]
    cases h1 : longB l[j].2 with
    | false =>
     rw [h1] at hva
     rw [hst.2 (by rw [h1]; simp)]
     refine dw_skip ?_; refine dw_seq ?_; refine dw_block ?_; refine dw_seq ?_; refine dwk [(28, .q [.v (.int .i64 l[j].1), .sl 2 (eTys l[j].2.binds) none, .v (.int .i64 l[j].2.kind), .v (.int .i64 l[j].2.index), .sl 4 (eTms l[j].2.args) none])] TMO_ok hnt fun K hK => ?_; refine And.intro (elo (ePairs_len l)) ?_; refine And.intro (elv (ePairs_getD l j) (ePair_eq _)) ?_; refine dcl (hva) ?_; refine hK _ _ ?_; clear hK K
     refine dw_seq ?_; refine dw_seq ?_; refine dwk [] TMO_ok hnt fun K hK => ?_; refine hK _ _ ?_; clear hK K; refine dw_cond (t := true) rfl ?_; rw [if_pos rfl]; refine dw_seq ?_; refine dwk [] TMO_ok hnt fun K hK => ?_; refine hK _ _ ?_; clear hK K; refine dw_ret ?_
     exact reta rfl
    | true =>
     rw [h1, if_pos rfl, if_pos rfl] at hva
     refine dw_skip ?_; refine dw_seq ?_; refine dw_block ?_; refine dw_seq ?_; refine dwk [(28, .q [.v (.int .i64 l[j].1), .sl 2 (eTys l[j].2.binds) none, .v (.int .i64 l[j].2.kind), .v (.int .i64 l[j].2.index), .sl 4 (eTms l[j].2.args) none])] TMO_ok hnt fun K hK => ?_; refine And.intro (elo (ePairs_len l)) ?_; refine And.intro (elv (ePairs_getD l j) (ePair_eq _)) ?_; refine dcl (hva) ?_; refine hK _ _ ?_; clear hK K
     by_cases h2 : l[j].2.kind = 2
     ·cases h4 : acc.contains l[j].2.headIx with
      | true =>
       rw [h4] at hha
       rw [hst.2 (by rw [h1, h4]; simp)]
       refine dw_seq ?_; refine dw_seq ?_; refine dwk [(39, .v (.bool false)), (42, .sl 1 (eIs acc) none)] TMO_ok hnt fun K hK => ?_; refine And.intro (bneF h2) ?_; refine And.intro (VLe.untag _ _ _) ?_; refine dcl (hha) ?_; refine hK _ _ ?_; clear hK K; refine dw_cond (t := true) rfl ?_; rw [if_pos rfl]; refine dw_seq ?_; refine dwk [] TMO_ok hnt fun K hK => ?_; refine hK _ _ ?_; clear hK K; refine dw_ret ?_
       exact reta rfl
      | false =>
       rw [h4] at hha
       rw [if_pos (by rw [h1, h4, decide_eq_true h2]; rfl)] at hst; refine dw_seq ?_; refine dw_seq ?_; refine dwk [(39, .v (.bool false)), (42, .sl 1 (eIs acc) none)] TMO_ok hnt fun K hK => ?_; refine And.intro (bneF h2) ?_; refine And.intro (VLe.untag _ _ _) ?_; refine dcl (hha) ?_; refine hK _ _ ?_; clear hK K; refine dw_cond (t := false) rfl ?_; rw [if_neg (by simp)]; refine dw_skip ?_; refine dwk [(51, .sl 1 (eIs (acc ++ [l[j].2.headIx])) (some 14))] TMO_ok hnt fun K hK => ?_
       refine And.intro (⟨by rw [eIs_len], by rw [eIs_len]; simp; omega⟩) ?_; refine And.intro (VLe.of_eq (by rw [eIs_append]; rfl)) ?_; refine hK _ _ ?_; clear hK K; refine dwk [(24, .v (.int .i64 (↑(j + 1))))] TMO_ok hnt fun K hK => ?_; refine And.intro auI ?_; refine hK _ _ ?_; clear hK K
       have hl5 : (eIs acc).length = acc.length := eIs_len acc
       refine ⟨⟨(j + 1, acc ++ [l[j].2.headIx]), hst.1⟩, by first | omega | (dsimp only; omega), (by try simp only [List.length_append, List.length_take, List.length_cons, List.length_nil, Nat.zero_add, hl5]; exact VS.toA)⟩
     ·rw [hst.2 (by rw [h1, decide_eq_false h2]; simp)]
      refine dw_seq ?_; refine dw_seq ?_; refine dwk [(39, .v (.bool true))] TMO_ok hnt fun K hK => ?_; refine And.intro (bneT h2) ?_; refine hK _ _ ?_; clear hK K; refine dw_cond (t := true) rfl ?_; rw [if_pos rfl]; refine dw_seq ?_; refine dwk [] TMO_ok hnt fun K hK => ?_; refine hK _ _ ?_; clear hK K; refine dw_ret ?_
      exact reta rfl
   ·rw [List.take_of_length_le (by omega)] at hq
    rw [hq]
    refine dw_seq ?_; refine dw_seq ?_; refine dwk [(21, .v (.int .i64 (↑l.length))), (22, .v (.bool false))] TMO_ok hnt fun K hK => ?_; refine And.intro (dintE (by rw [ePairs_len])) ?_; refine And.intro auF ?_; refine hK _ _ ?_; clear hK K; refine dw_cond (t := false) rfl ?_; rw [if_neg (by simp)]; refine dw_exit ?_; refine dw_seq ?_; refine dwk [] TMO_ok hnt fun K hK => ?_; refine hK _ _ ?_; clear hK K
    refine dw_ret ?_
    exact reta rfl
 ·rw [decide_eq_false he, Bool.false_and]
  refine calldw 0 52 [ResultVar.tmp 4] TMO_ok Try.func80 rfl Try.ntmps80 rfl fun cx hnt hn0 => ?_
  ·skip
   refine dw_seq ?_; refine dwk [] TMO_ok hnt fun K hK => ?_; refine hK _ _ ?_; clear hK K; refine dw_seq ?_; refine dwk [] TMO_ok hnt fun K hK => ?_; refine dcl (hM) ?_; refine hK _ _ ?_; clear hK K; refine dw_seq ?_; refine dw_seq ?_; refine dwk [(18, .v (.bool true))] TMO_ok hnt fun K hK => ?_; refine And.intro (bneT he) ?_; refine hK _ _ ?_; clear hK K; refine dw_cond (t := true) rfl ?_; rw [if_pos rfl]
   refine dw_seq ?_; refine dwk [] TMO_ok hnt fun K hK => ?_; refine hK _ _ ?_; clear hK K; refine dw_ret ?_
   exact reta rfl
theorem mVariant_d (a b : Tm) (h : PPok (a, b)) (h' : PPok (b, a)) : PureC Try.prog 25 [.ag (eTm a), .ag (eTm b)] (.v (.bool (Pn.renB a b && Pn.renB b a))) := by
 have h1 := mren_d a b h
 have h2 := mren_d b a h'
 rw [eTm_eq, eTm_eq] at h1 h2 ⊢
 cases hr : Pn.renB a b with
 | true =>
  rw [hr] at h1
  rw [Bool.true_and]
  refine calldw 0 13 [ResultVar.tmp 4] TMO_ok Try.func25 rfl Try.ntmps25 rfl fun cx hnt hn0 => ?_
  ·skip
   refine dw_seq ?_; refine dwk [] TMO_ok hnt fun K hK => ?_; refine hK _ _ ?_; clear hK K; refine dw_seq ?_; refine dwk [] TMO_ok hnt fun K hK => ?_; refine dcl (h1) ?_; refine dcl (h2) ?_; refine hK _ _ ?_; clear hK K; refine dw_ret ?_
   exact reta rfl
 | false =>
  rw [hr] at h1
  rw [Bool.false_and]
  refine calldw 0 13 [ResultVar.tmp 4] TMO_ok Try.func25 rfl Try.ntmps25 rfl fun cx hnt hn0 => ?_
  ·skip
   refine dw_seq ?_; refine dwk [] TMO_ok hnt fun K hK => ?_; refine hK _ _ ?_; clear hK K; refine dw_seq ?_; refine dwk [] TMO_ok hnt fun K hK => ?_; refine dcl (h1) ?_; refine hK _ _ ?_; clear hK K; refine dw_ret ?_
   exact reta rfl
theorem rVariant_d (a b : Tm) (h : PPok (a, b)) (h' : PPok (b, a)) : PureC Try.prog 26 [.ag (eTm a), .ag (eTm b)] (.v (.bool (Pn.renB a b && Pn.renB b a))) := by
 have h1 := rren_d a b h
 have h2 := rren_d b a h'
 rw [eTm_eq, eTm_eq] at h1 h2 ⊢
 cases hr : Pn.renB a b with
 | true =>
  rw [hr] at h1
  rw [Bool.true_and]
  refine calldw 0 13 [ResultVar.tmp 4] TMO_ok Try.func26 rfl Try.ntmps26 rfl fun cx hnt hn0 => ?_
  ·skip
   refine dw_seq ?_; refine dwk [] TMO_ok hnt fun K hK => ?_; refine hK _ _ ?_; clear hK K; refine dw_seq ?_; refine dwk [] TMO_ok hnt fun K hK => ?_; refine dcl (h1) ?_; refine dcl (h2) ?_; refine hK _ _ ?_; clear hK K; refine dw_ret ?_
   exact reta rfl
 | false =>
  rw [hr] at h1
  rw [Bool.false_and]
  refine calldw 0 13 [ResultVar.tmp 4] TMO_ok Try.func26 rfl Try.ntmps26 rfl fun cx hnt hn0 => ?_
  ·skip
   refine dw_seq ?_; refine dwk [] TMO_ok hnt fun K hK => ?_; refine hK _ _ ?_; clear hK K; refine dw_seq ?_; refine dwk [] TMO_ok hnt fun K hK => ?_; refine dcl (h1) ?_; refine hK _ _ ?_; clear hK K; refine dw_ret ?_
   exact reta rfl
theorem mLess_d (a b : Tm) (h : PPok (a, b)) (h' : PPok (b, a)) : PureC Try.prog 27 [.ag (eTm a), .ag (eTm b)] (.v (.bool (decide ((Pn.mAll [(a, b)]).2 = 0) && !decide ((Pn.mAll [(b, a)]).2 = 0)))) := by
 have h1 := mIs_d a b h
 have h2 := mIs_d b a h'
 rw [eTm_eq, eTm_eq] at h1 h2 ⊢
 cases hr : decide ((Pn.mAll [(a, b)]).2 = 0) with
 | true =>
  rw [hr] at h1
  rw [Bool.true_and]
  refine calldw 0 14 [ResultVar.tmp 4] TMO_ok Try.func27 rfl Try.ntmps27 rfl fun cx hnt hn0 => ?_
  ·skip
   refine dw_seq ?_; refine dwk [] TMO_ok hnt fun K hK => ?_; refine hK _ _ ?_; clear hK K; refine dw_seq ?_; refine dwk [] TMO_ok hnt fun K hK => ?_; refine dcl (h1) ?_; refine dcl (h2) ?_; refine hK _ _ ?_; clear hK K; refine dw_ret ?_
   exact reta rfl
 | false =>
  rw [hr] at h1
  rw [Bool.false_and]
  refine calldw 0 14 [ResultVar.tmp 4] TMO_ok Try.func27 rfl Try.ntmps27 rfl fun cx hnt hn0 => ?_
  ·skip
   refine dw_seq ?_; refine dwk [] TMO_ok hnt fun K hK => ?_; refine hK _ _ ?_; clear hK K; refine dw_seq ?_; refine dwk [] TMO_ok hnt fun K hK => ?_; refine dcl (h1) ?_; refine hK _ _ ?_; clear hK K; refine dw_ret ?_
   exact reta rfl
set_option maxHeartbeats 4000000 in
theorem matchOrders_d (a b : Tm) (fa : a.Fit) (fb : b.Fit) : PureC Try.prog 5 [.ag (eTm a), .ag (eTm b)] (.v (.bool true)) := by
 have hk := known12_d
 have hF := lawFew_d [a, b] (by simp)
 have e2 := eTms_two a b
 rw [eTm_eq, eTm_eq]
 cases hfe : (fewB a && fewB b) with
 | false =>
  rw [show [a, b].all fewB = false by simpa using hfe] at hF
  refine calldw 0 77 [ResultVar.tmp 4] TMO_ok Try.func5 rfl Try.ntmps5 rfl fun cx hnt hn0 => ?_
  ·skip
   refine dw_seq ?_; refine dwk [] TMO_ok hnt fun K hK => ?_; refine hK _ _ ?_; clear hK K; refine dw_seq ?_; refine dw_seq ?_; refine dwk [(13, .sl 4 (eTms [a, b]) none)] TMO_ok hnt fun K hK => ?_; refine And.intro ((by rw [e2]; exact VLe.untag _ _ _)) ?_; refine dcl (hF) ?_; refine hK _ _ ?_; clear hK K; refine dw_cond (t := true) rfl ?_; rw [if_pos rfl]; refine dw_seq ?_; refine dwk [] TMO_ok hnt fun K hK => ?_
   refine dcl (hk) ?_; refine hK _ _ ?_; clear hK K; refine dw_ret ?_
   exact reta rfl
 | true =>
  rw [show [a, b].all fewB = true by simpa using hfe] at hF
  have hfe2 := hfe
  rw [Bool.and_eq_true] at hfe2
  have hs1 := fewB_full hfe2.1
  have hs2 := fewB_full hfe2.2
  have hL := low_d [a, b] (by simp) (fun t ht => by
   rcases List.mem_cons.1 ht with rfl | ht
   ·exact wide_full _ (by omega)
   ·rw [List.mem_singleton] at ht; subst ht; exact wide_full _ (by omega))
  have hlb : lowsB [a, b] = (lowB a && lowB b) := by rw [lowsB_all]; simp
  rw [hlb] at hL
  cases hlo : (lowB a && lowB b) with
  | false =>
   rw [hlo] at hL
   refine calldw 0 77 [ResultVar.tmp 4] TMO_ok Try.func5 rfl Try.ntmps5 rfl fun cx hnt hn0 => ?_
   ·skip
    refine dw_seq ?_; refine dwk [] TMO_ok hnt fun K hK => ?_; refine hK _ _ ?_; clear hK K; refine dw_seq ?_; refine dw_seq ?_; refine dwk [(13, .sl 4 (eTms [a, b]) none), (19, .sl 4 (eTms [a, b]) none)] TMO_ok hnt fun K hK => ?_; refine And.intro ((by rw [e2]; exact VLe.untag _ _ _)) ?_; refine dcl (hF) ?_; refine And.intro ((by rw [e2]; exact VLe.untag _ _ _)) ?_; refine dcl (hL) ?_; refine hK _ _ ?_; clear hK K
    refine dw_cond (t := true) rfl ?_; rw [if_pos rfl]; refine dw_seq ?_; refine dwk [] TMO_ok hnt fun K hK => ?_; refine dcl (hk) ?_; refine hK _ _ ?_; clear hK K; refine dw_ret ?_
    exact reta rfl
  | true =>
   rw [hlo] at hL
   rw [Bool.and_eq_true] at hlo
   have ok1 : PPok (a, b) := ⟨by dsimp only; omega, fa, by dsimp only; omega, hlo.2, fb⟩
   have ok2 : PPok (b, a) := ⟨by dsimp only; omega, fb, by dsimp only; omega, hlo.1, fa⟩
   have ok3 : PPok (a, a) := ⟨by dsimp only; omega, fa, by dsimp only; omega, hlo.1, fa⟩
   have hT1 := to6_d a (by omega)
   have hT2 := to6_d b (by omega)
   have hM1 := rMatch_d a b ok1
   have hM2 := rMatch_d b a ok2
   have hV1 := mVariant_d a b ok1 ok2
   have hV2 := mVariant_d b a ok2 ok1
   have hW := rVariant_d a b ok1 ok2
   have hLs := mLess_d a b ok1 ok2
   have hLa := mLess_d a a ok3 ok3
   rw [Bool.and_comm (Pn.renB b a)] at hV2
   rw [Bool.and_not_self] at hLa
   obtain ⟨v, hv⟩ : ∃ v, (Pn.renB a b && Pn.renB b a) = v := ⟨_, rfl⟩
   rw [hv] at hV1 hV2 hW
   obtain ⟨⟨l1, e1⟩, hr1⟩ : ∃ r, Pn.mAll [(a, b)] = r := ⟨_, rfl⟩
   obtain ⟨⟨l2, e2'⟩, hr2⟩ : ∃ r, Pn.mAll [(b, a)] = r := ⟨_, rfl⟩
   rw [hr1] at hM1 hLs
   rw [hr2] at hM2 hLs
   dsimp only at hM1 hM2 hLs
   rw [eTm_eq] at hT1 hT2
   rw [eTm_eq, eTm_eq] at hM1 hM2 hV1 hV2 hW hLs
   rw [eTm_eq] at hLa
   by_cases h1 : e1 = 0
   ·rw [decide_eq_true h1, Bool.true_and] at hLs
    refine calldw 0 77 [ResultVar.tmp 4] TMO_ok Try.func5 rfl Try.ntmps5 rfl fun cx hnt hn0 => ?_
    ·skip
     refine dw_seq ?_; refine dwk [] TMO_ok hnt fun K hK => ?_; refine hK _ _ ?_; clear hK K; refine dw_seq ?_; refine dw_seq ?_; refine dwk [(13, .sl 4 (eTms [a, b]) none), (19, .sl 4 (eTms [a, b]) none)] TMO_ok hnt fun K hK => ?_; refine And.intro ((by rw [e2]; exact VLe.untag _ _ _)) ?_; refine dcl (hF) ?_; refine And.intro ((by rw [e2]; exact VLe.untag _ _ _)) ?_; refine dcl (hL) ?_; refine hK _ _ ?_; clear hK K
     refine dw_cond (t := false) rfl ?_; rw [if_neg (by simp)]; refine dw_skip ?_; refine dw_seq ?_; refine dwkD [] TMO_ok hnt fun K hK => ?_; refine dcl (hT1) ?_; refine dcl (hT2) ?_; refine hK _ _ (by kernel_rfl) ?_; clear hK K; refine dw_seq ?_; refine dwk [] TMO_ok hnt fun K hK => ?_; refine dcl (hM1) ?_; refine hK _ _ ?_; clear hK K; refine dw_seq ?_; refine dwk [] TMO_ok hnt fun K hK => ?_; refine dcl (hM2) ?_
     refine hK _ _ ?_; clear hK K; refine dw_seq ?_; refine dwkD [(48, .v (.bool true)), (57, .v (.bool true)), (64, .v (.bool true)), (67, .v (.bool (!decide (e2' = 0)))), (69, .v (.bool true))] TMO_ok hnt fun K hK => ?_; refine dcl (hk) ?_; refine dcl (hV1) ?_; refine dcl (hW) ?_; refine And.intro (VLe.of_eq (by cases v <;> rfl)) ?_; refine dcl (hV2) ?_; refine dcl (hW) ?_; refine And.intro (VLe.of_eq (by cases v <;> rfl)) ?_
     refine dcl (hLs) ?_; refine And.intro (beqT h1) ?_; refine And.intro (VLe.of_eq (by by_cases h : e2' = 0 <;> simp [h])) ?_; refine And.intro (VLe.of_eq (by cases decide (e2' = 0) <;> rfl)) ?_; refine dcl (hLa) ?_; refine hK _ _ (by kernel_rfl) ?_; clear hK K; refine dw_ret ?_
     exact reta rfl
   ·rw [decide_eq_false h1, Bool.false_and] at hLs
    refine calldw 0 77 [ResultVar.tmp 4] TMO_ok Try.func5 rfl Try.ntmps5 rfl fun cx hnt hn0 => ?_
    ·skip
     refine dw_seq ?_; refine dwk [] TMO_ok hnt fun K hK => ?_; refine hK _ _ ?_; clear hK K; refine dw_seq ?_; refine dw_seq ?_; refine dwk [(13, .sl 4 (eTms [a, b]) none), (19, .sl 4 (eTms [a, b]) none)] TMO_ok hnt fun K hK => ?_; refine And.intro ((by rw [e2]; exact VLe.untag _ _ _)) ?_; refine dcl (hF) ?_; refine And.intro ((by rw [e2]; exact VLe.untag _ _ _)) ?_; refine dcl (hL) ?_; refine hK _ _ ?_; clear hK K
     refine dw_cond (t := false) rfl ?_; rw [if_neg (by simp)]; refine dw_skip ?_; refine dw_seq ?_; refine dwkD [] TMO_ok hnt fun K hK => ?_; refine dcl (hT1) ?_; refine dcl (hT2) ?_; refine hK _ _ (by kernel_rfl) ?_; clear hK K; refine dw_seq ?_; refine dwk [] TMO_ok hnt fun K hK => ?_; refine dcl (hM1) ?_; refine hK _ _ ?_; clear hK K; refine dw_seq ?_; refine dwk [] TMO_ok hnt fun K hK => ?_; refine dcl (hM2) ?_
     refine hK _ _ ?_; clear hK K; refine dw_seq ?_; refine dwkD [(48, .v (.bool true)), (57, .v (.bool true)), (64, .v (.bool false)), (69, .v (.bool true))] TMO_ok hnt fun K hK => ?_; refine dcl (hk) ?_; refine dcl (hV1) ?_; refine dcl (hW) ?_; refine And.intro (VLe.of_eq (by cases v <;> rfl)) ?_; refine dcl (hV2) ?_; refine dcl (hW) ?_; refine And.intro (VLe.of_eq (by cases v <;> rfl)) ?_; refine dcl (hLs) ?_
     refine And.intro (beqF h1) ?_; refine And.intro (VLe.refl _) ?_; refine dcl (hLa) ?_; refine hK _ _ (by kernel_rfl) ?_; clear hK K; refine dw_ret ?_
     exact reta rfl
end Go.Proofs.Ytdmiekaeodcehaa

