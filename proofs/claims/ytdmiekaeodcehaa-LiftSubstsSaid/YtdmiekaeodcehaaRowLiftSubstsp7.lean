/-
  Types and terms of the laws, there and back, walked in the deep way. Pairs of terms with the types of their metavariables (rule.Pair, filigreeref17.Pair), and the laws' helpers for them: To, Of, Same, Few. Package lift, walked in the deep way: may, done, Over, Closed, Subst; spot.Close. Terms that are the same, as deep contracts. Package match, walked in the deep way: put. Package match, walked in the deep way: walk, may. Deep values: regions with steps through a map. Package match, walked in the deep way: what was found as a substitution; several at once. The known answer of the laws of layer 12. Lists of pairs, there and back. Lists of pairs in the laws of layer 9: To, Few. Package subst's lists, walked in the deep way: Clone, Without, Set, Domain, Get. Package subst's lists, walked in the deep way: Set, Domain, Get, Equal; terms that are the same. Package subst's lists, walked in the deep way: Get, Equal. The document's lists of pairs, walked in the deep way: Sorted, Get, Without, Domain, Same. LiftSubsts, walked in the deep way.
-/
import Derived.Test.YtdmiekaeodcehaaRowLiftSubstsp5
import Derived.Test.YtdmiekaeodcehaaRowLiftSubstsp6
import Derived.Test.YtdmiekaeodcehaaRowLiftSubstsp4
import Derived.Maps.RangeRun
set_option maxRecDepth 100000
set_option maxHeartbeats 1000000
set_option linter.unusedVariables false
set_option linter.unusedSimpArgs false
namespace Go.Proofs.Ytdmiekaeodcehaa
open Go.RowKit
def TTO_3 : TI := ⟨1, false, [Value.int IntKind.i64 0], [], none, 8, 2, none, false⟩
theorem TTO_3_ok : TypOk Try.prog 3 TTO_3 := ⟨by kernel_rfl, by kernel_rfl, by kernel_rfl, by kernel_rfl, by kernel_rfl⟩
def TTO_146 : TI := ⟨2, true, [Value.slice none 0 0, Value.int IntKind.i64 0], [(0, 1, false), (1, 1, false)], none, 32, 6, none, false⟩
theorem TTO_146_ok : TypOk Try.prog 146 TTO_146 := ⟨by kernel_rfl, by kernel_rfl, by kernel_rfl, by kernel_rfl, by kernel_rfl⟩
def TTO_100 : TI := ⟨2, true, [Value.slice none 0 0, Value.int IntKind.i64 0], [(0, 1, false), (1, 1, false)], none, 32, 6, none, false⟩
theorem TTO_100_ok : TypOk Try.prog 100 TTO_100 := ⟨by kernel_rfl, by kernel_rfl, by kernel_rfl, by kernel_rfl, by kernel_rfl⟩
def TTO_27 : TI := ⟨4, true, [Value.slice none 0 0, Value.int IntKind.i64 0, Value.int IntKind.i64 0, Value.slice none 0 0], [(0, 1, false), (1, 2, true), (3, 1, false)], none, 64, 6, none, false⟩
theorem TTO_27_ok : TypOk Try.prog 27 TTO_27 := ⟨by kernel_rfl, by kernel_rfl, by kernel_rfl, by kernel_rfl, by kernel_rfl⟩
def TTO_34 : TI := ⟨4, true, [Value.slice none 0 0, Value.int IntKind.i64 0, Value.int IntKind.i64 0, Value.slice none 0 0], [(0, 1, false), (1, 2, true), (3, 1, false)], none, 64, 6, none, false⟩
theorem TTO_34_ok : TypOk Try.prog 34 TTO_34 := ⟨by kernel_rfl, by kernel_rfl, by kernel_rfl, by kernel_rfl, by kernel_rfl⟩
def TTO_22 : TI := ⟨1, false, [Value.slice none 0 0], [], some 146, 24, 5, none, false⟩
theorem TTO_22_ok : TypOk Try.prog 22 TTO_22 := ⟨by kernel_rfl, by kernel_rfl, by kernel_rfl, by kernel_rfl, by kernel_rfl⟩
def TTO_30 : TI := ⟨1, false, [Value.slice none 0 0], [], some 100, 24, 5, none, false⟩
theorem TTO_30_ok : TypOk Try.prog 30 TTO_30 := ⟨by kernel_rfl, by kernel_rfl, by kernel_rfl, by kernel_rfl, by kernel_rfl⟩
def TTO_25 : TI := ⟨1, false, [Value.slice none 0 0], [], some 27, 24, 5, none, false⟩
theorem TTO_25_ok : TypOk Try.prog 25 TTO_25 := ⟨by kernel_rfl, by kernel_rfl, by kernel_rfl, by kernel_rfl, by kernel_rfl⟩
def TTO_32 : TI := ⟨1, false, [Value.slice none 0 0], [], some 34, 24, 5, none, false⟩
theorem TTO_32_ok : TypOk Try.prog 32 TTO_32 := ⟨by kernel_rfl, by kernel_rfl, by kernel_rfl, by kernel_rfl, by kernel_rfl⟩
def TTO_24 : TI := ⟨2, true, [Value.int IntKind.i64 0, Value.int IntKind.i64 0], [(0, 1, false), (1, 1, false)], none, 16, 6, none, true⟩
theorem TTO_24_ok : TypOk Try.prog 24 TTO_24 := ⟨by kernel_rfl, by kernel_rfl, by kernel_rfl, by kernel_rfl, by kernel_rfl⟩
def TTO_31 : TI := ⟨2, true, [Value.int IntKind.i64 0, Value.int IntKind.i64 0], [(0, 1, false), (1, 1, false)], none, 16, 6, none, true⟩
theorem TTO_31_ok : TypOk Try.prog 31 TTO_31 := ⟨by kernel_rfl, by kernel_rfl, by kernel_rfl, by kernel_rfl, by kernel_rfl⟩
def TTO : List (Nat × TI) := [(3, TTO_3), (146, TTO_146), (100, TTO_100), (27, TTO_27), (34, TTO_34), (22, TTO_22), (30, TTO_30), (25, TTO_25), (32, TTO_32), (24, TTO_24), (31, TTO_31)]
theorem TTO_ok : TabOk Try.prog TTO := ((((((((((((TabOk.nil _).cons TTO_31_ok).cons TTO_24_ok).cons TTO_32_ok).cons TTO_25_ok).cons TTO_30_ok).cons TTO_22_ok).cons TTO_34_ok).cons TTO_27_ok).cons TTO_100_ok).cons TTO_146_ok).cons TTO_3_ok)
theorem eTys_tlen (l : List Ty) (j : Nat) (h : j ≤ l.length) : (eTys (l.take j)).length = j := by rw [eTys_len, List.length_take]; omega
theorem eTms_tlen (l : List Tm) (j : Nat) (h : j ≤ l.length) : (eTms (l.take j)).length = j := by rw [eTms_len, List.length_take]; omega
theorem to4D_d : ∀ t : Ty, t.size ≤ 900000 → PureC Try.prog 86 [.ag (eTy t)] (.ag (eTy t)) := by
 intro t
 induction t using Ty.ind with
 | h ar base ih =>
  intro hz
  rw [Ty.size_eq] at hz
  have hal := Ty.le_sizes ar
  rw [eTy_eq]
  dsimp only [Ty.args, Ty.base]
  refine calldw 0 27 [ResultVar.cell 2 100] TTO_ok Try.func86 rfl Try.ntmps86 rfl fun cx hnt hn0 => ?_
  ·skip
   refine dw_seq ?_; refine dwk [] TTO_ok hnt fun K hK => ?_; refine hK _ _ ?_; clear hK K; refine dw_seq ?_; refine dwk [] TTO_ok hnt fun K hK => ?_; refine hK _ _ ?_; clear hK K
   refine DW.vs (VS.row (k := 5) (off := 0) 100 2 rfl) ?_
   refine dw_seq ?_; refine dw_seq ?_; refine dwk [] TTO_ok hnt fun K hK => ?_; refine hK _ _ ?_; clear hK K; refine dw_block ?_
   refine dw_loop (ι := { j : Nat // j ≤ ar.length }) (fun j => [(.t 1, .p 0 0), (.t 2, .p 1 0), (.t 3, .p 5 0), (.t 4, .v (.int .i64 ↑j.1)), (.c 0 0, .sl 2 (eTys ar) none), (.c 0 1, .v (.int .i64 base)), (.c 1 0, .v (.slice none 0 0)), (.c 1 1, .v (.int .i64 0)), (.c 5 0, .sl 2 (eTys (ar.take j.1)) (some 7)), (.c 5 1, .v (.int .i64 base)), (.r 7, .rw 100 2 j.1)]) 8 (fun j => ar.length - j.1) (⟨0, Nat.zero_le _⟩) ((VS.toK (by omega) (by repeat first | exact trivial | refine And.intro (And.intro (by first | rfl | simp [D.ok, D.oks, D.okss, D.okm, upto, keyOk, argsT]) (by first | exact Or.inl rfl | exact Or.inr ⟨_, rfl, (by repeat first | exact VLe.refl _ | exact VLe.nil _ | exact VLe.untag _ _ _ | refine VLe.ag ?_ | refine VLe.tu ?_ | refine VLeL.cons ?_ ?_ | exact VLeL.nil), trivial⟩ | simp [get, Key.eq, argsT])) ?_))) fun j => ?_
   obtain ⟨j, hj⟩ := j
   dsimp only
   by_cases hlt : j < ar.length
   ·have hmem := List.getElem_mem hlt
    have hsz := Ty.size_mem hmem
    have hc := ih _ hmem (by omega)
    rw [eTy_eq] at hc
    have hl1 := eTys_tlen ar j hj
    have hl2 := eTys_tlen ar (j + 1) hlt
    refine dw_seq ?_; refine dw_seq ?_; refine dwk [(11, .v (.int .i64 (↑ar.length))), (12, .v (.bool true))] TTO_ok hnt fun K hK => ?_; refine And.intro (dintE (by rw [eTys_len])) ?_; refine And.intro auT ?_; refine hK _ _ ?_; clear hK K; refine dw_cond (t := true) rfl ?_; rw [if_pos rfl]; refine dw_skip ?_; refine dw_seq ?_; refine dw_block ?_; refine dwkD [(20, .q [.sl 2 (eTys ar[j].args) none, .v (.int .i64 ar[j].base)])] TTO_ok hnt fun K hK => ?_
    refine And.intro (elo (eTys_len ar)) ?_; refine And.intro (elv (eTys_getD ar j) (eTy_eq _)) ?_; refine dcl (hc) ?_; refine And.intro (⟨by omega, by rw [hl1]; simp; omega⟩) ?_; refine hK _ _ (by kernel_rfl) ?_; clear hK K
    rw [eTys_snoc ar j hlt, hl2]
    refine dwk [(14, .v (.int .i64 (↑(j + 1))))] TTO_ok hnt fun K hK => ?_; refine And.intro auI ?_; refine hK _ _ ?_; clear hK K
    refine ⟨⟨j + 1, hlt⟩, by first | omega | (dsimp only; omega), VS.toA⟩
   ·rw [List.take_of_length_le (by omega)]
    refine dw_seq ?_; refine dw_seq ?_; refine dwk [(11, .v (.int .i64 (↑ar.length))), (12, .v (.bool false))] TTO_ok hnt fun K hK => ?_; refine And.intro (dintE (by rw [eTys_len])) ?_; refine And.intro auF ?_; refine hK _ _ ?_; clear hK K; refine dw_cond (t := false) rfl ?_; rw [if_neg (by simp)]; refine dw_exit ?_; refine dw_seq ?_; refine dwk [] TTO_ok hnt fun K hK => ?_; refine hK _ _ ?_; clear hK K
    refine dw_ret ?_
    exact reta rfl
theorem of4D_d : ∀ t : Ty, t.size ≤ 900000 → PureC Try.prog 115 [.ag (eTy t)] (.ag (eTy t)) := by
 intro t
 induction t using Ty.ind with
 | h ar base ih =>
  intro hz
  rw [Ty.size_eq] at hz
  have hal := Ty.le_sizes ar
  rw [eTy_eq]
  dsimp only [Ty.args, Ty.base]
  refine calldw 0 27 [ResultVar.cell 2 146] TTO_ok Try.func115 rfl Try.ntmps115 rfl fun cx hnt hn0 => ?_
  ·skip
   refine dw_seq ?_; refine dwk [] TTO_ok hnt fun K hK => ?_; refine hK _ _ ?_; clear hK K; refine dw_seq ?_; refine dwk [] TTO_ok hnt fun K hK => ?_; refine hK _ _ ?_; clear hK K
   refine DW.vs (VS.row (k := 5) (off := 0) 146 2 rfl) ?_
   refine dw_seq ?_; refine dw_seq ?_; refine dwk [] TTO_ok hnt fun K hK => ?_; refine hK _ _ ?_; clear hK K; refine dw_block ?_
   refine dw_loop (ι := { j : Nat // j ≤ ar.length }) (fun j => [(.t 1, .p 0 0), (.t 2, .p 1 0), (.t 3, .p 5 0), (.t 4, .v (.int .i64 ↑j.1)), (.c 0 0, .sl 2 (eTys ar) none), (.c 0 1, .v (.int .i64 base)), (.c 1 0, .v (.slice none 0 0)), (.c 1 1, .v (.int .i64 0)), (.c 5 0, .sl 2 (eTys (ar.take j.1)) (some 7)), (.c 5 1, .v (.int .i64 base)), (.r 7, .rw 146 2 j.1)]) 8 (fun j => ar.length - j.1) (⟨0, Nat.zero_le _⟩) ((VS.toK (by omega) (by repeat first | exact trivial | refine And.intro (And.intro (by first | rfl | simp [D.ok, D.oks, D.okss, D.okm, upto, keyOk, argsT]) (by first | exact Or.inl rfl | exact Or.inr ⟨_, rfl, (by repeat first | exact VLe.refl _ | exact VLe.nil _ | exact VLe.untag _ _ _ | refine VLe.ag ?_ | refine VLe.tu ?_ | refine VLeL.cons ?_ ?_ | exact VLeL.nil), trivial⟩ | simp [get, Key.eq, argsT])) ?_))) fun j => ?_
   obtain ⟨j, hj⟩ := j
   dsimp only
   by_cases hlt : j < ar.length
   ·have hmem := List.getElem_mem hlt
    have hsz := Ty.size_mem hmem
    have hc := ih _ hmem (by omega)
    rw [eTy_eq] at hc
    have hl1 := eTys_tlen ar j hj
    have hl2 := eTys_tlen ar (j + 1) hlt
    refine dw_seq ?_; refine dw_seq ?_; refine dwk [(11, .v (.int .i64 (↑ar.length))), (12, .v (.bool true))] TTO_ok hnt fun K hK => ?_; refine And.intro (dintE (by rw [eTys_len])) ?_; refine And.intro auT ?_; refine hK _ _ ?_; clear hK K; refine dw_cond (t := true) rfl ?_; rw [if_pos rfl]; refine dw_skip ?_; refine dw_seq ?_; refine dw_block ?_; refine dwkD [(20, .q [.sl 2 (eTys ar[j].args) none, .v (.int .i64 ar[j].base)])] TTO_ok hnt fun K hK => ?_
    refine And.intro (elo (eTys_len ar)) ?_; refine And.intro (elv (eTys_getD ar j) (eTy_eq _)) ?_; refine dcl (hc) ?_; refine And.intro (⟨by omega, by rw [hl1]; simp; omega⟩) ?_; refine hK _ _ (by kernel_rfl) ?_; clear hK K
    rw [eTys_snoc ar j hlt, hl2]
    refine dwk [(14, .v (.int .i64 (↑(j + 1))))] TTO_ok hnt fun K hK => ?_; refine And.intro auI ?_; refine hK _ _ ?_; clear hK K
    refine ⟨⟨j + 1, hlt⟩, by first | omega | (dsimp only; omega), VS.toA⟩
   ·rw [List.take_of_length_le (by omega)]
    refine dw_seq ?_; refine dw_seq ?_; refine dwk [(11, .v (.int .i64 (↑ar.length))), (12, .v (.bool false))] TTO_ok hnt fun K hK => ?_; refine And.intro (dintE (by rw [eTys_len])) ?_; refine And.intro auF ?_; refine hK _ _ ?_; clear hK K; refine dw_cond (t := false) rfl ?_; rw [if_neg (by simp)]; refine dw_exit ?_; refine dw_seq ?_; refine dwk [] TTO_ok hnt fun K hK => ?_; refine hK _ _ ?_; clear hK K
    refine dw_ret ?_
    exact reta rfl
theorem toTys_d (l : List Ty) (hz : Ty.sizes l ≤ 900000) : PureC Try.prog 36 [.sl 2 (eTys l) none] (.sl 2 (eTys l) none) := by
 have hal := Ty.le_sizes l
 refine calldw 0 20 [ResultVar.tmp 2] TTO_ok Try.func36 rfl Try.ntmps36 rfl fun cx hnt hn0 => ?_
 ·skip
  refine dw_seq ?_; refine dwk [] TTO_ok hnt fun K hK => ?_; refine hK _ _ ?_; clear hK K
  refine dw_cut (τ := [(.t 0, .sl 2 (eTys l) none), (.t 3, .v (.slice none 0 0))]) (N1 := 0) ?_ ?_
  ·skip
   refine dwk [] TTO_ok hnt fun K hK => ?_; refine hK _ _ ?_; clear hK K
   exact cut_ok (VS.toK (by omega) (by repeat first | exact trivial | refine And.intro (And.intro (by first | rfl | simp [D.ok, D.oks, D.okss, D.okm, upto, keyOk, argsT]) (by first | exact Or.inl rfl | exact Or.inr ⟨_, rfl, (by repeat first | exact VLe.refl _ | exact VLe.nil _ | exact VLe.untag _ _ _ | refine VLe.ag ?_ | refine VLe.tu ?_ | refine VLeL.cons ?_ ?_ | exact VLeL.nil), trivial⟩ | simp [get, Key.eq, argsT])) ?_))
  ·refine DW.vs (VS.rowT (x := 3) (by rw [hnt]; decide) 100 2 rfl) ?_
   refine dw_seq ?_; refine dw_seq ?_; refine dwk [] TTO_ok hnt fun K hK => ?_; refine hK _ _ ?_; clear hK K; refine dw_block ?_
   refine dw_loop (ι := { j : Nat // j ≤ l.length }) (fun j => [(.t 0, .sl 2 (eTys l) none), (.t 3, .sl 2 (eTys (l.take j.1)) (some 0)), (.t 4, .v (.int .i64 ↑j.1)), (.r 0, .rw 100 2 j.1)]) 1 (fun j => l.length - j.1) (⟨0, Nat.zero_le _⟩) ((VS.toK (by omega) (by repeat first | exact trivial | refine And.intro (And.intro (by first | rfl | simp [D.ok, D.oks, D.okss, D.okm, upto, keyOk, argsT]) (by first | exact Or.inl rfl | exact Or.inr ⟨_, rfl, (by repeat first | exact VLe.refl _ | exact VLe.nil _ | exact VLe.untag _ _ _ | refine VLe.ag ?_ | refine VLe.tu ?_ | refine VLeL.cons ?_ ?_ | exact VLeL.nil), trivial⟩ | simp [get, Key.eq, argsT])) ?_))) fun j => ?_
   obtain ⟨j, hj⟩ := j
   dsimp only
   by_cases hlt : j < l.length
   ·have hsz := Ty.size_mem (List.getElem_mem hlt)
    have hc := to4D_d l[j] (by omega)
    rw [eTy_eq] at hc
    have hl1 := eTys_tlen l j hj
    have hl2 := eTys_tlen l (j + 1) hlt
    refine dw_seq ?_; refine dw_seq ?_; refine dwk [(7, .v (.int .i64 (↑l.length))), (8, .v (.bool true))] TTO_ok hnt fun K hK => ?_; refine And.intro (dintE (by rw [eTys_len])) ?_; refine And.intro auT ?_; refine hK _ _ ?_; clear hK K; refine dw_cond (t := true) rfl ?_; rw [if_pos rfl]; refine dw_skip ?_; refine dw_seq ?_; refine dw_block ?_; refine dwk [(14, .q [.sl 2 (eTys l[j].args) none, .v (.int .i64 l[j].base)])] TTO_ok hnt fun K hK => ?_
    refine And.intro (elo (eTys_len l)) ?_; refine And.intro (elv (eTys_getD l j) (eTy_eq _)) ?_; refine dcl (hc) ?_; refine And.intro (⟨by omega, by rw [hl1]; simp; omega⟩) ?_; refine hK _ _ ?_; clear hK K
    rw [eTys_snoc l j hlt, hl2]
    refine dwk [(10, .v (.int .i64 (↑(j + 1))))] TTO_ok hnt fun K hK => ?_; refine And.intro auI ?_; refine hK _ _ ?_; clear hK K
    refine ⟨⟨j + 1, hlt⟩, by first | omega | (dsimp only; omega), VS.toA⟩
   ·rw [List.take_of_length_le (by omega)]
    refine dw_seq ?_; refine dw_seq ?_; refine dwk [(7, .v (.int .i64 (↑l.length))), (8, .v (.bool false))] TTO_ok hnt fun K hK => ?_; refine And.intro (dintE (by rw [eTys_len])) ?_; refine And.intro auF ?_; refine hK _ _ ?_; clear hK K; refine dw_cond (t := false) rfl ?_; rw [if_neg (by simp)]; refine dw_exit ?_; refine dw_seq ?_; refine dwk [] TTO_ok hnt fun K hK => ?_; refine hK _ _ ?_; clear hK K; refine dw_ret ?_
    exact reta rfl
theorem ofTys_d (l : List Ty) (hz : Ty.sizes l ≤ 900000) : PureC Try.prog 64 [.sl 2 (eTys l) none] (.sl 2 (eTys l) none) := by
 have hal := Ty.le_sizes l
 refine calldw 0 20 [ResultVar.tmp 2] TTO_ok Try.func64 rfl Try.ntmps64 rfl fun cx hnt hn0 => ?_
 ·skip
  refine dw_seq ?_; refine dwk [] TTO_ok hnt fun K hK => ?_; refine hK _ _ ?_; clear hK K
  refine dw_cut (τ := [(.t 0, .sl 2 (eTys l) none), (.t 3, .v (.slice none 0 0))]) (N1 := 0) ?_ ?_
  ·skip
   refine dwk [] TTO_ok hnt fun K hK => ?_; refine hK _ _ ?_; clear hK K
   exact cut_ok (VS.toK (by omega) (by repeat first | exact trivial | refine And.intro (And.intro (by first | rfl | simp [D.ok, D.oks, D.okss, D.okm, upto, keyOk, argsT]) (by first | exact Or.inl rfl | exact Or.inr ⟨_, rfl, (by repeat first | exact VLe.refl _ | exact VLe.nil _ | exact VLe.untag _ _ _ | refine VLe.ag ?_ | refine VLe.tu ?_ | refine VLeL.cons ?_ ?_ | exact VLeL.nil), trivial⟩ | simp [get, Key.eq, argsT])) ?_))
  ·refine DW.vs (VS.rowT (x := 3) (by rw [hnt]; decide) 146 2 rfl) ?_
   refine dw_seq ?_; refine dw_seq ?_; refine dwk [] TTO_ok hnt fun K hK => ?_; refine hK _ _ ?_; clear hK K; refine dw_block ?_
   refine dw_loop (ι := { j : Nat // j ≤ l.length }) (fun j => [(.t 0, .sl 2 (eTys l) none), (.t 3, .sl 2 (eTys (l.take j.1)) (some 0)), (.t 4, .v (.int .i64 ↑j.1)), (.r 0, .rw 146 2 j.1)]) 1 (fun j => l.length - j.1) (⟨0, Nat.zero_le _⟩) ((VS.toK (by omega) (by repeat first | exact trivial | refine And.intro (And.intro (by first | rfl | simp [D.ok, D.oks, D.okss, D.okm, upto, keyOk, argsT]) (by first | exact Or.inl rfl | exact Or.inr ⟨_, rfl, (by repeat first | exact VLe.refl _ | exact VLe.nil _ | exact VLe.untag _ _ _ | refine VLe.ag ?_ | refine VLe.tu ?_ | refine VLeL.cons ?_ ?_ | exact VLeL.nil), trivial⟩ | simp [get, Key.eq, argsT])) ?_))) fun j => ?_
   obtain ⟨j, hj⟩ := j
   dsimp only
   by_cases hlt : j < l.length
   ·have hsz := Ty.size_mem (List.getElem_mem hlt)
    have hc := of4D_d l[j] (by omega)
    rw [eTy_eq] at hc
    have hl1 := eTys_tlen l j hj
    have hl2 := eTys_tlen l (j + 1) hlt
    refine dw_seq ?_; refine dw_seq ?_; refine dwk [(7, .v (.int .i64 (↑l.length))), (8, .v (.bool true))] TTO_ok hnt fun K hK => ?_; refine And.intro (dintE (by rw [eTys_len])) ?_; refine And.intro auT ?_; refine hK _ _ ?_; clear hK K; refine dw_cond (t := true) rfl ?_; rw [if_pos rfl]; refine dw_skip ?_; refine dw_seq ?_; refine dw_block ?_; refine dwk [(14, .q [.sl 2 (eTys l[j].args) none, .v (.int .i64 l[j].base)])] TTO_ok hnt fun K hK => ?_
    refine And.intro (elo (eTys_len l)) ?_; refine And.intro (elv (eTys_getD l j) (eTy_eq _)) ?_; refine dcl (hc) ?_; refine And.intro (⟨by omega, by rw [hl1]; simp; omega⟩) ?_; refine hK _ _ ?_; clear hK K
    rw [eTys_snoc l j hlt, hl2]
    refine dwk [(10, .v (.int .i64 (↑(j + 1))))] TTO_ok hnt fun K hK => ?_; refine And.intro auI ?_; refine hK _ _ ?_; clear hK K
    refine ⟨⟨j + 1, hlt⟩, by first | omega | (dsimp only; omega), VS.toA⟩
   ·rw [List.take_of_length_le (by omega)]
    refine dw_seq ?_; refine dw_seq ?_; refine dwk [(7, .v (.int .i64 (↑l.length))), (8, .v (.bool false))] TTO_ok hnt fun K hK => ?_; refine And.intro (dintE (by rw [eTys_len])) ?_; refine And.intro auF ?_; refine hK _ _ ?_; clear hK K; refine dw_cond (t := false) rfl ?_; rw [if_neg (by simp)]; refine dw_exit ?_; refine dw_seq ?_; refine dwk [] TTO_ok hnt fun K hK => ?_; refine hK _ _ ?_; clear hK K; refine dw_ret ?_
    exact reta rfl
theorem to6D_d : ∀ t : Tm, t.full ≤ 900000 → PureC Try.prog 13 [.ag (eTm t)] (.ag (eTm t)) := by
  intro t
  induction t using Tm.ind with
  | h bs k i ar ih =>
    intro hz
    rw [Tm.full_eq] at hz
    have hbs := toTys_d bs (by omega)
    have hal : ar.length ≤ Tm.fulls ar := by
      clear ih hz
      induction ar with
      | nil => simp
      | cons u l ih => have : 1 ≤ u.full := by obtain ⟨b, k, i, a⟩ := u; rw [Tm.full_eq]; omega
                       simp only [List.length_cons, Tm.fulls]; omega
    rw [eTm_eq]
    dsimp only [Tm.binds, Tm.kind, Tm.index, Tm.args]
    refine calldw 0 35 [ResultVar.cell 2 34] TTO_ok Try.func13 rfl Try.ntmps13 rfl fun cx hnt hn0 => ?_
    · skip
      refine dw_seq ?_
      refine dwk [] TTO_ok hnt fun K hK => ?_
      refine hK _ _ ?_; clear hK K
      refine dw_seq ?_
      refine dwkD [] TTO_ok hnt fun K hK => ?_
      refine dcl (hbs) ?_
      refine hK _ _ (by kernel_rfl) ?_; clear hK K
      refine DW.vs (VS.row (k := 13) (off := 3) 34 4 rfl) ?_
      refine dw_seq ?_
      refine dw_seq ?_
      refine dwk [] TTO_ok hnt fun K hK => ?_
      refine hK _ _ ?_; clear hK K
      refine dw_block ?_
      refine dw_loop (ι := { j : Nat // j ≤ ar.length }) (fun j => [(.t 1, .p 0 0), (.t 2, .p 1 0), (.t 3, .p 13 0), (.t 4, .v (.int .i64 ↑j.1)), (.c 0 0, .sl 2 (eTys bs) none), (.c 0 1, .v (.int .i64 k)), (.c 0 2, .v (.int .i64 i)), (.c 0 3, .sl 4 (eTms ar) none), (.c 1 0, .v (.slice none 0 0)), (.c 1 1, .v (.int .i64 0)), (.c 1 2, .v (.int .i64 0)), (.c 1 3, .v (.slice none 0 0)), (.c 13 0, .sl 2 (eTys bs) none), (.c 13 1, .v (.int .i64 k)), (.c 13 2, .v (.int .i64 i)), (.c 13 3, .sl 4 (eTms (ar.take j.1)) (some 15)), (.r 15, .rw 34 4 j.1)]) 16 (fun j => ar.length - j.1) (⟨0, Nat.zero_le _⟩) ((VS.toK (by omega) (by repeat first | exact trivial | refine And.intro (And.intro (by first | rfl | simp [D.ok, D.oks, D.okss, D.okm, upto, keyOk, argsT]) (by first | exact Or.inl rfl | exact Or.inr ⟨_, rfl, (by repeat first | exact VLe.refl _ | exact VLe.nil _ | exact VLe.untag _ _ _ | refine VLe.ag ?_ | refine VLe.tu ?_ | refine VLeL.cons ?_ ?_ | exact VLeL.nil), trivial⟩ | simp [get, Key.eq, argsT])) ?_))) fun j => ?_
      obtain ⟨j, hj⟩ := j
      dsimp only
      by_cases hlt : j < ar.length
      · have hmem := List.getElem_mem hlt
        have hsz := Tm.full_mem hmem
        have hc := ih _ hmem (by omega)
        rw [eTm_eq] at hc
        have hl1 := eTms_tlen ar j hj
        have hl2 := eTms_tlen ar (j + 1) hlt
        refine dw_seq ?_
        refine dw_seq ?_
        refine dwk [(19, .v (.int .i64 (↑ar.length))), (20, .v (.bool true))] TTO_ok hnt fun K hK => ?_
        refine And.intro (dintE (by rw [eTms_len])) ?_
        refine And.intro auT ?_
        refine hK _ _ ?_; clear hK K
        refine dw_cond (t := true) rfl ?_
        rw [if_pos rfl]
        refine dw_skip ?_
        refine dw_seq ?_
        refine dw_block ?_
        refine dwkD [(28, .q [.sl 2 (eTys ar[j].binds) none, .v (.int .i64 ar[j].kind), .v (.int .i64 ar[j].index), .sl 4 (eTms ar[j].args) none])] TTO_ok hnt fun K hK => ?_
        refine And.intro (elo (eTms_len ar)) ?_
        refine And.intro (elv (eTms_getD ar j) (eTm_eq _)) ?_
        refine dcl (hc) ?_
        refine And.intro (⟨by omega, by rw [hl1]; simp; omega⟩) ?_
        refine hK _ _ (by kernel_rfl) ?_; clear hK K
        rw [eTms_snoc ar j hlt, hl2]
        refine dwk [(22, .v (.int .i64 (↑(j + 1))))] TTO_ok hnt fun K hK => ?_
        refine And.intro auI ?_
        refine hK _ _ ?_; clear hK K
        refine ⟨⟨j + 1, hlt⟩, by first | omega | (dsimp only; omega), VS.toA⟩
      · rw [List.take_of_length_le (by omega)]
        refine dw_seq ?_
        refine dw_seq ?_
        refine dwk [(19, .v (.int .i64 (↑ar.length))), (20, .v (.bool false))] TTO_ok hnt fun K hK => ?_
        refine And.intro (dintE (by rw [eTms_len])) ?_
        refine And.intro auF ?_
        refine hK _ _ ?_; clear hK K
        refine dw_cond (t := false) rfl ?_
        rw [if_neg (by simp)]
        refine dw_exit ?_
        refine dw_seq ?_
        refine dwk [] TTO_ok hnt fun K hK => ?_
        refine hK _ _ ?_; clear hK K
        refine dw_ret ?_
        exact reta rfl
theorem of6D_d : ∀ t : Tm, t.full ≤ 900000 → PureC Try.prog 16 [.ag (eTm t)] (.ag (eTm t)) := by
  intro t
  induction t using Tm.ind with
  | h bs k i ar ih =>
    intro hz
    rw [Tm.full_eq] at hz
    have hbs := ofTys_d bs (by omega)
    have hal : ar.length ≤ Tm.fulls ar := by
      clear ih hz
      induction ar with
      | nil => simp
      | cons u l ih => have : 1 ≤ u.full := by obtain ⟨b, k, i, a⟩ := u; rw [Tm.full_eq]; omega
                       simp only [List.length_cons, Tm.fulls]; omega
    rw [eTm_eq]
    dsimp only [Tm.binds, Tm.kind, Tm.index, Tm.args]
    refine calldw 0 35 [ResultVar.cell 2 27] TTO_ok Try.func16 rfl Try.ntmps16 rfl fun cx hnt hn0 => ?_
    · skip
      refine dw_seq ?_
      refine dwk [] TTO_ok hnt fun K hK => ?_
      refine hK _ _ ?_; clear hK K
      refine dw_seq ?_
      refine dwkD [] TTO_ok hnt fun K hK => ?_
      refine dcl (hbs) ?_
      refine hK _ _ (by kernel_rfl) ?_; clear hK K
      refine DW.vs (VS.row (k := 13) (off := 3) 27 4 rfl) ?_
      refine dw_seq ?_
      refine dw_seq ?_
      refine dwk [] TTO_ok hnt fun K hK => ?_
      refine hK _ _ ?_; clear hK K
      refine dw_block ?_
      refine dw_loop (ι := { j : Nat // j ≤ ar.length }) (fun j => [(.t 1, .p 0 0), (.t 2, .p 1 0), (.t 3, .p 13 0), (.t 4, .v (.int .i64 ↑j.1)), (.c 0 0, .sl 2 (eTys bs) none), (.c 0 1, .v (.int .i64 k)), (.c 0 2, .v (.int .i64 i)), (.c 0 3, .sl 4 (eTms ar) none), (.c 1 0, .v (.slice none 0 0)), (.c 1 1, .v (.int .i64 0)), (.c 1 2, .v (.int .i64 0)), (.c 1 3, .v (.slice none 0 0)), (.c 13 0, .sl 2 (eTys bs) none), (.c 13 1, .v (.int .i64 k)), (.c 13 2, .v (.int .i64 i)), (.c 13 3, .sl 4 (eTms (ar.take j.1)) (some 15)), (.r 15, .rw 27 4 j.1)]) 16 (fun j => ar.length - j.1) (⟨0, Nat.zero_le _⟩) ((VS.toK (by omega) (by repeat first | exact trivial | refine And.intro (And.intro (by first | rfl | simp [D.ok, D.oks, D.okss, D.okm, upto, keyOk, argsT]) (by first | exact Or.inl rfl | exact Or.inr ⟨_, rfl, (by repeat first | exact VLe.refl _ | exact VLe.nil _ | exact VLe.untag _ _ _ | refine VLe.ag ?_ | refine VLe.tu ?_ | refine VLeL.cons ?_ ?_ | exact VLeL.nil), trivial⟩ | simp [get, Key.eq, argsT])) ?_))) fun j => ?_
      obtain ⟨j, hj⟩ := j
      dsimp only
      by_cases hlt : j < ar.length
      · have hmem := List.getElem_mem hlt
        have hsz := Tm.full_mem hmem
        have hc := ih _ hmem (by omega)
        rw [eTm_eq] at hc
        have hl1 := eTms_tlen ar j hj
        have hl2 := eTms_tlen ar (j + 1) hlt
        refine dw_seq ?_
        refine dw_seq ?_
        refine dwk [(19, .v (.int .i64 (↑ar.length))), (20, .v (.bool true))] TTO_ok hnt fun K hK => ?_
        refine And.intro (dintE (by rw [eTms_len])) ?_
        refine And.intro auT ?_
        refine hK _ _ ?_; clear hK K
        refine dw_cond (t := true) rfl ?_
        rw [if_pos rfl]
        refine dw_skip ?_
        refine dw_seq ?_
        refine dw_block ?_
        refine dwkD [(28, .q [.sl 2 (eTys ar[j].binds) none, .v (.int .i64 ar[j].kind), .v (.int .i64 ar[j].index), .sl 4 (eTms ar[j].args) none])] TTO_ok hnt fun K hK => ?_
        refine And.intro (elo (eTms_len ar)) ?_
        refine And.intro (elv (eTms_getD ar j) (eTm_eq _)) ?_
        refine dcl (hc) ?_
        refine And.intro (⟨by omega, by rw [hl1]; simp; omega⟩) ?_
        refine hK _ _ (by kernel_rfl) ?_; clear hK K
        rw [eTms_snoc ar j hlt, hl2]
        refine dwk [(22, .v (.int .i64 (↑(j + 1))))] TTO_ok hnt fun K hK => ?_
        refine And.intro auI ?_
        refine hK _ _ ?_; clear hK K
        refine ⟨⟨j + 1, hlt⟩, by first | omega | (dsimp only; omega), VS.toA⟩
      · rw [List.take_of_length_le (by omega)]
        refine dw_seq ?_
        refine dw_seq ?_
        refine dwk [(19, .v (.int .i64 (↑ar.length))), (20, .v (.bool false))] TTO_ok hnt fun K hK => ?_
        refine And.intro (dintE (by rw [eTms_len])) ?_
        refine And.intro auF ?_
        refine hK _ _ ?_; clear hK K
        refine dw_cond (t := false) rfl ?_
        rw [if_neg (by simp)]
        refine dw_exit ?_
        refine dw_seq ?_
        refine dwk [] TTO_ok hnt fun K hK => ?_
        refine hK _ _ ?_; clear hK K
        refine dw_ret ?_
        exact reta rfl

end Go.Proofs.Ytdmiekaeodcehaa

namespace Go.Proofs.Ytdmiekaeodcehaa
open Go.RowKit
namespace Li
structure Pr where
  l : Tm
  r : Tm
  m : List Ty
instance : DecidableEq Pr := fun p q => decidable_of_iff (p.l = q.l ∧ p.r = q.r ∧ p.m = q.m) (by cases p; cases q; simp)
def Pr.z : Pr := ⟨Tm.zero, Tm.zero, []⟩
end Li
def ePr (p : Li.Pr) : List D := [.sl 2 (eTys p.l.binds) none, .v (.int .i64 p.l.kind), .v (.int .i64 p.l.index), .sl 4 (eTms p.l.args) none, .sl 2 (eTys p.r.binds) none, .v (.int .i64 p.r.kind), .v (.int .i64 p.r.index), .sl 4 (eTms p.r.args) none, .sl 2 (eTys p.m) none]
theorem ePr_eq (L R : Tm) (M : List Ty) : ePr ⟨L, R, M⟩ = [.sl 2 (eTys L.binds) none, .v (.int .i64 L.kind), .v (.int .i64 L.index), .sl 4 (eTms L.args) none, .sl 2 (eTys R.binds) none, .v (.int .i64 R.kind), .v (.int .i64 R.index), .sl 4 (eTms R.args) none, .sl 2 (eTys M) none] := rfl
theorem ePr_z : ePr .z = [.sl 2 [] none, .v (.int .i64 0), .v (.int .i64 0), .sl 4 [] none, .sl 2 [] none, .v (.int .i64 0), .v (.int .i64 0), .sl 4 [] none, .sl 2 [] none] := rfl
@[simp] theorem ePr_ok (f g : Nat → Bool) (p : Li.Pr) : D.oks f g (ePr p) = true := by simp [ePr, D.oks, D.ok]
def ePrs (l : List Li.Pr) : List (List D) := l.map ePr
@[simp] theorem ePrs_ok (f g : Nat → Bool) (l : List Li.Pr) : D.okss f g (ePrs l) = true := D.okss_map _ l fun l _ => ePr_ok f g l
end Go.Proofs.Ytdmiekaeodcehaa

namespace Go.Proofs.Ytdmiekaeodcehaa
open Go.RowKit
def TLB_78 : TI := ⟨9, true, [Value.slice none 0 0, Value.int IntKind.i64 0, Value.int IntKind.i64 0, Value.slice none 0 0, Value.slice none 0 0, Value.int IntKind.i64 0, Value.int IntKind.i64 0, Value.slice none 0 0, Value.slice none 0 0], [(0, 4, true), (4, 4, true), (8, 1, false)], none, 152, 6, none, false⟩
theorem TLB_78_ok : TypOk Try.prog 78 TLB_78 := ⟨by kernel_rfl, by kernel_rfl, by kernel_rfl, by kernel_rfl, by kernel_rfl⟩
def TLB_34 : TI := ⟨4, true, [Value.slice none 0 0, Value.int IntKind.i64 0, Value.int IntKind.i64 0, Value.slice none 0 0], [(0, 1, false), (1, 2, true), (3, 1, false)], none, 64, 6, none, false⟩
theorem TLB_34_ok : TypOk Try.prog 34 TLB_34 := ⟨by kernel_rfl, by kernel_rfl, by kernel_rfl, by kernel_rfl, by kernel_rfl⟩
def TLB_30 : TI := ⟨1, false, [Value.slice none 0 0], [], some 100, 24, 5, none, false⟩
theorem TLB_30_ok : TypOk Try.prog 30 TLB_30 := ⟨by kernel_rfl, by kernel_rfl, by kernel_rfl, by kernel_rfl, by kernel_rfl⟩
def TLB_149 : TI := ⟨10, true, [Value.slice none 0 0, Value.int IntKind.i64 0, Value.int IntKind.i64 0, Value.slice none 0 0, Value.slice none 0 0, Value.int IntKind.i64 0, Value.int IntKind.i64 0, Value.slice none 0 0, Value.slice none 0 0, Value.slice none 0 0], [(0, 9, true), (9, 1, false)], none, 176, 6, none, false⟩
theorem TLB_149_ok : TypOk Try.prog 149 TLB_149 := ⟨by kernel_rfl, by kernel_rfl, by kernel_rfl, by kernel_rfl, by kernel_rfl⟩
def TLB_3 : TI := ⟨1, false, [Value.int IntKind.i64 0], [], none, 8, 2, none, false⟩
theorem TLB_3_ok : TypOk Try.prog 3 TLB_3 := ⟨by kernel_rfl, by kernel_rfl, by kernel_rfl, by kernel_rfl, by kernel_rfl⟩
def TLB_100 : TI := ⟨2, true, [Value.slice none 0 0, Value.int IntKind.i64 0], [(0, 1, false), (1, 1, false)], none, 32, 6, none, false⟩
theorem TLB_100_ok : TypOk Try.prog 100 TLB_100 := ⟨by kernel_rfl, by kernel_rfl, by kernel_rfl, by kernel_rfl, by kernel_rfl⟩
def TLB_27 : TI := ⟨4, true, [Value.slice none 0 0, Value.int IntKind.i64 0, Value.int IntKind.i64 0, Value.slice none 0 0], [(0, 1, false), (1, 2, true), (3, 1, false)], none, 64, 6, none, false⟩
theorem TLB_27_ok : TypOk Try.prog 27 TLB_27 := ⟨by kernel_rfl, by kernel_rfl, by kernel_rfl, by kernel_rfl, by kernel_rfl⟩
def TLB_105 : TI := ⟨5, true, [Value.int IntKind.i64 0, Value.slice none 0 0, Value.int IntKind.i64 0, Value.int IntKind.i64 0, Value.slice none 0 0], [(0, 1, false), (1, 4, true)], none, 72, 6, none, false⟩
theorem TLB_105_ok : TypOk Try.prog 105 TLB_105 := ⟨by kernel_rfl, by kernel_rfl, by kernel_rfl, by kernel_rfl, by kernel_rfl⟩
def TLB_43 : TI := ⟨1, false, [Value.slice none 0 0], [], some 3, 24, 5, none, false⟩
theorem TLB_43_ok : TypOk Try.prog 43 TLB_43 := ⟨by kernel_rfl, by kernel_rfl, by kernel_rfl, by kernel_rfl, by kernel_rfl⟩
def TLB_52 : TI := ⟨1, false, [Value.slice none 0 0], [], some 105, 24, 5, none, false⟩
theorem TLB_52_ok : TypOk Try.prog 52 TLB_52 := ⟨by kernel_rfl, by kernel_rfl, by kernel_rfl, by kernel_rfl, by kernel_rfl⟩
def TLB_22 : TI := ⟨1, false, [Value.slice none 0 0], [], some 146, 24, 5, none, false⟩
theorem TLB_22_ok : TypOk Try.prog 22 TLB_22 := ⟨by kernel_rfl, by kernel_rfl, by kernel_rfl, by kernel_rfl, by kernel_rfl⟩
def TLB_53 : TI := ⟨1, false, [Value.slice none 0 0], [], some 105, 24, 5, none, false⟩
theorem TLB_53_ok : TypOk Try.prog 53 TLB_53 := ⟨by kernel_rfl, by kernel_rfl, by kernel_rfl, by kernel_rfl, by kernel_rfl⟩
def TLB_218 : TI := ⟨1, false, [Value.nilFunc], [], none, 8, 8, none, false⟩
theorem TLB_218_ok : TypOk Try.prog 218 TLB_218 := ⟨by kernel_rfl, by kernel_rfl, by kernel_rfl, by kernel_rfl, by kernel_rfl⟩
def TLB_32 : TI := ⟨1, false, [Value.slice none 0 0], [], some 34, 24, 5, none, false⟩
theorem TLB_32_ok : TypOk Try.prog 32 TLB_32 := ⟨by kernel_rfl, by kernel_rfl, by kernel_rfl, by kernel_rfl, by kernel_rfl⟩
def TLB_35 : TI := ⟨1, false, [Value.int IntKind.i64 0], [], none, 8, 2, none, false⟩
theorem TLB_35_ok : TypOk Try.prog 35 TLB_35 := ⟨by kernel_rfl, by kernel_rfl, by kernel_rfl, by kernel_rfl, by kernel_rfl⟩
def TLB_225 : TI := ⟨1, false, [Value.slice none 0 0], [], some 30, 24, 5, none, false⟩
theorem TLB_225_ok : TypOk Try.prog 225 TLB_225 := ⟨by kernel_rfl, by kernel_rfl, by kernel_rfl, by kernel_rfl, by kernel_rfl⟩
def TLB_146 : TI := ⟨2, true, [Value.slice none 0 0, Value.int IntKind.i64 0], [(0, 1, false), (1, 1, false)], none, 32, 6, none, false⟩
theorem TLB_146_ok : TypOk Try.prog 146 TLB_146 := ⟨by kernel_rfl, by kernel_rfl, by kernel_rfl, by kernel_rfl, by kernel_rfl⟩
def TLB : List (Nat × TI) := [(78, TLB_78), (34, TLB_34), (30, TLB_30), (149, TLB_149), (3, TLB_3), (100, TLB_100), (27, TLB_27), (105, TLB_105), (43, TLB_43), (52, TLB_52), (22, TLB_22), (53, TLB_53), (218, TLB_218), (32, TLB_32), (35, TLB_35), (225, TLB_225), (146, TLB_146)]
theorem TLB_ok : TabOk Try.prog TLB := ((((((((((((((((((TabOk.nil _).cons TLB_146_ok).cons TLB_225_ok).cons TLB_35_ok).cons TLB_32_ok).cons TLB_218_ok).cons TLB_53_ok).cons TLB_22_ok).cons TLB_52_ok).cons TLB_43_ok).cons TLB_105_ok).cons TLB_27_ok).cons TLB_100_ok).cons TLB_3_ok).cons TLB_149_ok).cons TLB_30_ok).cons TLB_34_ok).cons TLB_78_ok)

theorem metas_d (l : List Tm) (hl : l.length ≤ 9) (hz : ∀ t ∈ l, t.full ≤ 90000) : PureC Try.prog 47 [.sl 4 (eTms l) none] (.sl 1 (eIs (sortU (metasL l))) none) := by
  refine pure_below (by kernel_rfl) fun m Im w vs hv => ?_
  match vs, hv with
  | [x], hv =>
    have hs : IsSl rpTm (fun _ => True) w x l := (sl_of_rel (r := rpTm) (e := eTm) eTm_len (fun x t hx _ => tm_of_rel t hx) (by decide) (by rw [eTms_map] at hv; exact hv.1)).weaken (by decide) fun _ _ _ => trivial
    refine (metas6_k hs hl hz).mono ?_
    rintro e w' ⟨a, c, rfl, h1, h2⟩
    refine ⟨_, rfl, h2, fun Im' _ hI => ?_⟩
    exact rel_of_sl (r := rpInt) (e := fun i => [.v (.int .i64 i)]) (fun b o v hq hc => hI b o v hq hc) (fun _ => rfl) (fun x a h => by
      have : x = [.int .i64 a] := h
      subst this; exact ⟨.v _, trivial⟩) h1

/-! may -/
theorem lmay1_d (L R : Tm) (M B : List Ty) (x : Int) (hM : M.length ≤ 900000) : CallC Try.prog 132 [.v (.int .i64 x), .p 0 0] [(.c 0 0, .sl 2 (eTys L.binds) none), (.c 0 1, .v (.int .i64 L.kind)), (.c 0 2, .v (.int .i64 L.index)), (.c 0 3, .sl 4 (eTms L.args) none), (.c 0 4, .sl 2 (eTys R.binds) none), (.c 0 5, .v (.int .i64 R.kind)), (.c 0 6, .v (.int .i64 R.index)), (.c 0 7, .sl 4 (eTms R.args) none), (.c 0 8, .sl 2 (eTys M) none), (.c 0 9, .sl 2 (eTys B) none)] [(.c 0 0, .sl 2 (eTys L.binds) none), (.c 0 1, .v (.int .i64 L.kind)), (.c 0 2, .v (.int .i64 L.index)), (.c 0 3, .sl 4 (eTms L.args) none), (.c 0 4, .sl 2 (eTys R.binds) none), (.c 0 5, .v (.int .i64 R.kind)), (.c 0 6, .v (.int .i64 R.index)), (.c 0 7, .sl 4 (eTms R.args) none), (.c 0 8, .sl 2 (eTys M) none), (.c 0 9, .sl 2 (eTys B) none)] (.v (.bool (decide (x < 0 ∨ (M.length : Int) ≤ x)))) := by
 by_cases h0 : x < 0
 ·rw [decide_eq_true (.inl h0)]
  refine calldw 1 14 [ResultVar.tmp 3] TLB_ok Try.func132 rfl Try.ntmps132 rfl fun cx hnt hn0 => ?_
  ·skip
   refine dw_seq ?_; refine dwk [] TLB_ok hnt fun K hK => ?_; refine hK _ _ ?_; clear hK K; refine dw_seq ?_; refine dwk [(5, .v (.bool true))] TLB_ok hnt fun K hK => ?_; refine And.intro auT ?_; refine hK _ _ ?_; clear hK K; refine dw_ret ?_
   exact reta rfl
 ·have e : decide (x < 0 ∨ (M.length : Int) ≤ x) = decide ((M.length : Int) ≤ x) := by simp [h0]
  rw [e]
  refine calldw 1 14 [ResultVar.tmp 3] TLB_ok Try.func132 rfl Try.ntmps132 rfl fun cx hnt hn0 => ?_
  ·skip
   refine dw_seq ?_; refine dwk [] TLB_ok hnt fun K hK => ?_; refine hK _ _ ?_; clear hK K; refine dw_seq ?_; refine dwk [(5, .v (.bool false)), (12, .v (.bool (decide (↑M.length ≤ x))))] TLB_ok hnt fun K hK => ?_; refine And.intro auF ?_; refine And.intro (VLe.of_eq (by rw [eTys_len])) ?_; refine hK _ _ ?_; clear hK K; refine dw_ret ?_
   exact reta rfl
def fidx (P : Int → Bool) (l : List Int) : Int := match l.findIdx? P with | some i => (i : Int) | none => -1
theorem fidx_at {P : Int → Bool} {l : List Int} {i : Nat} (h : i < l.length) (h1 : P l[i] = true) (h2 : ∀ j (h : j < l.length), j < i → P l[j] = false) : fidx P l = i := by
  have : l.findIdx? P = some i := List.findIdx?_eq_some_iff_getElem.2 ⟨h, h1, fun j hj => by rw [h2 j (by omega) hj]; simp⟩
  rw [fidx, this]
theorem fidx_no {P : Int → Bool} {l : List Int} (h2 : ∀ j (h : j < l.length), P l[j] = false) : fidx P l = -1 := by
  have : l.findIdx? P = none := List.findIdx?_eq_none_iff.2 fun x hx => by
    obtain ⟨i, hi, rfl⟩ := List.getElem_of_mem hx
    exact h2 i hi
  rw [fidx, this]
theorem fidx_any (P : Int → Bool) (l : List Int) : decide (fidx P l ≥ 0) = l.any P := by
  rw [fidx]
  cases h : l.findIdx? P with
  | some i =>
    obtain ⟨h1, h2, _⟩ := List.findIdx?_eq_some_iff_getElem.1 h
    rw [List.any_eq_true.2 ⟨_, List.getElem_mem h1, h2⟩]
    simp
  | none =>
    rw [List.any_eq_false.2 fun x hx => by simp [List.findIdx?_eq_none_iff.1 h x hx]]
    simp
theorem indexI_d (L R : Tm) (M B : List Ty) (hM : M.length ≤ 900000) (l : List Int) (hl : l.length ≤ 1000000) : CallC Try.prog 160 [.sl 1 (eIs l) none, .fn 132 [.p 0 0]] [(.c 0 0, .sl 2 (eTys L.binds) none), (.c 0 1, .v (.int .i64 L.kind)), (.c 0 2, .v (.int .i64 L.index)), (.c 0 3, .sl 4 (eTms L.args) none), (.c 0 4, .sl 2 (eTys R.binds) none), (.c 0 5, .v (.int .i64 R.kind)), (.c 0 6, .v (.int .i64 R.index)), (.c 0 7, .sl 4 (eTms R.args) none), (.c 0 8, .sl 2 (eTys M) none), (.c 0 9, .sl 2 (eTys B) none)] [(.c 0 0, .sl 2 (eTys L.binds) none), (.c 0 1, .v (.int .i64 L.kind)), (.c 0 2, .v (.int .i64 L.index)), (.c 0 3, .sl 4 (eTms L.args) none), (.c 0 4, .sl 2 (eTys R.binds) none), (.c 0 5, .v (.int .i64 R.kind)), (.c 0 6, .v (.int .i64 R.index)), (.c 0 7, .sl 4 (eTms R.args) none), (.c 0 8, .sl 2 (eTys M) none), (.c 0 9, .sl 2 (eTys B) none)] (.v (.int .i64 (fidx (fun x => decide (x < 0 ∨ (M.length : Int) ≤ x)) l))) := by
 obtain ⟨P, hP⟩ : ∃ P : Int → Bool, (fun x => decide (x < 0 ∨ (M.length : Int) ≤ x)) = P := ⟨_, rfl⟩
 have hmay : ∀ x, CallC Try.prog 132 [.v (.int .i64 x), .p 0 0] [(.c 0 0, .sl 2 (eTys L.binds) none), (.c 0 1, .v (.int .i64 L.kind)), (.c 0 2, .v (.int .i64 L.index)), (.c 0 3, .sl 4 (eTms L.args) none), (.c 0 4, .sl 2 (eTys R.binds) none), (.c 0 5, .v (.int .i64 R.kind)), (.c 0 6, .v (.int .i64 R.index)), (.c 0 7, .sl 4 (eTms R.args) none), (.c 0 8, .sl 2 (eTys M) none), (.c 0 9, .sl 2 (eTys B) none)] [(.c 0 0, .sl 2 (eTys L.binds) none), (.c 0 1, .v (.int .i64 L.kind)), (.c 0 2, .v (.int .i64 L.index)), (.c 0 3, .sl 4 (eTms L.args) none), (.c 0 4, .sl 2 (eTys R.binds) none), (.c 0 5, .v (.int .i64 R.kind)), (.c 0 6, .v (.int .i64 R.index)), (.c 0 7, .sl 4 (eTms R.args) none), (.c 0 8, .sl 2 (eTys M) none), (.c 0 9, .sl 2 (eTys B) none)] (.v (.bool (P x))) := fun x => hP ▸ lmay1_d L R M B x hM
 rw [hP]
 clear hP
 refine calldw 1 19 [ResultVar.tmp 4] TLB_ok Try.func160 rfl Try.ntmps160 rfl fun cx hnt hn0 => ?_
 ·skip
  refine dw_seq ?_; refine dwk [] TLB_ok hnt fun K hK => ?_; refine hK _ _ ?_; clear hK K; refine dw_seq ?_; refine dw_seq ?_; refine dwk [(7, .v (.int .i64 (↑l.length)))] TLB_ok hnt fun K hK => ?_; refine And.intro (dintE (by rw [eIs_len])) ?_; refine hK _ _ ?_; clear hK K; refine dw_block ?_
  refine dw_loop (ι := { j : Nat // ∀ i (h : i < l.length), i < j → P l[i] = false }) (fun j => [(.t 0, .sl 1 (eIs l) none), (.t 1, .fn 132 [.p 0 0]), (.t 7, .v (.int .i64 ↑l.length)), (.t 8, .v (.int .i64 ↑j.1)), (.c 0 0, .sl 2 (eTys L.binds) none), (.c 0 1, .v (.int .i64 L.kind)), (.c 0 2, .v (.int .i64 L.index)), (.c 0 3, .sl 4 (eTms L.args) none), (.c 0 4, .sl 2 (eTys R.binds) none), (.c 0 5, .v (.int .i64 R.kind)), (.c 0 6, .v (.int .i64 R.index)), (.c 0 7, .sl 4 (eTms R.args) none), (.c 0 8, .sl 2 (eTys M) none), (.c 0 9, .sl 2 (eTys B) none)]) 1 (fun j => l.length - j.1) (⟨0, fun i h1 h2 => by omega⟩) (VS.toA) fun j => ?_
  obtain ⟨j, hj⟩ := j
  dsimp only
  by_cases hlt : j < l.length
  ·have hf := hmay l[j]
   refine dw_seq ?_; refine dwk [(9, .v (.bool true))] TLB_ok hnt fun K hK => ?_; refine And.intro auT ?_; refine hK _ _ ?_; clear hK K; refine dw_seq ?_; refine dw_cond (t := true) rfl ?_; rw [if_pos rfl]; refine dw_skip ?_; refine dw_seq ?_; refine dw_block ?_; refine dw_seq ?_; refine dwk [] TLB_ok hnt fun K hK => ?_; refine hK _ _ ?_; clear hK K
   cases he : P l[j] with
   | true =>
    rw [he] at hf
    rw [fidx_at hlt he hj]
    refine dw_seq ?_; refine dwk [(14, .q [.v (.int .i64 (l[j]))])] TLB_ok hnt fun K hK => ?_; refine And.intro (elo (eIs_len l)) ?_; refine And.intro (elv (eIs_getD l j) rfl) ?_; refine dcl (hf) ?_; refine hK _ _ ?_; clear hK K; refine dw_cond (t := true) rfl ?_; rw [if_pos rfl]; refine dw_seq ?_; refine dwk [] TLB_ok hnt fun K hK => ?_; refine hK _ _ ?_; clear hK K; refine dw_ret ?_
    exact reta rfl
   | false =>
    rw [he] at hf
    refine dw_seq ?_; refine dwk [(14, .q [.v (.int .i64 (l[j]))])] TLB_ok hnt fun K hK => ?_; refine And.intro (elo (eIs_len l)) ?_; refine And.intro (elv (eIs_getD l j) rfl) ?_; refine dcl (hf) ?_; refine hK _ _ ?_; clear hK K; refine dw_cond (t := false) rfl ?_; rw [if_neg (by simp)]; refine dw_skip ?_; refine dwk [(18, .v (.int .i64 (↑(j + 1))))] TLB_ok hnt fun K hK => ?_; refine And.intro auI ?_; refine hK _ _ ?_; clear hK K
    refine ⟨⟨j + 1, fun i h1 h2 => if e : i = j then by subst e; exact he else hj i h1 (by omega)⟩, by first | omega | (dsimp only; omega), VS.toA⟩
  ·rw [fidx_no fun i h => hj i h (by omega)]
   refine dw_seq ?_; refine dwk [(9, .v (.bool false))] TLB_ok hnt fun K hK => ?_; refine And.intro auF ?_; refine hK _ _ ?_; clear hK K; refine dw_seq ?_; refine dw_cond (t := false) rfl ?_; rw [if_neg (by simp)]; refine dw_exit ?_; refine dw_seq ?_; refine dwk [] TLB_ok hnt fun K hK => ?_; refine hK _ _ ?_; clear hK K; refine dw_ret ?_
   exact reta rfl
theorem containsI_d (L R : Tm) (M B : List Ty) (hM : M.length ≤ 900000) (l : List Int) (hl : l.length ≤ 1000000) : CallC Try.prog 131 [.sl 1 (eIs l) none, .fn 132 [.p 0 0]] [(.c 0 0, .sl 2 (eTys L.binds) none), (.c 0 1, .v (.int .i64 L.kind)), (.c 0 2, .v (.int .i64 L.index)), (.c 0 3, .sl 4 (eTms L.args) none), (.c 0 4, .sl 2 (eTys R.binds) none), (.c 0 5, .v (.int .i64 R.kind)), (.c 0 6, .v (.int .i64 R.index)), (.c 0 7, .sl 4 (eTms R.args) none), (.c 0 8, .sl 2 (eTys M) none), (.c 0 9, .sl 2 (eTys B) none)] [(.c 0 0, .sl 2 (eTys L.binds) none), (.c 0 1, .v (.int .i64 L.kind)), (.c 0 2, .v (.int .i64 L.index)), (.c 0 3, .sl 4 (eTms L.args) none), (.c 0 4, .sl 2 (eTys R.binds) none), (.c 0 5, .v (.int .i64 R.kind)), (.c 0 6, .v (.int .i64 R.index)), (.c 0 7, .sl 4 (eTms R.args) none), (.c 0 8, .sl 2 (eTys M) none), (.c 0 9, .sl 2 (eTys B) none)] (.v (.bool (l.any fun x => decide (x < 0 ∨ (M.length : Int) ≤ x)))) := by
 have hi := indexI_d L R M B hM l hl
 rw [← fidx_any]
 refine calldw 1 9 [ResultVar.tmp 4] TLB_ok Try.func131 rfl Try.ntmps131 rfl fun cx hnt hn0 => ?_
 ·skip
  refine dw_seq ?_; refine dwk [] TLB_ok hnt fun K hK => ?_; refine hK _ _ ?_; clear hK K; refine dw_seq ?_; refine dwk [] TLB_ok hnt fun K hK => ?_; refine dcl (hi) ?_; refine hK _ _ ?_; clear hK K; refine dw_ret ?_
  exact reta rfl

namespace Li
def lo (t : Tm) : Bool := decide ((t.looses 0).foldl looseL 0 > 0)
def rt (t : Tm) : Bool := decide (t.size ≤ 5000 ∧ t.depth ≤ 60)
def may (L R : Tm) (M B : List Ty) : Int :=
  if (lo L || lo R) = true then 1
  else if ((sortU (metasL [L, R])).any fun x => decide (x < 0 ∨ (M.length : Int) ≤ x)) = true then 10
  else if (decide ((B.length : Int) > 900) || (!rt L || !rt R)) = true then 2 else 0
def done (p : Pr) : Pr × Int := if (rt p.l && rt p.r) = true then (p, 0) else (.z, 2)
def cl (t : Tm) (B : List Ty) : Tm := .mk (B ++ t.binds) t.kind t.index t.args
def arr (B : List Ty) (t : Ty) : Ty := .mk (B ++ t.args) t.base
def up (p : Pr) (B : List Ty) : Pr := ⟨lif B p.l 0, lif B p.r 0, p.m.map (arr B)⟩
def over (p : Pr) (B : List Ty) : Pr × Int := if may p.l p.r p.m B ≠ 0 then (.z, may p.l p.r p.m B) else done (up p B)
def clP (p : Pr) (B : List Ty) : Pr := ⟨cl p.l B, cl p.r B, p.m⟩
def closed (p : Pr) (B : List Ty) : Pr × Int := if (over p B).2 ≠ 0 then (.z, (over p B).2) else done (clP (over p B).1 B)
def cls (l : List (Int × Tm)) (B : List Ty) : List (Int × Tm) := l.map fun p => (p.1, cl p.2 B)
end Li
theorem nodup_le : ∀ (l m : List Int), l.Nodup → (∀ x ∈ l, x ∈ m) → l.length ≤ m.length
  | [], m, _, _ => Nat.zero_le _
  | x :: l, m, h1, h2 => by
    have hx := h2 x (by simp)
    have := nodup_le l (m.erase x) (List.nodup_cons.1 h1).2 fun y hy => (List.mem_erase_of_ne fun e => (List.nodup_cons.1 h1).1 (by rw [← e]; exact hy)).2 (h2 y (by simp [hy]))
    rw [List.length_erase_of_mem hx] at this
    have := List.length_pos_of_mem hx
    simp; omega
theorem sortU_len (l : List Int) : (sortU l).length ≤ l.length :=
  nodup_le _ _ ((sortU_spec l).1.imp fun h => by omega) fun x h => ((sortU_spec l).2 x).1 h
set_option maxHeartbeats 1000000 in
theorem lmay_d (L R : Tm) (M B : List Ty) (hL : L.full ≤ 90000 ∧ L.Fit) (hR : R.full ≤ 90000 ∧ R.Fit) (hM : M.length ≤ 900000) : PureC Try.prog 87 [.ag [.sl 2 (eTys L.binds) none, .v (.int .i64 L.kind), .v (.int .i64 L.index), .sl 4 (eTms L.args) none, .sl 2 (eTys R.binds) none, .v (.int .i64 R.kind), .v (.int .i64 R.index), .sl 4 (eTms R.args) none, .sl 2 (eTys M) none, .sl 2 (eTys B) none]] (.v (.int .i64 (Li.may L R M B))) := by
 have l1 := loose_d L (by omega) hL.2
 have l2 := loose_d R (by omega) hR.2
 have hm := metas_d [L, R] (by simp) (by simp; omega)
 have hc := containsI_d L R M B hM (sortU (metasL [L, R])) (by
  have h1 := metasL_len [L, R] 90000 (by simp; omega)
  have h2 := sortU_len (metasL [L, R])
  simp at h1; omega)
 have r1 := right_d L (by omega)
 have r2 := right_d R (by omega)
 rw [show eTms [L, R] = [eTm L, eTm R] from rfl] at hm
 rw [eTm_eq] at l1 l2 r1 r2
 rw [eTm_eq L, eTm_eq R] at hm
 have d1 : Li.lo L = decide ((L.looses 0).foldl looseL 0 > 0) := rfl
 have d2 : Li.lo R = decide ((R.looses 0).foldl looseL 0 > 0) := rfl
 rw [show decide (L.size ≤ 5000 ∧ L.depth ≤ 60) = Li.rt L from rfl] at r1
 rw [show decide (R.size ≤ 5000 ∧ R.depth ≤ 60) = Li.rt R from rfl] at r2
 unfold Li.may
 generalize (L.looses 0).foldl looseL 0 = x at l1 d1
 generalize (R.looses 0).foldl looseL 0 = y at l2 d2
 generalize ((sortU (metasL [L, R])).any fun x => decide (x < 0 ∨ (M.length : Int) ≤ x)) = c at hc
 rw [d1, d2]
 by_cases hx : x > 0
 ·rw [decide_eq_true hx, Bool.true_or, if_pos rfl]
  refine calldw 0 46 [ResultVar.tmp 2] TLB_ok Try.func87 rfl Try.ntmps87 rfl fun cx hnt hn0 => ?_
  ·skip
   refine dw_seq ?_; refine dwk [] TLB_ok hnt fun K hK => ?_; refine hK _ _ ?_; clear hK K; refine dw_seq ?_; refine dw_block ?_; refine dw_seq ?_; refine dwk [(8, .v (.bool true))] TLB_ok hnt fun K hK => ?_; refine dcl (l1) ?_; refine And.intro auT ?_; refine hK _ _ ?_; clear hK K; refine dw_cond (t := true) rfl ?_; rw [if_pos rfl]; refine dw_seq ?_; refine dwk [] TLB_ok hnt fun K hK => ?_; refine hK _ _ ?_; clear hK K
   refine dw_ret ?_
   exact reta rfl
 ·rw [decide_eq_false hx, Bool.false_or]
  by_cases hy : y > 0
  ·rw [decide_eq_true hy, if_pos rfl]
   refine calldw 0 46 [ResultVar.tmp 2] TLB_ok Try.func87 rfl Try.ntmps87 rfl fun cx hnt hn0 => ?_
   ·skip
    refine dw_seq ?_; refine dwk [] TLB_ok hnt fun K hK => ?_; refine hK _ _ ?_; clear hK K; refine dw_seq ?_; refine dw_block ?_; refine dw_seq ?_; refine dwk [(8, .v (.bool false)), (14, .v (.bool true))] TLB_ok hnt fun K hK => ?_; refine dcl (l1) ?_; refine And.intro auF ?_; refine dcl (l2) ?_; refine And.intro auT ?_; refine hK _ _ ?_; clear hK K; refine dw_cond (t := true) rfl ?_; rw [if_pos rfl]
    refine dw_seq ?_; refine dwk [] TLB_ok hnt fun K hK => ?_; refine hK _ _ ?_; clear hK K; refine dw_ret ?_
    exact reta rfl
  ·rw [decide_eq_false hy, if_neg (by simp)]
   cases c with
   | true =>
    rw [if_pos rfl]
    refine calldw 0 46 [ResultVar.tmp 2] TLB_ok Try.func87 rfl Try.ntmps87 rfl fun cx hnt hn0 => ?_
    ·skip
     refine dw_seq ?_; refine dwk [] TLB_ok hnt fun K hK => ?_; refine hK _ _ ?_; clear hK K; refine dw_seq ?_; refine dw_block ?_; refine dw_seq ?_; refine dwk [(8, .v (.bool false)), (14, .v (.bool false))] TLB_ok hnt fun K hK => ?_; refine dcl (l1) ?_; refine And.intro auF ?_; refine dcl (l2) ?_; refine And.intro auF ?_; refine hK _ _ ?_; clear hK K; refine dw_cond (t := false) rfl ?_; rw [if_neg (by simp)]
     refine dw_seq ?_; refine dwk [(23, .sl 4 [[.sl 2 (eTys L.binds) none, .v (.int .i64 L.kind), .v (.int .i64 L.index), .sl 4 (eTms L.args) none], [.sl 2 (eTys R.binds) none, .v (.int .i64 R.kind), .v (.int .i64 R.index), .sl 4 (eTms R.args) none]] none)] TLB_ok hnt fun K hK => ?_; refine And.intro (VLe.untag _ _ _) ?_; refine dcl (hm) ?_; refine dcl (hc) ?_; refine hK _ _ ?_; clear hK K; refine dw_cond (t := true) rfl ?_
     rw [if_pos rfl]; refine dw_seq ?_; refine dwk [] TLB_ok hnt fun K hK => ?_; refine hK _ _ ?_; clear hK K; refine dw_ret ?_
     exact reta rfl
   | false =>
    rw [if_neg (by simp)]
    by_cases hb : (B.length : Int) > 900
    ·rw [decide_eq_true hb, Bool.true_or, if_pos rfl]
     refine calldw 0 46 [ResultVar.tmp 2] TLB_ok Try.func87 rfl Try.ntmps87 rfl fun cx hnt hn0 => ?_
     ·skip
      refine dw_seq ?_; refine dwk [] TLB_ok hnt fun K hK => ?_; refine hK _ _ ?_; clear hK K; refine dw_seq ?_; refine dw_block ?_; refine dw_seq ?_; refine dwk [(8, .v (.bool false)), (14, .v (.bool false))] TLB_ok hnt fun K hK => ?_; refine dcl (l1) ?_; refine And.intro auF ?_; refine dcl (l2) ?_; refine And.intro auF ?_; refine hK _ _ ?_; clear hK K; refine dw_cond (t := false) rfl ?_; rw [if_neg (by simp)]
      refine dw_seq ?_; refine dwk [(23, .sl 4 [[.sl 2 (eTys L.binds) none, .v (.int .i64 L.kind), .v (.int .i64 L.index), .sl 4 (eTms L.args) none], [.sl 2 (eTys R.binds) none, .v (.int .i64 R.kind), .v (.int .i64 R.index), .sl 4 (eTms R.args) none]] none)] TLB_ok hnt fun K hK => ?_; refine And.intro (VLe.untag _ _ _) ?_; refine dcl (hm) ?_; refine dcl (hc) ?_; refine hK _ _ ?_; clear hK K; refine dw_cond (t := false) rfl ?_
      rw [if_neg (by simp)]; refine dw_seq ?_; refine dwk [(31, .v (.bool true))] TLB_ok hnt fun K hK => ?_; refine And.intro (by first | exact dtrue (by rw [eTys_len]; omega) | exact VLe.of_eq (by rw [eTys_len]; omega)) ?_; refine hK _ _ ?_; clear hK K; refine dw_cond (t := true) rfl ?_; rw [if_pos rfl]; refine dw_seq ?_; refine dwk [] TLB_ok hnt fun K hK => ?_; refine hK _ _ ?_; clear hK K; refine dw_ret ?_
      exact reta rfl
    ·rw [decide_eq_false hb, Bool.false_or]
     cases hr1 : Li.rt L with
     | false =>
      rw [hr1] at r1
      simp only [Bool.not_false, Bool.true_or, if_true]
      refine calldw 0 46 [ResultVar.tmp 2] TLB_ok Try.func87 rfl Try.ntmps87 rfl fun cx hnt hn0 => ?_
      ·skip
       refine dw_seq ?_; refine dwk [] TLB_ok hnt fun K hK => ?_; refine hK _ _ ?_; clear hK K; refine dw_seq ?_; refine dw_block ?_; refine dw_seq ?_; refine dwk [(8, .v (.bool false)), (14, .v (.bool false))] TLB_ok hnt fun K hK => ?_; refine dcl (l1) ?_; refine And.intro auF ?_; refine dcl (l2) ?_; refine And.intro auF ?_; refine hK _ _ ?_; clear hK K; refine dw_cond (t := false) rfl ?_; rw [if_neg (by simp)]
       refine dw_seq ?_; refine dwk [(23, .sl 4 [[.sl 2 (eTys L.binds) none, .v (.int .i64 L.kind), .v (.int .i64 L.index), .sl 4 (eTms L.args) none], [.sl 2 (eTys R.binds) none, .v (.int .i64 R.kind), .v (.int .i64 R.index), .sl 4 (eTms R.args) none]] none)] TLB_ok hnt fun K hK => ?_; refine And.intro (VLe.untag _ _ _) ?_; refine dcl (hm) ?_; refine dcl (hc) ?_; refine hK _ _ ?_; clear hK K; refine dw_cond (t := false) rfl ?_
       rw [if_neg (by simp)]; refine dw_seq ?_; refine dwk [(31, .v (.bool false))] TLB_ok hnt fun K hK => ?_; refine And.intro (by first | exact dfalse (by rw [eTys_len]; omega) | exact VLe.of_eq (by rw [eTys_len]; omega)) ?_; refine dcl (r1) ?_; refine hK _ _ ?_; clear hK K; refine dw_cond (t := true) rfl ?_; rw [if_pos rfl]; refine dw_seq ?_; refine dwk [] TLB_ok hnt fun K hK => ?_; refine hK _ _ ?_; clear hK K
       refine dw_ret ?_
       exact reta rfl
     | true =>
      rw [hr1] at r1
      cases hr2 : Li.rt R with
      | false =>
       rw [hr2] at r2
       simp only [Bool.not_false, Bool.or_true, if_true]
       refine calldw 0 46 [ResultVar.tmp 2] TLB_ok Try.func87 rfl Try.ntmps87 rfl fun cx hnt hn0 => ?_
       ·skip
        refine dw_seq ?_; refine dwk [] TLB_ok hnt fun K hK => ?_; refine hK _ _ ?_; clear hK K; refine dw_seq ?_; refine dw_block ?_; refine dw_seq ?_; refine dwk [(8, .v (.bool false)), (14, .v (.bool false))] TLB_ok hnt fun K hK => ?_; refine dcl (l1) ?_; refine And.intro auF ?_; refine dcl (l2) ?_; refine And.intro auF ?_; refine hK _ _ ?_; clear hK K; refine dw_cond (t := false) rfl ?_; rw [if_neg (by simp)]
        refine dw_seq ?_; refine dwk [(23, .sl 4 [[.sl 2 (eTys L.binds) none, .v (.int .i64 L.kind), .v (.int .i64 L.index), .sl 4 (eTms L.args) none], [.sl 2 (eTys R.binds) none, .v (.int .i64 R.kind), .v (.int .i64 R.index), .sl 4 (eTms R.args) none]] none)] TLB_ok hnt fun K hK => ?_; refine And.intro (VLe.untag _ _ _) ?_; refine dcl (hm) ?_; refine dcl (hc) ?_; refine hK _ _ ?_; clear hK K; refine dw_cond (t := false) rfl ?_
        rw [if_neg (by simp)]; refine dw_seq ?_; refine dwk [(31, .v (.bool false))] TLB_ok hnt fun K hK => ?_; refine And.intro (by first | exact dfalse (by rw [eTys_len]; omega) | exact VLe.of_eq (by rw [eTys_len]; omega)) ?_; refine dcl (r1) ?_; refine dcl (r2) ?_; refine hK _ _ ?_; clear hK K; refine dw_cond (t := true) rfl ?_; rw [if_pos rfl]; refine dw_seq ?_; refine dwk [] TLB_ok hnt fun K hK => ?_
        refine hK _ _ ?_; clear hK K; refine dw_ret ?_
        exact reta rfl
      | true =>
       rw [hr2] at r2
       simp only [Bool.not_true, Bool.or_false, Bool.false_eq_true, if_false]
       refine calldw 0 46 [ResultVar.tmp 2] TLB_ok Try.func87 rfl Try.ntmps87 rfl fun cx hnt hn0 => ?_
       ·skip
        refine dw_seq ?_; refine dwk [] TLB_ok hnt fun K hK => ?_; refine hK _ _ ?_; clear hK K; refine dw_seq ?_; refine dw_block ?_; refine dw_seq ?_; refine dwk [(8, .v (.bool false)), (14, .v (.bool false))] TLB_ok hnt fun K hK => ?_; refine dcl (l1) ?_; refine And.intro auF ?_; refine dcl (l2) ?_; refine And.intro auF ?_; refine hK _ _ ?_; clear hK K; refine dw_cond (t := false) rfl ?_; rw [if_neg (by simp)]
        refine dw_seq ?_; refine dwk [(23, .sl 4 [[.sl 2 (eTys L.binds) none, .v (.int .i64 L.kind), .v (.int .i64 L.index), .sl 4 (eTms L.args) none], [.sl 2 (eTys R.binds) none, .v (.int .i64 R.kind), .v (.int .i64 R.index), .sl 4 (eTms R.args) none]] none)] TLB_ok hnt fun K hK => ?_; refine And.intro (VLe.untag _ _ _) ?_; refine dcl (hm) ?_; refine dcl (hc) ?_; refine hK _ _ ?_; clear hK K; refine dw_cond (t := false) rfl ?_
        rw [if_neg (by simp)]; refine dw_seq ?_; refine dwk [(31, .v (.bool false))] TLB_ok hnt fun K hK => ?_; refine And.intro (by first | exact dfalse (by rw [eTys_len]; omega) | exact VLe.of_eq (by rw [eTys_len]; omega)) ?_; refine dcl (r1) ?_; refine dcl (r2) ?_; refine hK _ _ ?_; clear hK K; refine dw_cond (t := false) rfl ?_; rw [if_neg (by simp)]; refine dw_skip ?_; refine dw_seq ?_; refine dwk [] TLB_ok hnt fun K hK => ?_
        refine hK _ _ ?_; clear hK K; refine dw_ret ?_
        exact reta rfl
/-! done -/
theorem ldone_d (L R : Tm) (M : List Ty) (hL : L.full ≤ 4400000 ∧ L.Fit ∧ (Li.rt L = true → L.full ≤ 900000)) (hR : R.full ≤ 4400000 ∧ R.Fit ∧ (Li.rt R = true → R.full ≤ 900000)) (hM : Ty.sizes M ≤ 800000) : PureC Try.prog 90 [.ag (ePr ⟨L, R, M⟩)] (.tu [.ag (ePr (Li.done ⟨L, R, M⟩).1), .v (.int .i64 (Li.done ⟨L, R, M⟩).2)]) := by
 have r1 := right_d L hL.1
 have r2 := right_d R hR.1
 have c1 := fun h => copyW_d L (hL.2.2 h) hL.2.1
 have c2 := fun h => copyW_d R (hR.2.2 h) hR.2.1
 have ha := arrow_d (.mk [] 0) M (by rw [ty_size]; simp [Ty.sizes]; omega)
 rw [show decide (L.size ≤ 5000 ∧ L.depth ≤ 60) = Li.rt L from rfl] at r1
 rw [show decide (R.size ≤ 5000 ∧ R.depth ≤ 60) = Li.rt R from rfl] at r2
 rw [eTm_eq] at r1 r2 c1 c2
 simp only [eTy_eq, args_mk', base_mk', List.append_nil] at ha
 rw [ePr_eq]
 unfold Li.done
 dsimp only
 cases hr1 : Li.rt L with
 | false =>
  rw [hr1] at r1
  simp only [Bool.false_and, Bool.false_eq_true, if_false]
  rw [ePr_z]
  refine calldw 0 27 [ResultVar.cell 2 78, ResultVar.tmp 3] TLB_ok Try.func90 rfl Try.ntmps90 rfl fun cx hnt hn0 => ?_
  ·skip
   refine dw_seq ?_; refine dwk [] TLB_ok hnt fun K hK => ?_; refine hK _ _ ?_; clear hK K; refine dw_seq ?_; refine dw_seq ?_; refine dwk [] TLB_ok hnt fun K hK => ?_; refine dcl (r1) ?_; refine hK _ _ ?_; clear hK K; refine dw_cond (t := true) rfl ?_; rw [if_pos rfl]; refine dw_seq ?_; refine dwk [] TLB_ok hnt fun K hK => ?_; refine hK _ _ ?_; clear hK K; refine dw_ret ?_
   exact reta rfl
 | true =>
  rw [hr1] at r1
  cases hr2 : Li.rt R with
  | false =>
   rw [hr2] at r2
   simp only [Bool.and_false, Bool.false_eq_true, if_false]
   rw [ePr_z]
   refine calldw 0 27 [ResultVar.cell 2 78, ResultVar.tmp 3] TLB_ok Try.func90 rfl Try.ntmps90 rfl fun cx hnt hn0 => ?_
   ·skip
    refine dw_seq ?_; refine dwk [] TLB_ok hnt fun K hK => ?_; refine hK _ _ ?_; clear hK K; refine dw_seq ?_; refine dw_seq ?_; refine dwk [] TLB_ok hnt fun K hK => ?_; refine dcl (r1) ?_; refine dcl (r2) ?_; refine hK _ _ ?_; clear hK K; refine dw_cond (t := true) rfl ?_; rw [if_pos rfl]; refine dw_seq ?_; refine dwk [] TLB_ok hnt fun K hK => ?_; refine hK _ _ ?_; clear hK K; refine dw_ret ?_
    exact reta rfl
  | true =>
   rw [hr2] at r2
   have c1 := c1 hr1
   have c2 := c2 hr2
   simp only [Bool.and_true, if_true]
   rw [ePr_eq]
   refine calldw 0 27 [ResultVar.cell 2 78, ResultVar.tmp 3] TLB_ok Try.func90 rfl Try.ntmps90 rfl fun cx hnt hn0 => ?_
   ·skip
    refine dw_seq ?_; refine dwk [] TLB_ok hnt fun K hK => ?_; refine hK _ _ ?_; clear hK K; refine dw_seq ?_; refine dw_seq ?_; refine dwk [] TLB_ok hnt fun K hK => ?_; refine dcl (r1) ?_; refine dcl (r2) ?_; refine hK _ _ ?_; clear hK K; refine dw_cond (t := false) rfl ?_; rw [if_neg (by simp)]; refine dw_skip ?_; refine dw_seq ?_; refine dwkD [(21, .ag [.sl 2 (eTys []) none, .v (.int .i64 0)])] TLB_ok hnt fun K hK => ?_
    refine dcl (c1) ?_; refine dcl (c2) ?_; refine And.intro (auV) ?_; refine dcl (ha) ?_; refine hK _ _ (by kernel_rfl) ?_; clear hK K; refine dw_ret ?_
    exact reta rfl
/-! Close -/
theorem lclose_d (t : Tm) (B : List Ty) (hz : Ty.sizes B + t.full ≤ 900000) (hf : (Li.cl t B).Fit) : PureC Try.prog 95 [.ag (eTm t), .sl 2 (eTys B) none] (.ag (eTm (Li.cl t B))) := by
 have hfl := full_args t
 have h1 := Ty.le_sizes B
 have h2 := Ty.le_sizes t.binds
 have hcat := concat_d [B, t.binds] (by simp [lens]; omega) (by simp)
 simp only [List.flatten_cons, List.flatten_nil, List.append_nil] at hcat
 have hc := copyW_d (Li.cl t B) (by unfold Li.cl; rw [Tm.full_eq, Ty.sizes_append]; omega) hf
 unfold Li.cl at hc ⊢
 rw [eTm_eq, eTm_eq] at *
 simp only [bindsT, kindT, indexT, argsTm] at hc ⊢
 refine calldw 0 13 [ResultVar.cell 4 34] TLB_ok Try.func95 rfl Try.ntmps95 rfl fun cx hnt hn0 => ?_
 ·skip
  refine dw_seq ?_; refine dwk [] TLB_ok hnt fun K hK => ?_; refine hK _ _ ?_; clear hK K; refine dw_seq ?_; refine dwk [(8, .sl 1 (eTyss [B, t.binds]) none)] TLB_ok hnt fun K hK => ?_; refine And.intro (VLe.untag _ _ _) ?_; refine dcl (hcat) ?_; refine hK _ _ ?_; clear hK K; refine dw_seq ?_; refine dwk [] TLB_ok hnt fun K hK => ?_; refine dcl (hc) ?_; refine hK _ _ ?_; clear hK K; refine dw_ret ?_
  exact reta rfl
theorem rclose_d (t : Tm) (B : List Ty) (hz : Ty.sizes B + t.full ≤ 900000) : PureC Try.prog 52 [.ag (eTm t), .sl 2 (eTys B) none] (.ag (eTm (Li.cl t B))) := by
 have hfl := full_args t
 have h1 := Ty.le_sizes B
 have h2 := Ty.le_sizes t.binds
 have hcat := rbehind_d B t.binds (by omega)
 unfold Li.cl
 rw [eTm_eq, eTm_eq]
 simp only [bindsT, kindT, indexT, argsTm]
 refine calldw 0 11 [ResultVar.cell 4 27] TLB_ok Try.func52 rfl Try.ntmps52 rfl fun cx hnt hn0 => ?_
 ·skip
  refine dw_seq ?_; refine dwk [] TLB_ok hnt fun K hK => ?_; refine hK _ _ ?_; clear hK K; refine dw_seq ?_; refine dwk [] TLB_ok hnt fun K hK => ?_; refine dcl (hcat) ?_; refine hK _ _ ?_; clear hK K; refine dw_seq ?_; refine dwk [] TLB_ok hnt fun K hK => ?_; refine hK _ _ ?_; clear hK K; refine dw_ret ?_
  exact reta rfl
/-! Subst -/
theorem cls_len (l : List (Int × Tm)) (B : List Ty) : (Li.cls l B).length = l.length := by unfold Li.cls; rw [List.length_map]
theorem cls_snoc (l : List (Int × Tm)) (B : List Ty) (k : Nat) (h : k < l.length) : ePairs ((Li.cls l B).take k) ++ [[.v (.int .i64 l[k].1), .sl 2 (eTys (Li.cl l[k].2 B).binds) none, .v (.int .i64 (Li.cl l[k].2 B).kind), .v (.int .i64 (Li.cl l[k].2 B).index), .sl 4 (eTms (Li.cl l[k].2 B).args) none]] = ePairs ((Li.cls l B).take (k + 1)) := by
  have h2 : k < (Li.cls l B).length := by rw [cls_len]; exact h
  rw [List.take_add_one, List.getElem?_eq_getElem h2, Option.toList_some]
  show _ = List.map ePair ((Li.cls l B).take k ++ [(Li.cls l B)[k]])
  rw [List.map_append]
  simp only [Li.cls, List.getElem_map]
  rfl
theorem lsubst_d (l : List (Int × Tm)) (B : List Ty) (hl : l.length ≤ 100000) (hp : ∀ p ∈ l, Ty.sizes B + p.2.full ≤ 80000 ∧ (Li.cl p.2 B).Fit) : PureC Try.prog 50 [.sl 5 (ePairs l) none, .sl 2 (eTys B) none] (.tu (if Sb.right l then [.sl 5 (if Sb.right (So.ss (Li.cls l B)) then ePairs (So.ss (Li.cls l B)) else []) none, .v (.int .i64 (if Sb.right (So.ss (Li.cls l B)) then 0 else 1))] else [.sl 5 [] none, .v (.int .i64 1)])) := by
 have hr := sright_d l (by omega)
 have ho := sOf_d (Li.cls l B) (by rw [cls_len]; omega) (fun p hq => by
  obtain ⟨q, hq2, rfl⟩ := List.mem_map.1 hq
  refine ⟨?_, (hp q hq2).2⟩
  have := full_args q.2
  have := (hp q hq2).1
  show (Tm.mk _ _ _ _).full ≤ _
  rw [Tm.full_eq, Ty.sizes_append]; omega)
 have hxo : ∀ f g, D.okss f g (if Sb.right (So.ss (Li.cls l B)) then ePairs (So.ss (Li.cls l B)) else []) = true := fun f g => by split <;> simp [ePairs_ok, D.okss]
 generalize (if Sb.right (So.ss (Li.cls l B)) then ePairs (So.ss (Li.cls l B)) else []) = x at ho hxo ⊢
 generalize (if Sb.right (So.ss (Li.cls l B)) then (0 : Int) else 1) = y at ho ⊢
 cases hr0 : Sb.right l with
 | false =>
  rw [hr0] at hr
  rw [if_neg (by simp)]
  refine calldw 0 33 [ResultVar.tmp 4, ResultVar.tmp 5] TLB_ok Try.func50 rfl Try.ntmps50 rfl fun cx hnt hn0 => ?_
  ·skip
   refine dw_seq ?_; refine dwk [] TLB_ok hnt fun K hK => ?_; refine hK _ _ ?_; clear hK K; refine dw_seq ?_; refine dw_seq ?_; refine dwk [] TLB_ok hnt fun K hK => ?_; refine dcl (hr) ?_; refine hK _ _ ?_; clear hK K; refine dw_cond (t := true) rfl ?_; rw [if_pos rfl]; refine dw_seq ?_; refine dwk [] TLB_ok hnt fun K hK => ?_; refine hK _ _ ?_; clear hK K; refine dw_ret ?_
   exact reta rfl
 | true =>
  rw [hr0] at hr
  rw [if_pos rfl]
  refine call_of_dw 0 33 [ResultVar.tmp 4, ResultVar.tmp 5] TLB_ok (by kernel_rfl) Try.func50 rfl Try.ntmps50 rfl (by simp) ?dwords ?dbody
  case dwords => simp [wordsOk, D.ok, D.oks, D.okss, rnames, inN, ckey, ePairs_ok, eTys_ok, hxo]
  case dbody =>
   intro cx hnt hn0
   refine dw_seq ?_; refine dwk [] TLB_ok hnt fun K hK => ?_; refine hK _ _ ?_; clear hK K; refine dw_seq ?_; refine dw_seq ?_; refine dwk [] TLB_ok hnt fun K hK => ?_; refine dcl (hr) ?_; refine hK _ _ ?_; clear hK K; refine dw_cond (t := false) rfl ?_; rw [if_neg (by simp)]; refine dw_skip ?_; refine dw_seq ?_; refine dwk [] TLB_ok hnt fun K hK => ?_; refine hK _ _ ?_; clear hK K
   refine DW.vs (VS.rowT (x := 6) (by rw [hnt]; decide) 105 5 rfl) ?_
   refine dw_seq ?_; refine dw_seq ?_; refine dwk [(13, .v (.int .i64 (↑l.length)))] TLB_ok hnt fun K hK => ?_; refine And.intro (dintE (by rw [ePairs_len])) ?_; refine hK _ _ ?_; clear hK K; refine dw_block ?_
   refine dw_loop (ι := { k : Nat // k ≤ l.length }) (fun k => [(.t 1, .sl 2 (eTys B) none), (.t 12, .sl 5 (ePairs l) none), (.t 13, .v (.int .i64 ↑l.length)), (.t 14, .v (.int .i64 ↑k.1)), (.t 6, .sl 5 (ePairs ((Li.cls l B).take k.1)) (some 6)), (.r 6, .rw 105 5 k.1)]) 7 (fun k => l.length - k.1) (⟨0, Nat.zero_le _⟩) (VS.toA) fun k => ?_
   obtain ⟨k, hk⟩ := k
   dsimp only
   by_cases hlt : k < l.length
   ·have hc := lclose_d l[k].2 B (by have := (hp _ (List.getElem_mem hlt)).1; omega) (hp _ (List.getElem_mem hlt)).2
    rw [eTm_eq, eTm_eq] at hc
    have hsn := cls_snoc l B k hlt
    have hcl := cls_len l B
    have hl1 : (ePairs ((Li.cls l B).take k)).length = k := by rw [ePairs_len, List.length_take]; omega
    have hl2 : (ePairs ((Li.cls l B).take (k + 1))).length = k + 1 := by rw [ePairs_len, List.length_take]; omega
    refine dw_seq ?_; refine dwk [(15, .v (.bool true))] TLB_ok hnt fun K hK => ?_; refine And.intro auT ?_; refine hK _ _ ?_; clear hK K; refine dw_seq ?_; refine dw_cond (t := true) rfl ?_; rw [if_pos rfl]; refine dw_skip ?_; refine dw_seq ?_; refine dw_block ?_; refine dw_seq ?_; refine dwk [(16, .q [.v (.int .i64 l[k].1), .sl 2 (eTys l[k].2.binds) none, .v (.int .i64 l[k].2.kind), .v (.int .i64 l[k].2.index), .sl 4 (eTms l[k].2.args) none])] TLB_ok hnt fun K hK => ?_
    refine And.intro (elo (ePairs_len l)) ?_; refine And.intro (elv (ePairs_getD l k) (ePair_eq _)) ?_; refine hK _ _ ?_; clear hK K; refine dwkD [] TLB_ok hnt fun K hK => ?_; refine dcl (hc) ?_; refine And.intro (⟨by omega, by rw [hl1]; simp; omega⟩) ?_; refine hK _ _ (by kernel_rfl) ?_; clear hK K
    rw [hsn, hl2]
    refine dwk [(28, .v (.int .i64 (↑(k + 1))))] TLB_ok hnt fun K hK => ?_; refine And.intro auI ?_; refine hK _ _ ?_; clear hK K
    refine ⟨⟨k + 1, by omega⟩, by first | omega | (dsimp only; omega), VS.toA⟩
   ·rw [List.take_of_length_le (by rw [cls_len]; omega)]
    refine dw_seq ?_; refine dwk [(15, .v (.bool false))] TLB_ok hnt fun K hK => ?_; refine And.intro auF ?_; refine hK _ _ ?_; clear hK K; refine dw_seq ?_; refine dw_cond (t := false) rfl ?_; rw [if_neg (by simp)]; refine dw_exit ?_; refine dw_seq ?_; refine dwk [(29, .sl 5 (ePairs (Li.cls l B)) none)] TLB_ok hnt fun K hK => ?_; refine And.intro (VLe.untag _ _ _) ?_; refine dcl (ho) ?_; refine hK _ _ ?_; clear hK K
    refine dw_ret ?_
    exact reta rfl
/-! Over, Closed -/
theorem arrs_snoc (B : List Ty) (M : List Ty) (j : Nat) (h : j < M.length) : eTys ((M.map (Li.arr B)).take j) ++ [[.sl 2 (eTys (Li.arr B M[j]).args) none, .v (.int .i64 (Li.arr B M[j]).base)]] = eTys ((M.map (Li.arr B)).take (j + 1)) := by
  have h2 : j < (M.map (Li.arr B)).length := by rw [List.length_map]; exact h
  rw [← eTys_snoc _ j h2, List.getElem_map]
set_option maxHeartbeats 1000000 in
theorem lover_d (L R : Tm) (M B : List Ty) (hL : L.full ≤ 90000 ∧ L.Fit) (hR : R.full ≤ 90000 ∧ R.Fit) (hM : ∀ m ∈ M, Ty.sizes B + m.size ≤ 900000) (hMl : M.length ≤ 900000) (hB : ∀ b ∈ B, b.size ≤ 1000)
  (hu : Li.may L R M B = 0 → ((Li.lif B L 0).full ≤ 4400000 ∧ (Li.lif B L 0).Fit ∧ (Li.rt (Li.lif B L 0) = true → (Li.lif B L 0).full ≤ 900000)) ∧ ((Li.lif B R 0).full ≤ 4400000 ∧ (Li.lif B R 0).Fit ∧ (Li.rt (Li.lif B R 0) = true → (Li.lif B R 0).full ≤ 900000)) ∧ Ty.sizes (M.map (Li.arr B)) ≤ 800000) : PureC Try.prog 37 [.ag (ePr ⟨L, R, M⟩), .sl 2 (eTys B) none] (.tu [.ag (ePr (Li.over ⟨L, R, M⟩ B).1), .v (.int .i64 (Li.over ⟨L, R, M⟩ B).2)]) := by
 have hm := lmay_d L R M B hL hR hMl
 unfold Li.over
 dsimp only
 rw [ePr_eq]
 by_cases h0 : Li.may L R M B = 0
 ·obtain ⟨u1, u2, u3⟩ := hu h0
  rw [h0] at hm
  rw [if_neg (fun h => h h0)]
  have hbl : B.length ≤ 900 := by
   unfold Li.may at h0
   split at h0
   ·cases h0
   ·split at h0
    ·cases h0
    ·split at h0
     ·cases h0
     ·rename_i hn
      simp only [Bool.or_eq_true, not_or, decide_eq_true_eq] at hn
      omega
  have t1 := lterm_d L R M B L hbl hB (by omega)
  have t2 := lterm_d L R M B R hbl hB (by omega)
  have hd := ldone_d (Li.lif B L 0) (Li.lif B R 0) (M.map (Li.arr B)) u1 u2 u3
  unfold Li.up
  dsimp only
  have hwl : (M.map (Li.arr B)).length = M.length := List.length_map ..
  have hwg := arrs_snoc B M
  generalize Li.lif B L 0 = L' at t1 hd ⊢
  generalize Li.lif B R 0 = R' at t2 hd ⊢
  generalize M.map (Li.arr B) = W at hd hwl hwg ⊢
  generalize hz : Li.done ⟨L', R', W⟩ = z at hd ⊢
  obtain ⟨⟨zl, zr, zm⟩, ze⟩ := z
  rw [eTm_eq, eTm_eq] at t1 t2
  dsimp only at hd ⊢
  rw [ePr_eq, ePr_eq] at hd
  rw [ePr_eq]
  refine calldw 0 49 [ResultVar.cell 4 78, ResultVar.tmp 5] TLB_ok Try.func37 rfl Try.ntmps37 rfl fun cx hnt hn0 => ?_
  ·skip
   refine dw_seq ?_; refine dwk [] TLB_ok hnt fun K hK => ?_; refine hK _ _ ?_; clear hK K; refine dw_seq ?_; refine dwk [] TLB_ok hnt fun K hK => ?_; refine hK _ _ ?_; clear hK K; refine dw_seq ?_; refine dw_seq ?_; refine dwk [] TLB_ok hnt fun K hK => ?_; refine dcl (hm) ?_; refine hK _ _ ?_; clear hK K; refine dw_seq ?_; refine dwk [] TLB_ok hnt fun K hK => ?_; refine hK _ _ ?_; clear hK K; refine dw_cond (t := false) rfl ?_
   rw [if_neg (by simp)]; refine dw_skip ?_; refine dw_seq ?_; refine dwkD [] TLB_ok hnt fun K hK => ?_; refine dcl (t1) ?_; refine dcl (t2) ?_; refine hK _ _ (by kernel_rfl) ?_; clear hK K
   refine DW.vs (VS.row (k := 22) (off := 8) 100 2 rfl) ?_
   refine dw_seq ?_; refine dw_seq ?_; refine dwk [(31, .v (.int .i64 (↑M.length)))] TLB_ok hnt fun K hK => ?_; refine And.intro (dintE (by rw [eTys_len])) ?_; refine hK _ _ ?_; clear hK K; refine dw_block ?_
   refine dw_loop (ι := { j : Nat // j ≤ M.length }) (fun j => [(.t 1, .sl 2 (eTys B) none), (.t 4, .p 1 0), (.t 8, .p 22 0), (.t 30, .sl 2 (eTys M) none), (.t 31, .v (.int .i64 ↑M.length)), (.t 32, .v (.int .i64 ↑j.1)), (.c 1 0, .v (.slice none 0 0)), (.c 1 1, .v (.int .i64 0)), (.c 1 2, .v (.int .i64 0)), (.c 1 3, .v (.slice none 0 0)), (.c 1 4, .v (.slice none 0 0)), (.c 1 5, .v (.int .i64 0)), (.c 1 6, .v (.int .i64 0)), (.c 1 7, .v (.slice none 0 0)), (.c 1 8, .v (.slice none 0 0)), (.c 22 0, .sl 2 (eTys L'.binds) none), (.c 22 1, .v (.int .i64 L'.kind)), (.c 22 2, .v (.int .i64 L'.index)), (.c 22 3, .sl 4 (eTms L'.args) none), (.c 22 4, .sl 2 (eTys R'.binds) none), (.c 22 5, .v (.int .i64 R'.kind)), (.c 22 6, .v (.int .i64 R'.index)), (.c 22 7, .sl 4 (eTms R'.args) none), (.c 22 8, .sl 2 (eTys (W.take j.1)) (some 24)), (.r 24, .rw 100 2 j.1)]) 25 (fun j => M.length - j.1) (⟨0, Nat.zero_le _⟩) (VS.toA) fun j => ?_
   obtain ⟨j, hj⟩ := j
   dsimp only
   by_cases hlt : j < M.length
   ·have hc := arrow_d M[j] B (hM _ (List.getElem_mem hlt))
    have hsn := hwg j hlt
    rw [show Ty.mk (B ++ M[j].args) M[j].base = Li.arr B M[j] from rfl, eTy_eq, eTy_eq] at hc
    have hl1 : (eTys (W.take j)).length = j := by rw [eTys_len, List.length_take]; omega
    have hl2 : (eTys (W.take (j + 1))).length = j + 1 := by rw [eTys_len, List.length_take]; omega
    refine dw_seq ?_; refine dwk [(33, .v (.bool true))] TLB_ok hnt fun K hK => ?_; refine And.intro auT ?_; refine hK _ _ ?_; clear hK K; refine dw_seq ?_; refine dw_cond (t := true) rfl ?_; rw [if_pos rfl]; refine dw_skip ?_; refine dw_seq ?_; refine dw_block ?_; refine dw_seq ?_; refine dwk [(34, .q [.sl 2 (eTys M[j].args) none, .v (.int .i64 M[j].base)])] TLB_ok hnt fun K hK => ?_; refine And.intro (elo (eTys_len M)) ?_
    refine And.intro (elv (eTys_getD M j) (eTy_eq _)) ?_; refine hK _ _ ?_; clear hK K; refine dwkD [] TLB_ok hnt fun K hK => ?_; refine dcl (hc) ?_; refine And.intro (⟨by omega, by rw [hl1]; simp; omega⟩) ?_; refine hK _ _ (by kernel_rfl) ?_; clear hK K
    rw [hsn, hl2]
    refine dwk [(44, .v (.int .i64 (↑(j + 1))))] TLB_ok hnt fun K hK => ?_; refine And.intro auI ?_; refine hK _ _ ?_; clear hK K
    refine ⟨⟨j + 1, hlt⟩, by first | omega | (dsimp only; omega), VS.toA⟩
   ·rw [List.take_of_length_le (by omega)]
    refine dw_seq ?_; refine dwk [(33, .v (.bool false))] TLB_ok hnt fun K hK => ?_; refine And.intro auF ?_; refine hK _ _ ?_; clear hK K; refine dw_seq ?_; refine dw_cond (t := false) rfl ?_; rw [if_neg (by simp)]; refine dw_exit ?_; refine dw_seq ?_; refine dwk [(45, .ag [.sl 2 (eTys L'.binds) none, .v (.int .i64 L'.kind), .v (.int .i64 L'.index), .sl 4 (eTms L'.args) none, .sl 2 (eTys R'.binds) none, .v (.int .i64 R'.kind), .v (.int .i64 R'.index), .sl 4 (eTms R'.args) none, .sl 2 (eTys W) none])] TLB_ok hnt fun K hK => ?_
    refine And.intro (auV) ?_; refine dcl (hd) ?_; refine hK _ _ ?_; clear hK K; refine dw_ret ?_
    exact reta rfl
 ·rw [if_pos h0, ePr_z]
  generalize Li.may L R M B = e at hm h0 ⊢
  refine calldw 0 49 [ResultVar.cell 4 78, ResultVar.tmp 5] TLB_ok Try.func37 rfl Try.ntmps37 rfl fun cx hnt hn0 => ?_
  ·skip
   refine dw_seq ?_; refine dwk [] TLB_ok hnt fun K hK => ?_; refine hK _ _ ?_; clear hK K; refine dw_seq ?_; refine dwk [] TLB_ok hnt fun K hK => ?_; refine hK _ _ ?_; clear hK K; refine dw_seq ?_; refine dw_seq ?_; refine dwk [] TLB_ok hnt fun K hK => ?_; refine dcl (hm) ?_; refine hK _ _ ?_; clear hK K; refine dw_seq ?_; refine dwk [(17, .v (.bool true))] TLB_ok hnt fun K hK => ?_; refine And.intro (bneT h0) ?_
   refine hK _ _ ?_; clear hK K; refine dw_cond (t := true) rfl ?_; rw [if_pos rfl]; refine dw_seq ?_; refine dwk [] TLB_ok hnt fun K hK => ?_; refine hK _ _ ?_; clear hK K; refine dw_ret ?_
   exact reta rfl
set_option maxHeartbeats 1000000 in
theorem lclosed_d (L R : Tm) (M B : List Ty) (hL : L.full ≤ 90000 ∧ L.Fit) (hR : R.full ≤ 90000 ∧ R.Fit) (hM : ∀ m ∈ M, Ty.sizes B + m.size ≤ 900000) (hMl : M.length ≤ 900000) (hB : ∀ b ∈ B, b.size ≤ 1000)
  (hu : Li.may L R M B = 0 → ((Li.lif B L 0).full ≤ 4400000 ∧ (Li.lif B L 0).Fit ∧ (Li.rt (Li.lif B L 0) = true → (Li.lif B L 0).full ≤ 900000)) ∧ ((Li.lif B R 0).full ≤ 4400000 ∧ (Li.lif B R 0).Fit ∧ (Li.rt (Li.lif B R 0) = true → (Li.lif B R 0).full ≤ 900000)) ∧ Ty.sizes (M.map (Li.arr B)) ≤ 800000)
  (hv : (Li.over ⟨L, R, M⟩ B).2 = 0 → ∀ p, (Li.over ⟨L, R, M⟩ B).1 = p → (Ty.sizes B + p.l.full ≤ 500000 ∧ (Li.cl p.l B).Fit) ∧ (Ty.sizes B + p.r.full ≤ 500000 ∧ (Li.cl p.r B).Fit) ∧ Ty.sizes p.m ≤ 800000) : PureC Try.prog 40 [.ag (ePr ⟨L, R, M⟩), .sl 2 (eTys B) none] (.tu [.ag (ePr (Li.closed ⟨L, R, M⟩ B).1), .v (.int .i64 (Li.closed ⟨L, R, M⟩ B).2)]) := by
 have ho := lover_d L R M B hL hR hM hMl hB hu
 unfold Li.closed
 generalize Li.over ⟨L, R, M⟩ B = o at ho hv ⊢
 obtain ⟨⟨ol, or, om⟩, oe⟩ := o
 dsimp only at ho hv ⊢
 rw [ePr_eq, ePr_eq] at ho
 rw [ePr_eq]
 by_cases h0 : oe = 0
 ·obtain ⟨⟨u1, u2⟩, ⟨u3, u4⟩, u5⟩ := hv h0 _ rfl
  dsimp only at u1 u2 u3 u4 u5
  subst h0
  rw [if_neg (by simp)]
  have c1 := lclose_d ol B (by omega) u2
  have c2 := lclose_d or B (by omega) u4
  have f1 := full_args ol
  have f2 := full_args or
  have hd := ldone_d (Li.cl ol B) (Li.cl or B) om ⟨by unfold Li.cl; rw [Tm.full_eq, Ty.sizes_append]; omega, u2, fun _ => by unfold Li.cl; rw [Tm.full_eq, Ty.sizes_append]; omega⟩ ⟨by unfold Li.cl; rw [Tm.full_eq, Ty.sizes_append]; omega, u4, fun _ => by unfold Li.cl; rw [Tm.full_eq, Ty.sizes_append]; omega⟩ u5
  unfold Li.clP
  dsimp only
  generalize Li.cl ol B = L' at c1 hd ⊢
  generalize Li.cl or B = R' at c2 hd ⊢
  generalize Li.done ⟨L', R', om⟩ = z at hd ⊢
  obtain ⟨⟨zl, zr, zm⟩, ze⟩ := z
  rw [eTm_eq, eTm_eq] at c1 c2
  dsimp only at hd ⊢
  rw [ePr_eq, ePr_eq] at hd
  rw [ePr_eq]
  refine calldw 0 32 [ResultVar.cell 4 78, ResultVar.tmp 5] TLB_ok Try.func40 rfl Try.ntmps40 rfl fun cx hnt hn0 => ?_
  ·skip
   refine dw_seq ?_; refine dwk [] TLB_ok hnt fun K hK => ?_; refine hK _ _ ?_; clear hK K; refine dw_seq ?_; refine dwk [] TLB_ok hnt fun K hK => ?_; refine dcl (ho) ?_; refine hK _ _ ?_; clear hK K; refine dw_seq ?_; refine dw_seq ?_; refine dwk [] TLB_ok hnt fun K hK => ?_; refine hK _ _ ?_; clear hK K; refine dw_cond (t := false) rfl ?_; rw [if_neg (by simp)]; refine dw_skip ?_; refine dw_seq ?_; refine dwkD [] TLB_ok hnt fun K hK => ?_
   refine dcl (c1) ?_; refine dcl (c2) ?_; refine hK _ _ (by kernel_rfl) ?_; clear hK K; refine dw_seq ?_; refine dwk [] TLB_ok hnt fun K hK => ?_; refine dcl (hd) ?_; refine hK _ _ ?_; clear hK K; refine dw_ret ?_
   exact reta rfl
 ·rw [if_pos h0, ePr_z]
  refine calldw 0 32 [ResultVar.cell 4 78, ResultVar.tmp 5] TLB_ok Try.func40 rfl Try.ntmps40 rfl fun cx hnt hn0 => ?_
  ·skip
   refine dw_seq ?_; refine dwk [] TLB_ok hnt fun K hK => ?_; refine hK _ _ ?_; clear hK K; refine dw_seq ?_; refine dwk [] TLB_ok hnt fun K hK => ?_; refine dcl (ho) ?_; refine hK _ _ ?_; clear hK K; refine dw_seq ?_; refine dw_seq ?_; refine dwk [(15, .v (.bool true))] TLB_ok hnt fun K hK => ?_; refine And.intro (bneT h0) ?_; refine hK _ _ ?_; clear hK K; refine dw_cond (t := true) rfl ?_; rw [if_pos rfl]
   refine dw_seq ?_; refine dwk [] TLB_ok hnt fun K hK => ?_; refine hK _ _ ?_; clear hK K; refine dw_ret ?_
   exact reta rfl
end Go.Proofs.Ytdmiekaeodcehaa

namespace Go.Proofs.Ytdmiekaeodcehaa
open Go.RowKit
end Go.Proofs.Ytdmiekaeodcehaa

namespace Go.Proofs.Ytdmiekaeodcehaa
open Go.RowKit
def eBd (b : Pn.Bd) : List (Int × D) := b.map fun p => (p.1, .ag (eTm p.2))
@[simp] theorem eBd_ok (f g : Nat → Bool) (b : Pn.Bd) : D.okm f g (eBd b) = true := okm_map _ b fun p _ => by simp [D.ok, eTm_ok]
end Go.Proofs.Ytdmiekaeodcehaa

namespace Go.Proofs.Ytdmiekaeodcehaa
open Go.RowKit

namespace Pn
end Pn

end Go.Proofs.Ytdmiekaeodcehaa

namespace Go.Proofs.Ytdmiekaeodcehaa
open Go.RowKit

section
variable {P : Program} {T : List (Nat × TI)} {cx : Cx} {Fr : Nat → Prop} {m : Mp} {Im : Nat → Nat → Prop} {w w' : World} {a : Act} {σ σ' : List (Key × D)}
theorem St.drew (h : St cx Fr m Im w a σ) : St cx Fr m Im w.drew a σ := h.below0 (Below.refl _ _).drew
end

section
variable {P : Program} {T : List (Nat × TI)} {cx : Cx} {m : Mp} {Im : Nat → Nat → Prop} {w : World} {a : Act} {σ : List (Key × D)} {ops : Array Oper} {Q : Exit → Act → World → Prop}
end
end Go.Proofs.Ytdmiekaeodcehaa

namespace Go.Proofs.Ytdmiekaeodcehaa
open Go.RowKit
def ePP (p : Tm × Tm) : List D := eTm p.1 ++ eTm p.2
def ePPs (l : List (Tm × Tm)) : List (List D) := l.map ePP
theorem ePP_eq (p : Tm × Tm) : ePP p = [.sl 2 (eTys p.1.binds) none, .v (.int .i64 p.1.kind), .v (.int .i64 p.1.index), .sl 4 (eTms p.1.args) none, .sl 2 (eTys p.2.binds) none, .v (.int .i64 p.2.kind), .v (.int .i64 p.2.index), .sl 4 (eTms p.2.args) none] := by unfold ePP; rw [eTm_eq, eTm_eq]; rfl
@[simp] theorem ePPs_ok (f g : Nat → Bool) (l : List (Tm × Tm)) : D.okss f g (ePPs l) = true := D.okss_map _ l fun p _ => by simp [ePP_eq, D.oks, D.ok, eTms_ok, eTys_ok]
namespace Pn
end Pn
end Go.Proofs.Ytdmiekaeodcehaa

namespace Go.Proofs.Ytdmiekaeodcehaa
open Go.RowKit
/-! the examples -/
def mb (i : Int) : Tm := .mk [] 0 i []
theorem fit_mk {b : List Ty} {k i : Int} {a : List Tm} (h1 : -1000 ≤ i) (h2 : i ≤ 1000) (h : ∀ t ∈ a, t.Fit) : (Tm.mk b k i a).Fit := Tm.fit_iff.2 ⟨by omega, by omega, h⟩
theorem fit0 (k i : Int) (h1 : -1000 ≤ i) (h2 : i ≤ 1000) (b : List Ty) : (Tm.mk b k i []).Fit := fit_mk h1 h2 nofun
theorem fit1 {k i : Int} {b : List Ty} {t : Tm} (h1 : -1000 ≤ i) (h2 : i ≤ 1000) (h : t.Fit) : (Tm.mk b k i [t]).Fit := fit_mk h1 h2 fun u hu => by rw [List.mem_singleton] at hu; subst hu; exact h
end Go.Proofs.Ytdmiekaeodcehaa

namespace Go.Proofs.Ytdmiekaeodcehaa
open Go.RowKit

theorem of6_d (t : Tm) (h : t.full ≤ 900000) : PureC Try.prog 16 [.ag (eTm t)] (.ag (eTm t)) := of6D_d t h
theorem ePairs_take (l : List (Int × Tm)) (j : Nat) (h : j < l.length) : ePairs (l.take (j + 1)) = ePairs (l.take j) ++ [ePair l[j]] := by
  unfold ePairs; rw [List.take_succ_eq_append_getElem h, List.map_append]; rfl
set_option maxHeartbeats 1000000 in
theorem of9_d (l : List (Int × Tm)) (hl : l.length ≤ 100000) (hf : ∀ p ∈ l, p.2.full ≤ 900000) : PureC Try.prog 23 [.sl 5 (ePairs l) none] (.sl 5 (ePairs l) none) := by
 refine call_of_dw 0 27 [ResultVar.tmp 2] TL9_ok (by kernel_rfl) Try.func23 rfl Try.ntmps23 rfl (by simp) ?dwords ?dbody
 case dwords => simp [wordsOk, D.ok, D.oks, rnames, ePairs_ok]
 case dbody =>
  intro cx hnt hn0
  refine dw_seq ?_; refine dwk [] TL9_ok hnt fun K hK => ?_; refine hK _ _ ?_; clear hK K; refine dw_seq ?_; refine dwk [] TL9_ok hnt fun K hK => ?_; refine hK _ _ ?_; clear hK K; refine dw_seq (dw_seq ?_); refine dwk [] TL9_ok hnt fun K hK => ?_; refine hK _ _ ?_; clear hK K; refine dw_block ?_
  refine dw_loop (ι := Nat) (fun j => (.t 0, .sl 5 (ePairs l) none) :: (.t 4, .v (.int .i64 (j : Int))) :: (.t 3, .sl 5 (ePairs (l.take j)) (some 3)) :: (.r 3, .rw 95 5 (l.take j).length) :: []) 4 (fun j => l.length - j) 0 (VS.trans (VS.rowT (x := 3) (by rw [hnt]; decide) 95 5 rfl) VS.toA) fun j => ?_
  refine dw_seq (dw_seq ?_)
  by_cases hlt : j < l.length
  ·have ho := of6_d l[j].2 (hf _ (List.getElem_mem hlt))
   rw [eTm_eq] at ho
   have hq : (ePairs l).getD (j : Int).toNat [] = [.v (.int .i64 l[j].1), .sl 2 (eTys l[j].2.binds) none, .v (.int .i64 l[j].2.kind), .v (.int .i64 l[j].2.index), .sl 4 (eTms l[j].2.args) none] := by rw [Int.toNat_natCast, ePairs_getD l j hlt, ePair_eq]
   have hb : (0 : Int) ≤ (j : Int) ∧ (j : Int) < ((ePairs l).length : Int) := ⟨by omega, by rw [ePairs_len]; omega⟩
   refine dwk [(8, .v (.bool true))] TL9_ok hnt fun K hK => ?_; refine And.intro (dtrue (by rw [ePairs_len]; omega)) ?_; refine hK _ _ ?_; clear hK K; refine dw_cond (t := true) rfl ?_; rw [if_pos rfl]; refine dw_skip ?_; refine dw_seq (dw_block ?_); refine dwkD [(14, .q [.v (.int .i64 l[j].1), .sl 2 (eTys l[j].2.binds) none, .v (.int .i64 l[j].2.kind), .v (.int .i64 l[j].2.index), .sl 4 (eTms l[j].2.args) none]), (19, .q [.v (.int .i64 l[j].1), .sl 2 (eTys l[j].2.binds) none, .v (.int .i64 l[j].2.kind), .v (.int .i64 l[j].2.index), .sl 4 (eTms l[j].2.args) none]), (25, .sl 5 (ePairs (l.take (j + 1))) (some 3))] TL9_ok hnt fun K hK => ?_
   refine And.intro (hb) ?_; refine And.intro (VLe.of_eq (by rw [hq])) ?_; refine And.intro (hb) ?_; refine And.intro (VLe.of_eq (by rw [hq])) ?_; refine dcl (ho) ?_; refine And.intro (⟨by rw [ePairs_len], by rw [ePairs_len, List.length_take]; simp; omega⟩) ?_; refine And.intro (VLe.of_eq (by rw [ePairs_take l j hlt, ePair_eq])) ?_; refine hK _ _ (by kernel_rfl) ?_; clear hK K; refine dwk [(10, .v (.int .i64 ((j + 1 : Nat) : Int)))] TL9_ok hnt fun K hK => ?_
   refine And.intro (dintE (by rw [IntWalk.i64_in _ (by omega)]; omega)) ?_; refine hK _ _ ?_; clear hK K
   have hl2 : (l.take (j + 1)).length = j + 1 := by rw [List.length_take]; omega
   have hl3 : (ePairs (l.take j)).length = j := by rw [ePairs_len, List.length_take]; omega
   refine ⟨j + 1, by omega, ?_⟩
   rw [hl2]
   exact (by try simp only [List.length_append, List.length_take, List.length_cons, List.length_nil, Nat.zero_add, hl3]; exact VS.toA)
  ·skip
   refine dwk [(8, .v (.bool false))] TL9_ok hnt fun K hK => ?_; refine And.intro (dfalse (by rw [ePairs_len]; omega)) ?_; refine hK _ _ ?_; clear hK K; refine dw_cond (t := false) rfl ?_; rw [if_neg (by simp)]; refine dw_exit ?_; refine dw_seq ?_
   rw [List.take_of_length_le (by omega)]
   refine dwk [] TL9_ok hnt fun K hK => ?_; refine hK _ _ ?_; clear hK K; refine dw_ret ?_
   exact retv (N := 0) (.inr rfl) rfl (by repeat first | exact VLe.refl _ | exact VLe.nil _ | exact VLe.untag _ _ _ | refine VLe.ag ?_ | refine VLe.tu ?_ | refine VLeL.cons ?_ ?_ | exact VLeL.nil) trivial
end Go.Proofs.Ytdmiekaeodcehaa

namespace Go.Proofs.Ytdmiekaeodcehaa
open Go.RowKit
def TL10_3 : TI := ⟨1, false, [Value.int IntKind.i64 0], [], none, 8, 2, none, false⟩
theorem TL10_3_ok : TypOk Try.prog 3 TL10_3 := ⟨by kernel_rfl, by kernel_rfl, by kernel_rfl, by kernel_rfl, by kernel_rfl⟩
def TL10_56 : TI := ⟨1, false, [Value.slice none 0 0], [], some 95, 24, 5, none, false⟩
theorem TL10_56_ok : TypOk Try.prog 56 TL10_56 := ⟨by kernel_rfl, by kernel_rfl, by kernel_rfl, by kernel_rfl, by kernel_rfl⟩
def TL10_95 : TI := ⟨5, true, [Value.int IntKind.i64 0, Value.slice none 0 0, Value.int IntKind.i64 0, Value.int IntKind.i64 0, Value.slice none 0 0], [(0, 1, false), (1, 4, true)], none, 72, 6, none, false⟩
theorem TL10_95_ok : TypOk Try.prog 95 TL10_95 := ⟨by kernel_rfl, by kernel_rfl, by kernel_rfl, by kernel_rfl, by kernel_rfl⟩
def TL10_27 : TI := ⟨4, true, [Value.slice none 0 0, Value.int IntKind.i64 0, Value.int IntKind.i64 0, Value.slice none 0 0], [(0, 1, false), (1, 2, true), (3, 1, false)], none, 64, 6, none, false⟩
theorem TL10_27_ok : TypOk Try.prog 27 TL10_27 := ⟨by kernel_rfl, by kernel_rfl, by kernel_rfl, by kernel_rfl, by kernel_rfl⟩
def TL10_25 : TI := ⟨1, false, [Value.slice none 0 0], [], some 27, 24, 5, none, false⟩
theorem TL10_25_ok : TypOk Try.prog 25 TL10_25 := ⟨by kernel_rfl, by kernel_rfl, by kernel_rfl, by kernel_rfl, by kernel_rfl⟩
def TL10_53 : TI := ⟨1, false, [Value.slice none 0 0], [], some 105, 24, 5, none, false⟩
theorem TL10_53_ok : TypOk Try.prog 53 TL10_53 := ⟨by kernel_rfl, by kernel_rfl, by kernel_rfl, by kernel_rfl, by kernel_rfl⟩
def TL10_105 : TI := ⟨5, true, [Value.int IntKind.i64 0, Value.slice none 0 0, Value.int IntKind.i64 0, Value.int IntKind.i64 0, Value.slice none 0 0], [(0, 1, false), (1, 4, true)], none, 72, 6, none, false⟩
theorem TL10_105_ok : TypOk Try.prog 105 TL10_105 := ⟨by kernel_rfl, by kernel_rfl, by kernel_rfl, by kernel_rfl, by kernel_rfl⟩
def TL10 : List (Nat × TI) := [(3, TL10_3), (56, TL10_56), (95, TL10_95), (27, TL10_27), (25, TL10_25), (53, TL10_53), (105, TL10_105)]
theorem TL10_ok : TabOk Try.prog TL10 := ((((((((TabOk.nil _).cons TL10_105_ok).cons TL10_53_ok).cons TL10_25_ok).cons TL10_27_ok).cons TL10_95_ok).cons TL10_56_ok).cons TL10_3_ok)

theorem to6_d (t : Tm) (h : t.full ≤ 900000) : PureC Try.prog 13 [.ag (eTm t)] (.ag (eTm t)) := to6D_d t h
set_option maxHeartbeats 1000000 in
theorem to9_d (l : List (Int × Tm)) (hl : l.length ≤ 9223372036854775807) (hf : ∀ p ∈ l.take 10, p.2.full ≤ 900000) : PureC Try.prog 49 [.sl 5 (ePairs l) none] (.sl 5 (ePairs (l.take 10)) none) := by
 refine call_of_dw 0 31 [ResultVar.tmp 2] TL10_ok (by kernel_rfl) Try.func49 rfl Try.ntmps49 rfl (by simp) ?dwords ?dbody
 case dwords => simp [wordsOk, D.ok, D.oks, rnames, ePairs_ok]
 case dbody =>
  intro cx hnt hn0
  refine dw_seq ?_; refine dwk [] TL10_ok hnt fun K hK => ?_; refine hK _ _ ?_; clear hK K; refine dw_seq ?_; refine dwk [] TL10_ok hnt fun K hK => ?_; refine hK _ _ ?_; clear hK K; refine dw_seq (dw_seq ?_); refine dwk [] TL10_ok hnt fun K hK => ?_; refine hK _ _ ?_; clear hK K; refine dw_block ?_
  refine dw_loop (ι := { j : Nat // j ≤ 10 }) (fun j => (.t 0, .sl 5 (ePairs l) none) :: (.t 4, .v (.int .i64 (j.1 : Int))) :: (.t 3, .sl 5 (ePairs (l.take j.1)) (some 3)) :: (.r 3, .rw 105 5 (l.take j.1).length) :: []) 4 (fun j => l.length - j.1) ⟨0, by decide⟩ (VS.trans (VS.rowT (x := 3) (by rw [hnt]; decide) 105 5 rfl) VS.toA) fun j => ?_
  obtain ⟨j, hj⟩ := j
  dsimp only
  refine dw_seq (dw_seq ?_)
  have end_ : ¬ (j < l.length ∧ j < 10) → l.take j = l.take 10 := fun h => by
   by_cases h1 : j < 10
   ·have : l.length ≤ j := by omega
    rw [List.take_of_length_le this, List.take_of_length_le (by omega)]
   ·rw [show j = 10 by omega]
  by_cases hlt : j < l.length
  ·by_cases h10 : j < 10
   ·have hjt : l[j] ∈ l.take 10 := by
     have : j < (l.take 10).length := by rw [List.length_take]; omega
     have h2 : (l.take 10)[j] = l[j] := by simp
     rw [← h2]; exact List.getElem_mem this
    have ho := to6_d l[j].2 (hf _ hjt)
    rw [eTm_eq] at ho
    have hq : (ePairs l).getD (j : Int).toNat [] = [.v (.int .i64 l[j].1), .sl 2 (eTys l[j].2.binds) none, .v (.int .i64 l[j].2.kind), .v (.int .i64 l[j].2.index), .sl 4 (eTms l[j].2.args) none] := by rw [Int.toNat_natCast, ePairs_getD l j hlt, ePair_eq]
    have hb : (0 : Int) ≤ (j : Int) ∧ (j : Int) < ((ePairs l).length : Int) := ⟨by omega, by rw [ePairs_len]; omega⟩
    refine dwk [(8, .v (.bool true)), (11, .v (.bool true))] TL10_ok hnt fun K hK => ?_; refine And.intro (dtrue (by rw [ePairs_len]; omega)) ?_; refine And.intro (dtrue (by omega)) ?_; refine hK _ _ ?_; clear hK K; refine dw_cond (t := true) rfl ?_; rw [if_pos rfl]; refine dw_skip ?_; refine dw_seq (dw_block ?_); refine dwkD [(18, .q [.v (.int .i64 l[j].1), .sl 2 (eTys l[j].2.binds) none, .v (.int .i64 l[j].2.kind), .v (.int .i64 l[j].2.index), .sl 4 (eTms l[j].2.args) none]), (23, .q [.v (.int .i64 l[j].1), .sl 2 (eTys l[j].2.binds) none, .v (.int .i64 l[j].2.kind), .v (.int .i64 l[j].2.index), .sl 4 (eTms l[j].2.args) none]), (29, .sl 5 (ePairs (l.take (j + 1))) (some 3))] TL10_ok hnt fun K hK => ?_
    refine And.intro (hb) ?_; refine And.intro (VLe.of_eq (by rw [hq])) ?_; refine And.intro (hb) ?_; refine And.intro (VLe.of_eq (by rw [hq])) ?_; refine dcl (ho) ?_; refine And.intro (⟨by rw [ePairs_len], by rw [ePairs_len, List.length_take]; simp; omega⟩) ?_; refine And.intro (VLe.of_eq (by rw [ePairs_take l j hlt, ePair_eq])) ?_; refine hK _ _ (by kernel_rfl) ?_; clear hK K; refine dwk [(14, .v (.int .i64 ((j + 1 : Nat) : Int)))] TL10_ok hnt fun K hK => ?_
    refine And.intro (dintE (by rw [IntWalk.i64_in _ (by omega)]; omega)) ?_; refine hK _ _ ?_; clear hK K
    have hl2 : (l.take (j + 1)).length = j + 1 := by rw [List.length_take]; omega
    have hl3 : (ePairs (l.take j)).length = j := by rw [ePairs_len, List.length_take]; omega
    refine ⟨⟨j + 1, by omega⟩, by dsimp only; omega, ?_⟩
    rw [hl2]
    exact (by try simp only [List.length_append, List.length_take, List.length_cons, List.length_nil, Nat.zero_add, hl3]; exact VS.toA)
   ·skip
    refine dwk [(8, .v (.bool true)), (11, .v (.bool false))] TL10_ok hnt fun K hK => ?_; refine And.intro (dtrue (by rw [ePairs_len]; omega)) ?_; refine And.intro (dfalse (by omega)) ?_; refine hK _ _ ?_; clear hK K; refine dw_cond (t := false) rfl ?_; rw [if_neg (by simp)]; refine dw_exit ?_; refine dw_seq ?_
    rw [end_ (fun h => h10 h.2)]
    refine dwk [] TL10_ok hnt fun K hK => ?_; refine hK _ _ ?_; clear hK K; refine dw_ret ?_
    exact retv (N := 0) (.inr rfl) rfl (by repeat first | exact VLe.refl _ | exact VLe.nil _ | exact VLe.untag _ _ _ | refine VLe.ag ?_ | refine VLe.tu ?_ | refine VLeL.cons ?_ ?_ | exact VLeL.nil) trivial
  ·skip
   refine dwk [(8, .v (.bool false))] TL10_ok hnt fun K hK => ?_; refine And.intro (dfalse (by rw [ePairs_len]; omega)) ?_; refine hK _ _ ?_; clear hK K; refine dw_cond (t := false) rfl ?_; rw [if_neg (by simp)]; refine dw_exit ?_; refine dw_seq ?_
   rw [end_ (fun h => hlt h.1)]
   refine dwk [] TL10_ok hnt fun K hK => ?_; refine hK _ _ ?_; clear hK K; refine dw_ret ?_
   exact retv (N := 0) (.inr rfl) rfl (by repeat first | exact VLe.refl _ | exact VLe.nil _ | exact VLe.untag _ _ _ | refine VLe.ag ?_ | refine VLe.tu ?_ | refine VLeL.cons ?_ ?_ | exact VLeL.nil) trivial
def few9 (l : List (Int × Tm)) : Bool := (l.take 10).all fun p => fewB p.2 && lowB p.2
set_option maxHeartbeats 1000000 in
theorem few9_d (l : List (Int × Tm)) (hl : l.length ≤ 9223372036854775807) (hw : ∀ p ∈ l.take 10, fewB p.2 = true → Wide p.2) : PureC Try.prog 48 [.sl 5 (ePairs l) none] (.v (.bool (few9 l))) := by
 refine call_of_dw 0 32 [ResultVar.tmp 2] TL10_ok (by kernel_rfl) Try.func48 rfl Try.ntmps48 rfl (by simp) ?dwords ?dbody
 case dwords => simp [wordsOk, D.ok, D.oks, rnames, ePairs_ok]
 case dbody =>
  intro cx hnt hn0
  refine dw_seq ?_; refine dwk [] TL10_ok hnt fun K hK => ?_; refine hK _ _ ?_; clear hK K; refine dw_seq (dw_seq ?_); refine dwk [] TL10_ok hnt fun K hK => ?_; refine hK _ _ ?_; clear hK K; refine dw_block ?_
  refine dw_loop (ι := { j : Nat // j ≤ 10 ∧ ∀ i (h : i < l.length), i < j → (fewB l[i].2 && lowB l[i].2) = true }) (fun j => [(.t 0, .sl 5 (ePairs l) none), (.t 3, .v (.int .i64 (j.1 : Int)))]) 1 (fun j => l.length - j.1) ⟨0, by decide, fun i h1 h2 => by omega⟩ VS.toA fun j => ?_
  obtain ⟨j, hj10, hj⟩ := j
  dsimp only
  refine dw_seq (dw_seq ?_)
  have end_ : ¬ (j < l.length ∧ j < 10) → few9 l = true := fun h => by
   unfold few9
   rw [List.all_eq_true]
   intro p hp
   obtain ⟨i, hi, rfl⟩ := List.getElem_of_mem hp
   rw [List.length_take] at hi
   have := hj i (by omega) (by omega)
   simpa using this
  by_cases hlt : j < l.length
  ·by_cases h10 : j < 10
   ·have hjt : l[j] ∈ l.take 10 := by
     have : j < (l.take 10).length := by rw [List.length_take]; omega
     have h2 : (l.take 10)[j] = l[j] := by simp
     rw [← h2]; exact List.getElem_mem this
    have hF := lawFew_d [l[j].2] (by simp)
    have hq : (ePairs l).getD (j : Int).toNat [] = [.v (.int .i64 l[j].1), .sl 2 (eTys l[j].2.binds) none, .v (.int .i64 l[j].2.kind), .v (.int .i64 l[j].2.index), .sl 4 (eTms l[j].2.args) none] := by rw [Int.toNat_natCast, ePairs_getD l j hlt, ePair_eq]
    have hb : (0 : Int) ≤ (j : Int) ∧ (j : Int) < ((ePairs l).length : Int) := ⟨by omega, by rw [ePairs_len]; omega⟩
    have hs : ∀ g, VLe (.sl 4 [[.sl 2 (eTys l[j].2.binds) none, .v (.int .i64 l[j].2.kind), .v (.int .i64 l[j].2.index), .sl 4 (eTms l[j].2.args) none]] g) (.sl 4 (eTms [l[j].2]) none) := fun g => by
     rw [eTms, eTms, eTm_eq]; exact VLe.untag _ _ _
    refine dwk [(7, .v (.bool true)), (10, .v (.bool true))] TL10_ok hnt fun K hK => ?_; refine And.intro (dtrue (by rw [ePairs_len]; omega)) ?_; refine And.intro (dtrue (by omega)) ?_; refine hK _ _ ?_; clear hK K; refine dw_cond (t := true) rfl ?_; rw [if_pos rfl]; refine dw_skip ?_; refine dw_seq (dw_block (dw_seq ?_))
    cases hf : fewB l[j].2 with
    | false =>
     have hn : few9 l = false := by
      unfold few9; rw [List.all_eq_false]; exact ⟨l[j], hjt, by rw [hf]; simp⟩
     rw [hn]
     simp only [List.all_cons, List.all_nil, Bool.and_true, hf] at hF
     refine dwk [(16, .q [.v (.int .i64 l[j].1), .sl 2 (eTys l[j].2.binds) none, .v (.int .i64 l[j].2.kind), .v (.int .i64 l[j].2.index), .sl 4 (eTms l[j].2.args) none]), (19, .sl 4 (eTms [l[j].2]) none)] TL10_ok hnt fun K hK => ?_; refine And.intro (hb) ?_; refine And.intro (VLe.of_eq (by rw [hq])) ?_; refine And.intro (hs _) ?_; refine dcl (hF) ?_; refine hK _ _ ?_; clear hK K; refine dw_cond (t := true) rfl ?_
     rw [if_pos rfl]; refine dw_seq ?_; refine dwk [] TL10_ok hnt fun K hK => ?_; refine hK _ _ ?_; clear hK K; refine dw_ret ?_
     exact retv (N := 0) (.inr rfl) rfl (VLe.refl _) trivial
    | true =>
     have hL := low_d [l[j].2] (by simp) (fun t ht => by simp at ht; subst ht; exact hw _ hjt hf)
     simp only [List.all_cons, List.all_nil, Bool.and_true, hf] at hF
     simp only [lowsB, Bool.and_true] at hL
     cases hlo : lowB l[j].2 with
     | false =>
      have hn : few9 l = false := by
       unfold few9; rw [List.all_eq_false]; exact ⟨l[j], hjt, by rw [hlo]; simp⟩
      rw [hn]
      rw [hlo] at hL
      refine dwk [(16, .q [.v (.int .i64 l[j].1), .sl 2 (eTys l[j].2.binds) none, .v (.int .i64 l[j].2.kind), .v (.int .i64 l[j].2.index), .sl 4 (eTms l[j].2.args) none]), (19, .sl 4 (eTms [l[j].2]) none), (25, .q [.v (.int .i64 l[j].1), .sl 2 (eTys l[j].2.binds) none, .v (.int .i64 l[j].2.kind), .v (.int .i64 l[j].2.index), .sl 4 (eTms l[j].2.args) none]), (28, .sl 4 (eTms [l[j].2]) none)] TL10_ok hnt fun K hK => ?_
      refine And.intro (hb) ?_; refine And.intro (VLe.of_eq (by rw [hq])) ?_; refine And.intro (hs _) ?_; refine dcl (hF) ?_; refine And.intro (hb) ?_; refine And.intro (VLe.of_eq (by rw [hq])) ?_; refine And.intro (hs _) ?_; refine dcl (hL) ?_; refine hK _ _ ?_; clear hK K; refine dw_cond (t := true) rfl ?_; rw [if_pos rfl]; refine dw_seq ?_; refine dwk [] TL10_ok hnt fun K hK => ?_; refine hK _ _ ?_; clear hK K
      refine dw_ret ?_
      exact retv (N := 0) (.inr rfl) rfl (VLe.refl _) trivial
     | true =>
      rw [hlo] at hL
      refine dwk [(16, .q [.v (.int .i64 l[j].1), .sl 2 (eTys l[j].2.binds) none, .v (.int .i64 l[j].2.kind), .v (.int .i64 l[j].2.index), .sl 4 (eTms l[j].2.args) none]), (19, .sl 4 (eTms [l[j].2]) none), (25, .q [.v (.int .i64 l[j].1), .sl 2 (eTys l[j].2.binds) none, .v (.int .i64 l[j].2.kind), .v (.int .i64 l[j].2.index), .sl 4 (eTms l[j].2.args) none]), (28, .sl 4 (eTms [l[j].2]) none)] TL10_ok hnt fun K hK => ?_
      refine And.intro (hb) ?_; refine And.intro (VLe.of_eq (by rw [hq])) ?_; refine And.intro (hs _) ?_; refine dcl (hF) ?_; refine And.intro (hb) ?_; refine And.intro (VLe.of_eq (by rw [hq])) ?_; refine And.intro (hs _) ?_; refine dcl (hL) ?_; refine hK _ _ ?_; clear hK K; refine dw_cond (t := false) rfl ?_; rw [if_neg (by simp)]; refine dw_skip ?_; refine dwk [(13, .v (.int .i64 ((j + 1 : Nat) : Int)))] TL10_ok hnt fun K hK => ?_
      refine And.intro (dintE (by rw [IntWalk.i64_in _ (by omega)]; omega)) ?_; refine hK _ _ ?_; clear hK K
      refine ⟨⟨j + 1, by omega, fun i h1 h2 => ?_⟩, by dsimp only; omega, VS.toA⟩
      by_cases he : i = j
      ·subst he; rw [hf, hlo]; rfl
      ·exact hj i h1 (by omega)
   ·rw [end_ (fun h => h10 h.2)]
    refine dwk [(7, .v (.bool true)), (10, .v (.bool false))] TL10_ok hnt fun K hK => ?_; refine And.intro (dtrue (by rw [ePairs_len]; omega)) ?_; refine And.intro (dfalse (by omega)) ?_; refine hK _ _ ?_; clear hK K; refine dw_cond (t := false) rfl ?_; rw [if_neg (by simp)]; refine dw_exit ?_; refine dw_seq ?_; refine dwk [] TL10_ok hnt fun K hK => ?_; refine hK _ _ ?_; clear hK K; refine dw_ret ?_
    exact retv (N := 0) (.inr rfl) rfl (VLe.refl _) trivial
  ·rw [end_ (fun h => hlt h.1)]
   refine dwk [(7, .v (.bool false))] TL10_ok hnt fun K hK => ?_; refine And.intro (dfalse (by rw [ePairs_len]; omega)) ?_; refine hK _ _ ?_; clear hK K; refine dw_cond (t := false) rfl ?_; rw [if_neg (by simp)]; refine dw_exit ?_; refine dw_seq ?_; refine dwk [] TL10_ok hnt fun K hK => ?_; refine hK _ _ ?_; clear hK K; refine dw_ret ?_
   exact retv (N := 0) (.inr rfl) rfl (VLe.refl _) trivial
end Go.Proofs.Ytdmiekaeodcehaa

namespace Go.Proofs.Ytdmiekaeodcehaa
open Go.RowKit

end Go.Proofs.Ytdmiekaeodcehaa

namespace Go.Proofs.Ytdmiekaeodcehaa
open Go.RowKit
end Go.Proofs.Ytdmiekaeodcehaa

namespace Go.Proofs.Ytdmiekaeodcehaa
open Go.RowKit

end Go.Proofs.Ytdmiekaeodcehaa

namespace Go.Proofs.Ytdmiekaeodcehaa
open Go.RowKit
def TSR_56 : TI := ⟨1, false, [Value.slice none 0 0], [], some 95, 24, 5, none, false⟩
theorem TSR_56_ok : TypOk Try.prog 56 TSR_56 := ⟨by kernel_rfl, by kernel_rfl, by kernel_rfl, by kernel_rfl, by kernel_rfl⟩
def TSR_3 : TI := ⟨1, false, [Value.int IntKind.i64 0], [], none, 8, 2, none, false⟩
theorem TSR_3_ok : TypOk Try.prog 3 TSR_3 := ⟨by kernel_rfl, by kernel_rfl, by kernel_rfl, by kernel_rfl, by kernel_rfl⟩
def TSR_27 : TI := ⟨4, true, [Value.slice none 0 0, Value.int IntKind.i64 0, Value.int IntKind.i64 0, Value.slice none 0 0], [(0, 1, false), (1, 2, true), (3, 1, false)], none, 64, 6, none, false⟩
theorem TSR_27_ok : TypOk Try.prog 27 TSR_27 := ⟨by kernel_rfl, by kernel_rfl, by kernel_rfl, by kernel_rfl, by kernel_rfl⟩
def TSR_95 : TI := ⟨5, true, [Value.int IntKind.i64 0, Value.slice none 0 0, Value.int IntKind.i64 0, Value.int IntKind.i64 0, Value.slice none 0 0], [(0, 1, false), (1, 4, true)], none, 72, 6, none, false⟩
theorem TSR_95_ok : TypOk Try.prog 95 TSR_95 := ⟨by kernel_rfl, by kernel_rfl, by kernel_rfl, by kernel_rfl, by kernel_rfl⟩
def TSR : List (Nat × TI) := [(56, TSR_56), (3, TSR_3), (27, TSR_27), (95, TSR_95)]
theorem TSR_ok : TabOk Try.prog TSR := (((((TabOk.nil _).cons TSR_95_ok).cons TSR_27_ok).cons TSR_3_ok).cons TSR_56_ok)

theorem rsameP_d (l r : List (Int × Tm)) (hl : l.length ≤ 900000) (hr : r.length ≤ 900000) : PureC Try.prog 22 [.sl 5 (ePairs l) none, .sl 5 (ePairs r) none] (.v (.bool (decide (l = r)))) := by
 by_cases hlr : l.length = r.length
 ·skip
  refine calldw 0 42 [ResultVar.tmp 4] TSR_ok Try.func22 rfl Try.ntmps22 rfl fun cx hnt hn0 => ?_
  ·skip
   refine dw_seq ?_; refine dwk [] TSR_ok hnt fun K hK => ?_; refine hK _ _ ?_; clear hK K; refine dw_seq ?_; refine dw_seq ?_; refine dwk [(7, .v (.int .i64 (↑l.length))), (9, .v (.int .i64 (↑r.length))), (10, .v (.bool false))] TSR_ok hnt fun K hK => ?_; refine And.intro (dintE (by rw [ePairs_len])) ?_; refine And.intro (dintE (by rw [ePairs_len])) ?_; refine And.intro (bneF (by omega)) ?_; refine hK _ _ ?_; clear hK K
   refine dw_cond (t := false) rfl ?_; rw [if_neg (by simp)]; refine dw_skip ?_; refine dw_seq ?_; refine dw_seq ?_; refine dwk [] TSR_ok hnt fun K hK => ?_; refine hK _ _ ?_; clear hK K; refine dw_block ?_
   refine dw_loop (ι := { j : Nat // l.take j = r.take j }) (fun j => [(.t 0, .sl 5 (ePairs l) none), (.t 1, .sl 5 (ePairs r) none), (.t 5, .v (.int .i64 ↑j.1))]) 0 (fun j => l.length - j.1) (⟨0, rfl⟩) ((VS.toK (by omega) (by repeat first | exact trivial | refine And.intro (And.intro (by first | rfl | simp [D.ok, D.oks, D.okss, D.okm, upto, keyOk, argsT]) (by first | exact Or.inl rfl | exact Or.inr ⟨_, rfl, (by repeat first | exact VLe.refl _ | exact VLe.nil _ | exact VLe.untag _ _ _ | refine VLe.ag ?_ | refine VLe.tu ?_ | refine VLeL.cons ?_ ?_ | exact VLeL.nil), trivial⟩ | simp [get, Key.eq, argsT])) ?_))) fun j => ?_
   obtain ⟨j, hj⟩ := j
   dsimp only
   by_cases hlt : j < l.length
   ·have hjr : j < r.length := by omega
    have he := same2_d l[j].2 r[j].2
    rw [eTm_eq, eTm_eq] at he
    have h1 := List.take_add_one (l := l) (i := j)
    have h2 := List.take_add_one (l := r) (i := j)
    rw [List.getElem?_eq_getElem hlt] at h1
    rw [List.getElem?_eq_getElem hjr] at h2
    by_cases hm : l[j].1 = r[j].1
    ·by_cases hv : l[j].2 = r[j].2
     ·rw [decide_eq_true hv] at he
      have hv2 : l[j] = r[j] := Prod.ext hm hv
      refine dw_seq ?_; refine dw_seq ?_; refine dwk [(13, .v (.int .i64 (↑l.length))), (14, .v (.bool true))] TSR_ok hnt fun K hK => ?_; refine And.intro (dintE (by rw [ePairs_len])) ?_; refine And.intro auT ?_; refine hK _ _ ?_; clear hK K; refine dw_cond (t := true) rfl ?_; rw [if_pos rfl]; refine dw_skip ?_; refine dw_seq ?_; refine dw_block ?_; refine dw_seq ?_; refine dwkD [(19, .q [.v (.int .i64 l[j].1), .sl 2 (eTys l[j].2.binds) none, .v (.int .i64 l[j].2.kind), .v (.int .i64 l[j].2.index), .sl 4 (eTms l[j].2.args) none]), (24, .q [.v (.int .i64 r[j].1), .sl 2 (eTys r[j].2.binds) none, .v (.int .i64 r[j].2.kind), .v (.int .i64 r[j].2.index), .sl 4 (eTms r[j].2.args) none]), (27, .v (.bool false)), (31, .q [.v (.int .i64 l[j].1), .sl 2 (eTys l[j].2.binds) none, .v (.int .i64 l[j].2.kind), .v (.int .i64 l[j].2.index), .sl 4 (eTms l[j].2.args) none]), (36, .q [.v (.int .i64 r[j].1), .sl 2 (eTys r[j].2.binds) none, .v (.int .i64 r[j].2.kind), .v (.int .i64 r[j].2.index), .sl 4 (eTms r[j].2.args) none])] TSR_ok hnt fun K hK => ?_
      refine And.intro (elo (ePairs_len l)) ?_; refine And.intro (elv (ePairs_getD l j) (ePair_eq _)) ?_; refine And.intro (elo (ePairs_len r)) ?_; refine And.intro (elv (ePairs_getD r j) (ePair_eq _)) ?_; refine And.intro (bneF hm) ?_; refine And.intro (elo (ePairs_len l)) ?_; refine And.intro (elv (ePairs_getD l j) (ePair_eq _)) ?_; refine And.intro (elo (ePairs_len r)) ?_; refine And.intro (elv (ePairs_getD r j) (ePair_eq _)) ?_
      refine dcl (he) ?_; refine hK _ _ (by kernel_rfl) ?_; clear hK K; refine dw_cond (t := false) rfl ?_; rw [if_neg (by simp)]; refine dw_skip ?_; refine dwk [(16, .v (.int .i64 (↑(j + 1))))] TSR_ok hnt fun K hK => ?_; refine And.intro auI ?_; refine hK _ _ ?_; clear hK K
      refine ⟨⟨j + 1, by rw [h1, h2, hj, hv2]⟩, by first | omega | (dsimp only; omega), VS.toA⟩
     ·rw [decide_eq_false hv] at he
      have e : decide (l = r) = false := by rw [decide_eq_false_iff_not]; exact fun e => hv (by subst e; rfl)
      rw [e]
      refine dw_seq ?_; refine dw_seq ?_; refine dwk [(13, .v (.int .i64 (↑l.length))), (14, .v (.bool true))] TSR_ok hnt fun K hK => ?_; refine And.intro (dintE (by rw [ePairs_len])) ?_; refine And.intro auT ?_; refine hK _ _ ?_; clear hK K; refine dw_cond (t := true) rfl ?_; rw [if_pos rfl]; refine dw_skip ?_; refine dw_seq ?_; refine dw_block ?_; refine dw_seq ?_; refine dwkD [(19, .q [.v (.int .i64 l[j].1), .sl 2 (eTys l[j].2.binds) none, .v (.int .i64 l[j].2.kind), .v (.int .i64 l[j].2.index), .sl 4 (eTms l[j].2.args) none]), (24, .q [.v (.int .i64 r[j].1), .sl 2 (eTys r[j].2.binds) none, .v (.int .i64 r[j].2.kind), .v (.int .i64 r[j].2.index), .sl 4 (eTms r[j].2.args) none]), (27, .v (.bool false)), (31, .q [.v (.int .i64 l[j].1), .sl 2 (eTys l[j].2.binds) none, .v (.int .i64 l[j].2.kind), .v (.int .i64 l[j].2.index), .sl 4 (eTms l[j].2.args) none]), (36, .q [.v (.int .i64 r[j].1), .sl 2 (eTys r[j].2.binds) none, .v (.int .i64 r[j].2.kind), .v (.int .i64 r[j].2.index), .sl 4 (eTms r[j].2.args) none])] TSR_ok hnt fun K hK => ?_
      refine And.intro (elo (ePairs_len l)) ?_; refine And.intro (elv (ePairs_getD l j) (ePair_eq _)) ?_; refine And.intro (elo (ePairs_len r)) ?_; refine And.intro (elv (ePairs_getD r j) (ePair_eq _)) ?_; refine And.intro (bneF hm) ?_; refine And.intro (elo (ePairs_len l)) ?_; refine And.intro (elv (ePairs_getD l j) (ePair_eq _)) ?_; refine And.intro (elo (ePairs_len r)) ?_; refine And.intro (elv (ePairs_getD r j) (ePair_eq _)) ?_
      refine dcl (he) ?_; refine hK _ _ (by kernel_rfl) ?_; clear hK K; refine dw_cond (t := true) rfl ?_; rw [if_pos rfl]; refine dw_seq ?_; refine dwk [] TSR_ok hnt fun K hK => ?_; refine hK _ _ ?_; clear hK K; refine dw_ret ?_
      exact reta rfl
    ·have e : decide (l = r) = false := by rw [decide_eq_false_iff_not]; exact fun e => hm (by subst e; rfl)
     rw [e]
     refine dw_seq ?_; refine dw_seq ?_; refine dwk [(13, .v (.int .i64 (↑l.length))), (14, .v (.bool true))] TSR_ok hnt fun K hK => ?_; refine And.intro (dintE (by rw [ePairs_len])) ?_; refine And.intro auT ?_; refine hK _ _ ?_; clear hK K; refine dw_cond (t := true) rfl ?_; rw [if_pos rfl]; refine dw_skip ?_; refine dw_seq ?_; refine dw_block ?_; refine dw_seq ?_; refine dwkD [(19, .q [.v (.int .i64 l[j].1), .sl 2 (eTys l[j].2.binds) none, .v (.int .i64 l[j].2.kind), .v (.int .i64 l[j].2.index), .sl 4 (eTms l[j].2.args) none]), (24, .q [.v (.int .i64 r[j].1), .sl 2 (eTys r[j].2.binds) none, .v (.int .i64 r[j].2.kind), .v (.int .i64 r[j].2.index), .sl 4 (eTms r[j].2.args) none]), (27, .v (.bool true))] TSR_ok hnt fun K hK => ?_
     refine And.intro (elo (ePairs_len l)) ?_; refine And.intro (elv (ePairs_getD l j) (ePair_eq _)) ?_; refine And.intro (elo (ePairs_len r)) ?_; refine And.intro (elv (ePairs_getD r j) (ePair_eq _)) ?_; refine And.intro (bneT hm) ?_; refine hK _ _ (by kernel_rfl) ?_; clear hK K; refine dw_cond (t := true) rfl ?_; rw [if_pos rfl]; refine dw_seq ?_; refine dwk [] TSR_ok hnt fun K hK => ?_; refine hK _ _ ?_; clear hK K
     refine dw_ret ?_
     exact reta rfl
   ·rw [List.take_of_length_le (by omega), List.take_of_length_le (by omega)] at hj
    rw [decide_eq_true hj]
    refine dw_seq ?_; refine dw_seq ?_; refine dwk [(13, .v (.int .i64 (↑l.length))), (14, .v (.bool false))] TSR_ok hnt fun K hK => ?_; refine And.intro (dintE (by rw [ePairs_len])) ?_; refine And.intro auF ?_; refine hK _ _ ?_; clear hK K; refine dw_cond (t := false) rfl ?_; rw [if_neg (by simp)]; refine dw_exit ?_; refine dw_seq ?_; refine dwk [] TSR_ok hnt fun K hK => ?_; refine hK _ _ ?_; clear hK K
    refine dw_ret ?_
    exact reta rfl
 ·have e : decide (l = r) = false := by rw [decide_eq_false_iff_not]; exact fun e => hlr (by rw [e])
  rw [e]
  refine calldw 0 42 [ResultVar.tmp 4] TSR_ok Try.func22 rfl Try.ntmps22 rfl fun cx hnt hn0 => ?_
  ·skip
   refine dw_seq ?_; refine dwk [] TSR_ok hnt fun K hK => ?_; refine hK _ _ ?_; clear hK K; refine dw_seq ?_; refine dw_seq ?_; refine dwk [(7, .v (.int .i64 (↑l.length))), (9, .v (.int .i64 (↑r.length))), (10, .v (.bool true))] TSR_ok hnt fun K hK => ?_; refine And.intro (dintE (by rw [ePairs_len])) ?_; refine And.intro (dintE (by rw [ePairs_len])) ?_; refine And.intro (bneT (by omega)) ?_; refine hK _ _ ?_; clear hK K
   refine dw_cond (t := true) rfl ?_; rw [if_pos rfl]; refine dw_seq ?_; refine dwk [] TSR_ok hnt fun K hK => ?_; refine hK _ _ ?_; clear hK K; refine dw_ret ?_
   exact reta rfl
end Go.Proofs.Ytdmiekaeodcehaa

namespace Go.Proofs.Ytdmiekaeodcehaa
open Go.RowKit
def TLS_3 : TI := ⟨1, false, [Value.int IntKind.i64 0], [], none, 8, 2, none, false⟩
theorem TLS_3_ok : TypOk Try.prog 3 TLS_3 := ⟨by kernel_rfl, by kernel_rfl, by kernel_rfl, by kernel_rfl, by kernel_rfl⟩
def TLS_56 : TI := ⟨1, false, [Value.slice none 0 0], [], some 95, 24, 5, none, false⟩
theorem TLS_56_ok : TypOk Try.prog 56 TLS_56 := ⟨by kernel_rfl, by kernel_rfl, by kernel_rfl, by kernel_rfl, by kernel_rfl⟩
def TLS_34 : TI := ⟨4, true, [Value.slice none 0 0, Value.int IntKind.i64 0, Value.int IntKind.i64 0, Value.slice none 0 0], [(0, 1, false), (1, 2, true), (3, 1, false)], none, 64, 6, none, false⟩
theorem TLS_34_ok : TypOk Try.prog 34 TLS_34 := ⟨by kernel_rfl, by kernel_rfl, by kernel_rfl, by kernel_rfl, by kernel_rfl⟩
def TLS_30 : TI := ⟨1, false, [Value.slice none 0 0], [], some 100, 24, 5, none, false⟩
theorem TLS_30_ok : TypOk Try.prog 30 TLS_30 := ⟨by kernel_rfl, by kernel_rfl, by kernel_rfl, by kernel_rfl, by kernel_rfl⟩
def TLS_78 : TI := ⟨9, true, [Value.slice none 0 0, Value.int IntKind.i64 0, Value.int IntKind.i64 0, Value.slice none 0 0, Value.slice none 0 0, Value.int IntKind.i64 0, Value.int IntKind.i64 0, Value.slice none 0 0, Value.slice none 0 0], [(0, 4, true), (4, 4, true), (8, 1, false)], none, 152, 6, none, false⟩
theorem TLS_78_ok : TypOk Try.prog 78 TLS_78 := ⟨by kernel_rfl, by kernel_rfl, by kernel_rfl, by kernel_rfl, by kernel_rfl⟩
def TLS_32 : TI := ⟨1, false, [Value.slice none 0 0], [], some 34, 24, 5, none, false⟩
theorem TLS_32_ok : TypOk Try.prog 32 TLS_32 := ⟨by kernel_rfl, by kernel_rfl, by kernel_rfl, by kernel_rfl, by kernel_rfl⟩
def TLS_100 : TI := ⟨2, true, [Value.slice none 0 0, Value.int IntKind.i64 0], [(0, 1, false), (1, 1, false)], none, 32, 6, none, false⟩
theorem TLS_100_ok : TypOk Try.prog 100 TLS_100 := ⟨by kernel_rfl, by kernel_rfl, by kernel_rfl, by kernel_rfl, by kernel_rfl⟩
def TLS_31 : TI := ⟨2, true, [Value.int IntKind.i64 0, Value.int IntKind.i64 0], [(0, 1, false), (1, 1, false)], none, 16, 6, none, true⟩
theorem TLS_31_ok : TypOk Try.prog 31 TLS_31 := ⟨by kernel_rfl, by kernel_rfl, by kernel_rfl, by kernel_rfl, by kernel_rfl⟩
def TLS_22 : TI := ⟨1, false, [Value.slice none 0 0], [], some 146, 24, 5, none, false⟩
theorem TLS_22_ok : TypOk Try.prog 22 TLS_22 := ⟨by kernel_rfl, by kernel_rfl, by kernel_rfl, by kernel_rfl, by kernel_rfl⟩
def TLS_95 : TI := ⟨5, true, [Value.int IntKind.i64 0, Value.slice none 0 0, Value.int IntKind.i64 0, Value.int IntKind.i64 0, Value.slice none 0 0], [(0, 1, false), (1, 4, true)], none, 72, 6, none, false⟩
theorem TLS_95_ok : TypOk Try.prog 95 TLS_95 := ⟨by kernel_rfl, by kernel_rfl, by kernel_rfl, by kernel_rfl, by kernel_rfl⟩
def TLS_53 : TI := ⟨1, false, [Value.slice none 0 0], [], some 105, 24, 5, none, false⟩
theorem TLS_53_ok : TypOk Try.prog 53 TLS_53 := ⟨by kernel_rfl, by kernel_rfl, by kernel_rfl, by kernel_rfl, by kernel_rfl⟩
def TLS_35 : TI := ⟨1, false, [Value.int IntKind.i64 0], [], none, 8, 2, none, false⟩
theorem TLS_35_ok : TypOk Try.prog 35 TLS_35 := ⟨by kernel_rfl, by kernel_rfl, by kernel_rfl, by kernel_rfl, by kernel_rfl⟩
def TLS_75 : TI := ⟨3, true, [Value.int IntKind.i64 0, Value.slice none 0 0, Value.slice none 0 0], [(0, 1, false), (1, 1, false), (2, 1, false)], none, 56, 6, none, false⟩
theorem TLS_75_ok : TypOk Try.prog 75 TLS_75 := ⟨by kernel_rfl, by kernel_rfl, by kernel_rfl, by kernel_rfl, by kernel_rfl⟩
def TLS_27 : TI := ⟨4, true, [Value.slice none 0 0, Value.int IntKind.i64 0, Value.int IntKind.i64 0, Value.slice none 0 0], [(0, 1, false), (1, 2, true), (3, 1, false)], none, 64, 6, none, false⟩
theorem TLS_27_ok : TypOk Try.prog 27 TLS_27 := ⟨by kernel_rfl, by kernel_rfl, by kernel_rfl, by kernel_rfl, by kernel_rfl⟩
def TLS_105 : TI := ⟨5, true, [Value.int IntKind.i64 0, Value.slice none 0 0, Value.int IntKind.i64 0, Value.int IntKind.i64 0, Value.slice none 0 0], [(0, 1, false), (1, 4, true)], none, 72, 6, none, false⟩
theorem TLS_105_ok : TypOk Try.prog 105 TLS_105 := ⟨by kernel_rfl, by kernel_rfl, by kernel_rfl, by kernel_rfl, by kernel_rfl⟩
def TLS_146 : TI := ⟨2, true, [Value.slice none 0 0, Value.int IntKind.i64 0], [(0, 1, false), (1, 1, false)], none, 32, 6, none, false⟩
theorem TLS_146_ok : TypOk Try.prog 146 TLS_146 := ⟨by kernel_rfl, by kernel_rfl, by kernel_rfl, by kernel_rfl, by kernel_rfl⟩
def TLS : List (Nat × TI) := [(3, TLS_3), (56, TLS_56), (34, TLS_34), (30, TLS_30), (78, TLS_78), (32, TLS_32), (100, TLS_100), (31, TLS_31), (22, TLS_22), (95, TLS_95), (53, TLS_53), (35, TLS_35), (75, TLS_75), (27, TLS_27), (105, TLS_105), (146, TLS_146)]
theorem TLS_ok : TabOk Try.prog TLS := (((((((((((((((((TabOk.nil _).cons TLS_146_ok).cons TLS_105_ok).cons TLS_27_ok).cons TLS_75_ok).cons TLS_35_ok).cons TLS_53_ok).cons TLS_95_ok).cons TLS_22_ok).cons TLS_31_ok).cons TLS_100_ok).cons TLS_32_ok).cons TLS_78_ok).cons TLS_30_ok).cons TLS_34_ok).cons TLS_56_ok).cons TLS_3_ok)

theorem rright_d (l : List (Int × Tm)) (hl : l.length ≤ 1000000) : PureC Try.prog 51 [.sl 5 (ePairs l) none] (.v (.bool (Sb.right l))) := by
 refine calldw 0 22 [ResultVar.tmp 2] TLS_ok Try.func51 rfl Try.ntmps51 rfl fun cx hnt hn0 => ?_
 ·skip
  refine dw_seq ?_; refine dwk [] TLS_ok hnt fun K hK => ?_; refine hK _ _ ?_; clear hK K; refine dw_seq ?_; refine dw_seq ?_; refine dwk [] TLS_ok hnt fun K hK => ?_; refine hK _ _ ?_; clear hK K; refine dw_block ?_
  refine dw_loop (ι := { j : Nat // ∀ i (_ : 0 < i) (h2 : i < l.length), i < j + 1 → (l[i - 1]'(by omega)).1 < l[i].1 }) (fun j => [(.t 0, .sl 5 (ePairs l) none), (.t 3, .v (.int .i64 (↑j.1 + 1)))]) 2 (fun j => l.length - j.1) (⟨0, fun i h1 h2 h3 => by omega⟩) (VS.toA) fun j => ?_
  obtain ⟨j, hj⟩ := j
  dsimp only
  by_cases hlt : j + 1 < l.length
  ·have hg2 : (ePairs l).getD ((j : Int) + 1).toNat [] = [.v (.int .i64 l[j + 1].1), .sl 2 (eTys l[j + 1].2.binds) none, .v (.int .i64 l[j + 1].2.kind), .v (.int .i64 l[j + 1].2.index), .sl 4 (eTms l[j + 1].2.args) none] := by rw [show ((j : Int) + 1).toNat = j + 1 by omega, ePairs_getD l (j + 1) hlt, ePair_eq]
   refine dw_seq ?_; refine dw_seq ?_; refine dwk [(6, .v (.int .i64 (↑l.length))), (7, .v (.bool true))] TLS_ok hnt fun K hK => ?_; refine And.intro (dintE (by rw [ePairs_len])) ?_; refine And.intro auT ?_; refine hK _ _ ?_; clear hK K; refine dw_cond (t := true) rfl ?_; rw [if_pos rfl]
   by_cases hc : l[j].1 < l[j + 1].1
   ·skip
    refine dw_skip ?_; refine dw_seq ?_; refine dw_block ?_; refine dw_seq ?_; refine dwkD [(12, .v (.int .i64 (↑j))), (13, .q [.v (.int .i64 l[j].1), .sl 2 (eTys l[j].2.binds) none, .v (.int .i64 l[j].2.kind), .v (.int .i64 l[j].2.index), .sl 4 (eTms l[j].2.args) none]), (18, .q [.v (.int .i64 l[j + 1].1), .sl 2 (eTys l[j + 1].2.binds) none, .v (.int .i64 l[j + 1].2.kind), .v (.int .i64 l[j + 1].2.index), .sl 4 (eTms l[j + 1].2.args) none]), (21, .v (.bool false))] TLS_ok hnt fun K hK => ?_
    refine And.intro auI ?_; refine And.intro (elo (ePairs_len l)) ?_; refine And.intro (elv (ePairs_getD l j) (ePair_eq _)) ?_; refine And.intro (⟨by omega, by rw [ePairs_len]; omega⟩) ?_; refine And.intro (VLe.of_eq (by rw [hg2])) ?_; refine And.intro auF ?_; refine hK _ _ (by kernel_rfl) ?_; clear hK K; refine dw_cond (t := false) rfl ?_; rw [if_neg (by simp)]; refine dw_skip ?_; refine dwk [(9, .v (.int .i64 ((↑(j + 1) + 1))))] TLS_ok hnt fun K hK => ?_
    refine And.intro auI ?_; refine hK _ _ ?_; clear hK K
    refine ⟨⟨j + 1, fun i h1 h2 h3 => if he : i = j + 1 then by subst he; simpa using hc else hj i h1 h2 (by omega)⟩, by first | omega | (dsimp only; omega), VS.toA⟩
   ·have hr : Sb.right l = false := not_right (i := j + 1) (by omega) hlt (by simpa using hc)
    rw [hr]
    refine dw_skip ?_; refine dw_seq ?_; refine dw_block ?_; refine dw_seq ?_; refine dwkD [(12, .v (.int .i64 (↑j))), (13, .q [.v (.int .i64 l[j].1), .sl 2 (eTys l[j].2.binds) none, .v (.int .i64 l[j].2.kind), .v (.int .i64 l[j].2.index), .sl 4 (eTms l[j].2.args) none]), (18, .q [.v (.int .i64 l[j + 1].1), .sl 2 (eTys l[j + 1].2.binds) none, .v (.int .i64 l[j + 1].2.kind), .v (.int .i64 l[j + 1].2.index), .sl 4 (eTms l[j + 1].2.args) none]), (21, .v (.bool true))] TLS_ok hnt fun K hK => ?_
    refine And.intro auI ?_; refine And.intro (elo (ePairs_len l)) ?_; refine And.intro (elv (ePairs_getD l j) (ePair_eq _)) ?_; refine And.intro (⟨by omega, by rw [ePairs_len]; omega⟩) ?_; refine And.intro (VLe.of_eq (by rw [hg2])) ?_; refine And.intro auT ?_; refine hK _ _ (by kernel_rfl) ?_; clear hK K; refine dw_cond (t := true) rfl ?_; rw [if_pos rfl]; refine dw_seq ?_; refine dwk [] TLS_ok hnt fun K hK => ?_
    refine hK _ _ ?_; clear hK K; refine dw_ret ?_
    exact reta rfl
  ·have hr : Sb.right l = true := right_of fun i h1 h2 => hj i h1 h2 (by omega)
   rw [hr]
   refine dw_seq ?_; refine dw_seq ?_; refine dwk [(6, .v (.int .i64 (↑l.length))), (7, .v (.bool false))] TLS_ok hnt fun K hK => ?_; refine And.intro (dintE (by rw [ePairs_len])) ?_; refine And.intro auF ?_; refine hK _ _ ?_; clear hK K; refine dw_cond (t := false) rfl ?_; rw [if_neg (by simp)]; refine dw_exit ?_; refine dw_seq ?_; refine dwk [] TLS_ok hnt fun K hK => ?_; refine hK _ _ ?_; clear hK K
   refine dw_ret ?_
   exact reta rfl
/-! the example -/
namespace Li
def kA : Ty := .mk [] 0
def kX : Tm := .mk [] 2 0 []
def kC : Tm := .mk [] 1 0 [kX]
def kB : Tm := .mk [] 0 0 []
def kP : Pr := ⟨.mk [kA] 1 0 [.mk [] 2 0 [kB]], .mk [kA] 2 0 [kB], [.mk [kA] 0]⟩
theorem kSort : sortU [0, 0] = [0] := (sortU_twice [0]).trans (by unfold sortU; rw [List.mergeSort_singleton]; rfl)
theorem kMay : may kC kX [kA] [kA] = 0 := by unfold may; rw [show metasL [kC, kX] = [0, 0] by decide +kernel, kSort]; decide +kernel
theorem kOver : over ⟨kC, kX, [kA]⟩ [kA] = (⟨.mk [] 1 0 [.mk [] 2 0 [kB]], .mk [] 2 0 [kB], [.mk [kA] 0]⟩, 0) := by unfold over; rw [if_neg (fun h => h kMay)]; kernel_rfl
theorem kClosed : closed ⟨kC, kX, [kA]⟩ [kA] = (kP, 0) := by unfold closed; rw [kOver]; kernel_rfl
end Li
theorem lexample_d : PureC Try.prog 40 [.ag [.sl 2 [] none, .v (.int .i64 1), .v (.int .i64 0), .sl 4 (eTms [Li.kX]) none, .sl 2 [] none, .v (.int .i64 2), .v (.int .i64 0), .sl 4 [] none, .sl 2 (eTys [Li.kA]) none], .sl 2 (eTys [Li.kA]) none] (.tu [.ag [.sl 2 (eTys [Li.kA]) none, .v (.int .i64 1), .v (.int .i64 0), .sl 4 (eTms [.mk [] 2 0 [Li.kB]]) none, .sl 2 (eTys [Li.kA]) none, .v (.int .i64 2), .v (.int .i64 0), .sl 4 (eTms [Li.kB]) none, .sl 2 (eTys [.mk [Li.kA] 0]) none], .v (.int .i64 0)]) := by
  have h := lclosed_d Li.kC Li.kX [Li.kA] [Li.kA] ⟨by decide, fit1 (by decide) (by decide) (fit0 _ _ (by decide) (by decide) _)⟩ ⟨by decide, fit0 _ _ (by decide) (by decide) _⟩ (by decide) (by decide) (by decide)
    (fun _ => ⟨⟨by decide, fit1 (by decide) (by decide) (fit1 (by decide) (by decide) (fit0 _ _ (by decide) (by decide) _)), fun _ => by decide⟩, ⟨by decide, fit1 (by decide) (by decide) (fit0 _ _ (by decide) (by decide) _), fun _ => by decide⟩, by decide⟩)
    (fun _ p hp => by
      rw [Li.kOver] at hp
      subst hp
      exact ⟨⟨by decide, fit1 (by decide) (by decide) (fit1 (by decide) (by decide) (fit0 _ _ (by decide) (by decide) _))⟩, ⟨by decide, fit1 (by decide) (by decide) (fit0 _ _ (by decide) (by decide) _)⟩, by decide⟩)
  rw [Li.kClosed] at h
  exact h
theorem kOf0_d : PureC Try.prog 54 [.v (.int .i64 0), .v (.slice none 0 0)] (.ag [.sl 2 [] none, .v (.int .i64 0)]) := CallC.vle (kOf_d 0 [] (by simp [Ty.sizes])) (.cons (VLe.refl _) (.cons (VLe.nil _) .nil)) (VLe.refl _)
set_option maxHeartbeats 2000000 in
theorem known22_d : PureC Try.prog 35 [] (.v (.bool true)) := by
 have ho := kOf0_d
 have hc := lexample_d
 refine calldw 0 78 [ResultVar.tmp 0] TLS_ok Try.func35 rfl Try.ntmps35 rfl fun cx hnt hn0 => ?_
 ·skip
  refine dw_seq ?_; refine dwk [] TLS_ok hnt fun K hK => ?_; refine hK _ _ ?_; clear hK K; refine dw_seq ?_; refine dwk [] TLS_ok hnt fun K hK => ?_; refine dcl (ho) ?_; refine hK _ _ ?_; clear hK K; refine dw_seq ?_; refine dwk [] TLS_ok hnt fun K hK => ?_; refine hK _ _ ?_; clear hK K; refine dw_seq ?_; refine dwk [(10, .ag (eTm Li.kX)), (11, .sl 4 (eTms [Li.kX]) none), (14, .ag (eTy Li.kA)), (15, .sl 2 (eTys [Li.kA]) none)] TLS_ok hnt fun K hK => ?_
  refine And.intro (auV) ?_; refine And.intro (VLe.untag _ _ _) ?_; refine And.intro (auV) ?_; refine And.intro (VLe.untag _ _ _) ?_; refine hK _ _ ?_; clear hK K; refine dw_seq ?_; refine dwk [(18, .ag [.sl 2 [] none, .v (.int .i64 1), .v (.int .i64 0), .sl 4 (eTms [Li.kX]) none, .sl 2 [] none, .v (.int .i64 2), .v (.int .i64 0), .sl 4 [] none, .sl 2 (eTys [Li.kA]) none]), (19, .ag (eTy Li.kA)), (20, .sl 2 (eTys [Li.kA]) none)] TLS_ok hnt fun K hK => ?_
  refine And.intro (auV) ?_; refine And.intro (auV) ?_; refine And.intro (VLe.untag _ _ _) ?_; refine dcl (hc) ?_; refine hK _ _ ?_; clear hK K; refine dw_seq ?_; refine dwk [(25, .v (.bool true)), (29, .v (.int .i64 (1))), (30, .v (.bool true)), (35, .q [.sl 2 (eTys [Li.kA]) none, .v (.int .i64 0)]), (38, .v (.int .i64 (1))), (39, .v (.bool true)), (45, .v (.int .i64 (1))), (46, .v (.bool true)), (52, .v (.int .i64 (1))), (53, .v (.bool true)), (59, .q [.sl 2 [] none, .v (.int .i64 2), .v (.int .i64 0), .sl 4 (eTms [Li.kB]) none]), (62, .v (.int .i64 (1))), (63, .v (.bool true)), (69, .q [.sl 2 [] none, .v (.int .i64 2), .v (.int .i64 0), .sl 4 (eTms [Li.kB]) none]), (72, .q [.sl 2 [] none, .v (.int .i64 0), .v (.int .i64 0), .sl 4 [] none])] TLS_ok hnt fun K hK => ?_
  refine And.intro (VLe.refl _) ?_; refine And.intro (dintE (by rfl)) ?_; refine And.intro (VLe.refl _) ?_; refine And.intro (⟨by decide, by decide⟩) ?_; refine And.intro (VLe.of_eq rfl) ?_; refine And.intro (dintE (by rfl)) ?_; refine And.intro (VLe.refl _) ?_; refine And.intro (dintE (by rfl)) ?_; refine And.intro (VLe.refl _) ?_; refine And.intro (dintE (by rfl)) ?_; refine And.intro (VLe.refl _) ?_
  refine And.intro (⟨by decide, by decide⟩) ?_; refine And.intro (VLe.of_eq rfl) ?_; refine And.intro (dintE (by rfl)) ?_; refine And.intro (VLe.refl _) ?_; refine And.intro (⟨by decide, by decide⟩) ?_; refine And.intro (VLe.of_eq rfl) ?_; refine And.intro (⟨by decide, by decide⟩) ?_; refine And.intro (VLe.of_eq rfl) ?_; refine hK _ _ ?_; clear hK K; refine dw_ret ?_
  exact reta rfl
/-! the law -/
theorem sizes_le22 {l : List Ty} {n : Nat} (h : ∀ t ∈ l, t.size ≤ n) : Ty.sizes l ≤ l.length * n := by
  induction l with
  | nil => simp [Ty.sizes]
  | cons t l ih =>
    have h1 := h t (by simp)
    have h2 := ih fun u hu => h u (by simp [hu])
    rw [Ty.sizes, List.length_cons, Nat.add_mul]; omega
theorem cls_right (l : List (Int × Tm)) (B : List Ty) : Sb.right (Li.cls l B) = Sb.right l := by
  unfold Sb.right Li.cls
  congr 1
  rw [List.pairwise_map]
theorem right_self {l : List (Int × Tm)} (h : Sb.right l = true) : So.ss l = l := by
  unfold Sb.right at h
  rw [decide_eq_true_eq] at h
  exact So.ss_self (h.imp fun h => by omega)
set_option maxHeartbeats 4000000 in
theorem liftSubsts_d (l : List (Int × Tm)) (B0 : List Ty) (hl : l.length ≤ 9223372036854775807) (hB0 : B0.length ≤ 9223372036854775807) (hfl : ∀ p ∈ l, p.2.Fit) : PureC Try.prog 9 [.sl 5 (ePairs l) none, .sl 2 (eTys B0) none] (.v (.bool true)) := by
 have hk := known22_d
 have hFl := few9_d l hl fun p _ h => wide_full _ (by have := fewB_full h; omega)
 obtain ⟨B, hBe⟩ : ∃ B, B0.take (min B0.length 8) = B := ⟨_, rfl⟩
 have hBl : B.length ≤ 8 := by rw [← hBe, List.length_take]; omega
 have e15 : (eTys B0).take (min B0.length 8) = eTys B := by rw [← hBe, eTys_map, eTys_map, List.map_take]
 have hSm := small_d 0 [] [] B (by simp) (by simp) (by omega)
 rw [List.append_nil, List.nil_append] at hSm
 cases hf : few9 l with
 | false =>
  rw [hf] at hFl
  refine calldw 0 83 [ResultVar.tmp 4] TLS_ok Try.func9 rfl Try.ntmps9 rfl fun cx hnt hn0 => ?_
  ·skip
   refine dw_seq ?_; refine dwk [] TLS_ok hnt fun K hK => ?_; refine hK _ _ ?_; clear hK K; refine dw_seq ?_; refine dwk [(13, .v (.int .i64 (↑B0.length))), (14, .v (.int .i64 (↑(min B0.length 8)))), (15, .sl 2 (eTys B) none)] TLS_ok hnt fun K hK => ?_; refine And.intro (dintE (by rw [eTys_len])) ?_; refine And.intro (dintE (by omega)) ?_; refine And.intro (⟨by omega, by rw [eTys_len]; omega⟩) ?_; refine And.intro (VLe.of_eq (congrArg (D.sl 2 · none) e15)) ?_
   refine hK _ _ ?_; clear hK K; refine dw_seq ?_; refine dw_seq ?_; refine dwk [] TLS_ok hnt fun K hK => ?_; refine dcl (hFl) ?_; refine hK _ _ ?_; clear hK K; refine dw_cond (t := true) rfl ?_; rw [if_pos rfl]; refine dw_seq ?_; refine dwk [] TLS_ok hnt fun K hK => ?_; refine dcl (hk) ?_; refine hK _ _ ?_; clear hK K; refine dw_ret ?_
   exact reta rfl
 | true =>
 cases hs : B.all few4B with
 | false =>
  rw [hf] at hFl
  rw [hs] at hSm
  refine calldw 0 83 [ResultVar.tmp 4] TLS_ok Try.func9 rfl Try.ntmps9 rfl fun cx hnt hn0 => ?_
  ·skip
   refine dw_seq ?_; refine dwk [] TLS_ok hnt fun K hK => ?_; refine hK _ _ ?_; clear hK K; refine dw_seq ?_; refine dwk [(13, .v (.int .i64 (↑B0.length))), (14, .v (.int .i64 (↑(min B0.length 8)))), (15, .sl 2 (eTys B) none)] TLS_ok hnt fun K hK => ?_; refine And.intro (dintE (by rw [eTys_len])) ?_; refine And.intro (dintE (by omega)) ?_; refine And.intro (⟨by omega, by rw [eTys_len]; omega⟩) ?_; refine And.intro (VLe.of_eq (congrArg (D.sl 2 · none) e15)) ?_
   refine hK _ _ ?_; clear hK K; refine dw_seq ?_; refine dw_seq ?_; refine dwk [(20, .ag [.v (.int .i64 0), .sl 2 (eTys []) none, .sl 2 (eTys []) none])] TLS_ok hnt fun K hK => ?_; refine dcl (hFl) ?_; refine And.intro (auV) ?_; refine dcl (hSm) ?_; refine hK _ _ ?_; clear hK K; refine dw_cond (t := true) rfl ?_; rw [if_pos rfl]; refine dw_seq ?_; refine dwk [] TLS_ok hnt fun K hK => ?_; refine dcl (hk) ?_
   refine hK _ _ ?_; clear hK K; refine dw_ret ?_
   exact reta rfl
 | true =>
 rw [hf] at hFl
 rw [hs] at hSm
 have hsm : ∀ b ∈ B, b.size ≤ 60 := fun b hb => fewT60 (List.all_eq_true.1 hs b hb)
 have hsz : Ty.sizes B ≤ 480 := by have := sizes_le22 hsm; omega
 have hsf : ∀ p ∈ l.take 10, p.2.full ≤ 150 ∧ p.2.Fit := fun p hp => by
  have := List.all_eq_true.1 hf p hp
  simp only [Bool.and_eq_true] at this
  exact ⟨(fewB_full this.1).1, hfl p (List.mem_of_mem_take hp)⟩
 have hTo := to9_d l hl fun p hp => by have := (hsf p hp).1; omega
 obtain ⟨s, hse⟩ : ∃ s, l.take 10 = s := ⟨_, rfl⟩
 have hsl : s.length ≤ 10 := by rw [← hse, List.length_take]; omega
 rw [hse] at hTo hsf
 have hOf := of9_d s (by omega) fun p hp => by have := (hsf p hp).1; omega
 have hTy := toTys_d B (by omega)
 have hSu := lsubst_d s B (by omega) fun p hp => ⟨by have := (hsf p hp).1; omega, by
  have h := (hsf p hp).2
  obtain ⟨m, t⟩ := p
  obtain ⟨b, k, i, a⟩ := t
  exact Tm.fit_iff.2 (Tm.fit_iff.1 h)⟩
 have hRr := rright_d s (by omega)
 have hcl := cls_len s B
 cases hr : Sb.right s with
 | false =>
  rw [hr] at hSu hRr
  rw [if_neg (by simp)] at hSu
  refine calldw 0 83 [ResultVar.tmp 4] TLS_ok Try.func9 rfl Try.ntmps9 rfl fun cx hnt hn0 => ?_
  ·skip
   refine dw_seq ?_; refine dwk [] TLS_ok hnt fun K hK => ?_; refine hK _ _ ?_; clear hK K; refine dw_seq ?_; refine dwk [(13, .v (.int .i64 (↑B0.length))), (14, .v (.int .i64 (↑(min B0.length 8)))), (15, .sl 2 (eTys B) none)] TLS_ok hnt fun K hK => ?_; refine And.intro (dintE (by rw [eTys_len])) ?_; refine And.intro (dintE (by omega)) ?_; refine And.intro (⟨by omega, by rw [eTys_len]; omega⟩) ?_; refine And.intro (VLe.of_eq (congrArg (D.sl 2 · none) e15)) ?_
   refine hK _ _ ?_; clear hK K; refine dw_seq ?_; refine dw_seq ?_; refine dwk [(20, .ag [.v (.int .i64 0), .sl 2 (eTys []) none, .sl 2 (eTys []) none])] TLS_ok hnt fun K hK => ?_; refine dcl (hFl) ?_; refine And.intro (auV) ?_; refine dcl (hSm) ?_; refine hK _ _ ?_; clear hK K; refine dw_cond (t := false) rfl ?_; rw [if_neg (by simp)]; refine dw_skip ?_; refine dw_seq ?_; refine dwk [] TLS_ok hnt fun K hK => ?_
   refine dcl (hTo) ?_; refine hK _ _ ?_; clear hK K; refine dw_seq ?_; refine dwk [] TLS_ok hnt fun K hK => ?_; refine dcl (hOf) ?_; refine hK _ _ ?_; clear hK K; refine dw_seq ?_; refine dwk [] TLS_ok hnt fun K hK => ?_; refine dcl (hTy) ?_; refine dcl (hSu) ?_; refine hK _ _ ?_; clear hK K; refine dw_seq ?_; refine dw_seq ?_; refine dwk [] TLS_ok hnt fun K hK => ?_; refine dcl (hRr) ?_; refine hK _ _ ?_; clear hK K
   refine dw_cond (t := true) rfl ?_; rw [if_pos rfl]; refine dw_seq ?_; refine dwk [(43, .v (.bool true)), (47, .v (.int .i64 (0))), (48, .v (.bool true))] TLS_ok hnt fun K hK => ?_; refine dcl (hk) ?_; refine And.intro (VLe.refl _) ?_; refine And.intro (dintE (by rfl)) ?_; refine And.intro (VLe.refl _) ?_; refine hK _ _ ?_; clear hK K; refine dw_ret ?_
   exact reta rfl
 | true =>
  have hr2 : Sb.right (Li.cls s B) = true := by rw [cls_right]; exact hr
  have hss := right_self hr2
  rw [hr] at hSu hRr
  rw [if_pos rfl, hss, hr2, if_pos rfl, if_pos rfl] at hSu
  have hfu : ∀ p ∈ Li.cls s B, p.2.full ≤ 900000 := fun p hp => by
   obtain ⟨q, hq, rfl⟩ := List.mem_map.1 hp
   have := (hsf q hq).1
   have := full_args q.2
   show (Tm.mk _ _ _ _).full ≤ _
   rw [Tm.full_eq, Ty.sizes_append]; omega
  have hsn := cls_snoc s B
  have hOf2 := of9_d (Li.cls s B) (by omega) hfu
  have hSa := rsameP_d (Li.cls s B) (Li.cls s B) (by omega) (by omega)
  rw [decide_eq_true rfl] at hSa
  have hcb : ∀ k (h : k < s.length), PureC Try.prog 52 [.ag (eTm s[k].2), .sl 2 (eTys B) none] (.ag (eTm (Li.cl s[k].2 B))) := fun k h => rclose_d s[k].2 B (by have := (hsf _ (List.getElem_mem h)).1; omega)
  obtain ⟨W, hW⟩ : ∃ W, Li.cls s B = W := ⟨_, rfl⟩
  rw [hW] at hSu hOf2 hSa hcl hsn
  refine calldw 0 83 [ResultVar.tmp 4] TLS_ok Try.func9 rfl Try.ntmps9 rfl fun cx hnt hn0 => ?_
  ·skip
   refine dw_seq ?_; refine dwk [] TLS_ok hnt fun K hK => ?_; refine hK _ _ ?_; clear hK K; refine dw_seq ?_; refine dwk [(13, .v (.int .i64 (↑B0.length))), (14, .v (.int .i64 (↑(min B0.length 8)))), (15, .sl 2 (eTys B) none)] TLS_ok hnt fun K hK => ?_; refine And.intro (dintE (by rw [eTys_len])) ?_; refine And.intro (dintE (by omega)) ?_; refine And.intro (⟨by omega, by rw [eTys_len]; omega⟩) ?_; refine And.intro (VLe.of_eq (congrArg (D.sl 2 · none) e15)) ?_
   refine hK _ _ ?_; clear hK K; refine dw_seq ?_; refine dw_seq ?_; refine dwk [(20, .ag [.v (.int .i64 0), .sl 2 (eTys []) none, .sl 2 (eTys []) none])] TLS_ok hnt fun K hK => ?_; refine dcl (hFl) ?_; refine And.intro (auV) ?_; refine dcl (hSm) ?_; refine hK _ _ ?_; clear hK K; refine dw_cond (t := false) rfl ?_; rw [if_neg (by simp)]; refine dw_skip ?_; refine dw_seq ?_; refine dwk [] TLS_ok hnt fun K hK => ?_
   refine dcl (hTo) ?_; refine hK _ _ ?_; clear hK K; refine dw_seq ?_; refine dwk [] TLS_ok hnt fun K hK => ?_; refine dcl (hOf) ?_; refine hK _ _ ?_; clear hK K; refine dw_seq ?_; refine dwk [] TLS_ok hnt fun K hK => ?_; refine dcl (hTy) ?_; refine dcl (hSu) ?_; refine hK _ _ ?_; clear hK K; refine dw_seq ?_; refine dw_seq ?_; refine dwk [] TLS_ok hnt fun K hK => ?_; refine dcl (hRr) ?_; refine hK _ _ ?_; clear hK K
   refine dw_cond (t := false) rfl ?_; rw [if_neg (by simp)]; refine dw_skip ?_; refine dw_seq ?_; refine dwk [] TLS_ok hnt fun K hK => ?_; refine hK _ _ ?_; clear hK K
   refine DW.vs (VS.rowT (x := 9) (by rw [hnt]; decide) 95 5 rfl) ?_
   refine dw_seq ?_; refine dw_seq ?_; refine dwk [] TLS_ok hnt fun K hK => ?_; refine hK _ _ ?_; clear hK K; refine dw_block ?_
   refine dw_loop (ι := { k : Nat // k ≤ s.length }) (fun k => [(.t 1, .sl 2 (eTys B) none), (.t 6, .sl 5 (ePairs s) none), (.t 7, .sl 5 (ePairs W) none), (.t 8, .v (.int .i64 0)), (.t 10, .v (.int .i64 ↑k.1)), (.t 9, .sl 5 (ePairs (W.take k.1)) (some 35)), (.r 35, .rw 95 5 k.1)]) 36 (fun k => s.length - k.1) (⟨0, Nat.zero_le _⟩) (VS.toA) fun k => ?_
   obtain ⟨k, hk2⟩ := k
   dsimp only
   by_cases hlt : k < s.length
   ·have hc := hcb k hlt
    rw [eTm_eq, eTm_eq] at hc
    have hs := hsn k hlt
    have hlq : (ePairs (W.take k)).length = k := by rw [ePairs_len, List.length_take]; omega
    refine dw_seq ?_; refine dw_seq ?_; refine dwk [(52, .v (.int .i64 (↑s.length))), (53, .v (.bool true))] TLS_ok hnt fun K hK => ?_; refine And.intro (dintE (by rw [ePairs_len])) ?_; refine And.intro auT ?_; refine hK _ _ ?_; clear hK K; refine dw_cond (t := true) rfl ?_; rw [if_pos rfl]; refine dw_skip ?_; refine dw_seq ?_; refine dw_block ?_; refine dwkD [(59, .q [.v (.int .i64 s[k].1), .sl 2 (eTys s[k].2.binds) none, .v (.int .i64 s[k].2.kind), .v (.int .i64 s[k].2.index), .sl 4 (eTms s[k].2.args) none]), (64, .q [.v (.int .i64 s[k].1), .sl 2 (eTys s[k].2.binds) none, .v (.int .i64 s[k].2.kind), .v (.int .i64 s[k].2.index), .sl 4 (eTms s[k].2.args) none]), (71, .sl 5 (ePairs (W.take (k + 1))) (some 35))] TLS_ok hnt fun K hK => ?_
    refine And.intro (elo (ePairs_len s)) ?_; refine And.intro (elv (ePairs_getD s k) (ePair_eq _)) ?_; refine And.intro (elo (ePairs_len s)) ?_; refine And.intro (elv (ePairs_getD s k) (ePair_eq _)) ?_; refine dcl (hc) ?_; refine And.intro (⟨by rw [hlq], by rw [hlq]; simp; omega⟩) ?_; refine And.intro (VLe.of_eq (by rw [hs])) ?_; refine hK _ _ (by kernel_rfl) ?_; clear hK K; refine dwk [(55, .v (.int .i64 (↑(k + 1))))] TLS_ok hnt fun K hK => ?_
    refine And.intro auI ?_; refine hK _ _ ?_; clear hK K
    refine ⟨⟨k + 1, by omega⟩, by first | omega | (dsimp only; omega), (by try simp only [List.length_append, List.length_take, List.length_cons, List.length_nil, Nat.zero_add, hlq]; exact VS.toA)⟩
   ·rw [List.take_of_length_le (by omega)]
    refine dw_seq ?_; refine dw_seq ?_; refine dwk [(52, .v (.int .i64 (↑s.length))), (53, .v (.bool false))] TLS_ok hnt fun K hK => ?_; refine And.intro (dintE (by rw [ePairs_len])) ?_; refine And.intro auF ?_; refine hK _ _ ?_; clear hK K; refine dw_cond (t := false) rfl ?_; rw [if_neg (by simp)]; refine dw_exit ?_; refine dw_seq ?_; refine dwk [(75, .v (.bool true)), (80, .sl 5 (ePairs W) none)] TLS_ok hnt fun K hK => ?_
    refine dcl (hk) ?_; refine And.intro (VLe.refl _) ?_; refine dcl (hOf2) ?_; refine And.intro (VLe.untag _ _ _) ?_; refine dcl (hSa) ?_; refine hK _ _ ?_; clear hK K; refine dw_ret ?_
    exact reta rfl
end Go.Proofs.Ytdmiekaeodcehaa

