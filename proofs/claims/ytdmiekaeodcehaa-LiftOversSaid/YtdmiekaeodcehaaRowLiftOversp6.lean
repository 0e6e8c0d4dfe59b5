/-
  Package lift, walked in the deep way: variables, each, term. The document's uses, and what is taken out, walked in the deep way. A loop over a function, whose round writes to what its own assignment laid. The reference's loose indexes, and terms that grow. The document's heads of a term. The document's Heads and Count. term.Count. slices.Sort and slices.Compact of ints of the call's own; what they hand back rises. A function that has run loops over functions leaves with a mark for each; rows of ints that grow within such rounds. term.Metas. Package lift, walked in the deep way: may, done, Over, Closed, Subst; spot.Close. Terms that are the same, as deep contracts. Package match, walked in the deep way: put. Package match, walked in the deep way: walk, may. Deep values: regions with steps through a map. Package match, walked in the deep way: what was found as a substitution; several at once. The known answer of the laws of layer 12. Lists of pairs, there and back. Lists of pairs in the laws of layer 9: To, Few. Package subst's lists, walked in the deep way: Clone, Without, Set, Domain, Get. Package subst's lists, walked in the deep way: Set, Domain, Get, Equal; terms that are the same. Package subst's lists, walked in the deep way: Get, Equal. The document's lists of pairs, walked in the deep way: Sorted, Get, Without, Domain, Same. LiftSubsts, walked in the deep way. How large long forms are, and that their indexes fit. How large lifted terms are, and that their indexes fit. The document's Take, walked in the deep way; what is wrong with a pattern. The document's Like.
-/
import Derived.Test.YtdmiekaeodcehaaRowLiftOversp5
import Derived.Test.YtdmiekaeodcehaaRowLiftOversp1
import Derived.Test.YtdmiekaeodcehaaRowLiftOversp4
import Derived.Deep.QuietTactic
import Derived.BigQuiet
import Derived.WalkSmall
import Derived.Lib.OwnBridge
import Derived.Sort.OwnSortedInts
import Derived.RangeFuncBox
import Derived.Maps.RangeRun
set_option maxRecDepth 100000
set_option maxHeartbeats 1000000
set_option linter.unusedVariables false
set_option linter.unusedSimpArgs false
namespace Go.Proofs.Ytdmiekaeodcehaa
open Go.RowKit
def TLI_34 : TI := ⟨4, true, [Value.slice none 0 0, Value.int IntKind.i64 0, Value.int IntKind.i64 0, Value.slice none 0 0], [(0, 1, false), (1, 2, true), (3, 1, false)], none, 64, 6, none, false⟩
theorem TLI_34_ok : TypOk Try.prog 34 TLI_34 := ⟨by kernel_rfl, by kernel_rfl, by kernel_rfl, by kernel_rfl, by kernel_rfl⟩
def TLI_32 : TI := ⟨1, false, [Value.slice none 0 0], [], some 34, 24, 5, none, false⟩
theorem TLI_32_ok : TypOk Try.prog 32 TLI_32 := ⟨by kernel_rfl, by kernel_rfl, by kernel_rfl, by kernel_rfl, by kernel_rfl⟩
def TLI_3 : TI := ⟨1, false, [Value.int IntKind.i64 0], [], none, 8, 2, none, false⟩
theorem TLI_3_ok : TypOk Try.prog 3 TLI_3 := ⟨by kernel_rfl, by kernel_rfl, by kernel_rfl, by kernel_rfl, by kernel_rfl⟩
def TLI_30 : TI := ⟨1, false, [Value.slice none 0 0], [], some 100, 24, 5, none, false⟩
theorem TLI_30_ok : TypOk Try.prog 30 TLI_30 := ⟨by kernel_rfl, by kernel_rfl, by kernel_rfl, by kernel_rfl, by kernel_rfl⟩
def TLI_250 : TI := ⟨1, false, [Value.slice none 0 0], [], some 32, 24, 5, none, false⟩
theorem TLI_250_ok : TypOk Try.prog 250 TLI_250 := ⟨by kernel_rfl, by kernel_rfl, by kernel_rfl, by kernel_rfl, by kernel_rfl⟩
def TLI_149 : TI := ⟨10, true, [Value.slice none 0 0, Value.int IntKind.i64 0, Value.int IntKind.i64 0, Value.slice none 0 0, Value.slice none 0 0, Value.int IntKind.i64 0, Value.int IntKind.i64 0, Value.slice none 0 0, Value.slice none 0 0, Value.slice none 0 0], [(0, 9, true), (9, 1, false)], none, 176, 6, none, false⟩
theorem TLI_149_ok : TypOk Try.prog 149 TLI_149 := ⟨by kernel_rfl, by kernel_rfl, by kernel_rfl, by kernel_rfl, by kernel_rfl⟩
def TLI_100 : TI := ⟨2, true, [Value.slice none 0 0, Value.int IntKind.i64 0], [(0, 1, false), (1, 1, false)], none, 32, 6, none, false⟩
theorem TLI_100_ok : TypOk Try.prog 100 TLI_100 := ⟨by kernel_rfl, by kernel_rfl, by kernel_rfl, by kernel_rfl, by kernel_rfl⟩
def TLI_31 : TI := ⟨2, true, [Value.int IntKind.i64 0, Value.int IntKind.i64 0], [(0, 1, false), (1, 1, false)], none, 16, 6, none, true⟩
theorem TLI_31_ok : TypOk Try.prog 31 TLI_31 := ⟨by kernel_rfl, by kernel_rfl, by kernel_rfl, by kernel_rfl, by kernel_rfl⟩
def TLI_173 : TI := ⟨1, false, [Value.nilFunc], [], none, 8, 8, none, false⟩
theorem TLI_173_ok : TypOk Try.prog 173 TLI_173 := ⟨by kernel_rfl, by kernel_rfl, by kernel_rfl, by kernel_rfl, by kernel_rfl⟩
def TLI : List (Nat × TI) := [(34, TLI_34), (32, TLI_32), (3, TLI_3), (30, TLI_30), (250, TLI_250), (149, TLI_149), (100, TLI_100), (31, TLI_31), (173, TLI_173)]
theorem TLI_ok : TabOk Try.prog TLI := ((((((((((TabOk.nil _).cons TLI_173_ok).cons TLI_31_ok).cons TLI_100_ok).cons TLI_149_ok).cons TLI_250_ok).cons TLI_30_ok).cons TLI_3_ok).cons TLI_32_ok).cons TLI_34_ok)

/-! slices.Concat of terms -/
def eTmss (ls : List (List Tm)) : List (List D) := ls.map fun l => [.sl 4 (eTms l) none]
theorem eTmss_len (l : List (List Tm)) : (eTmss l).length = l.length := List.length_map ..
theorem eTmss_getD (l : List (List Tm)) (i : Nat) (h : i < l.length) : (eTmss l).getD i [] = [.sl 4 (eTms l[i]) none] := by
  rw [eTmss, List.getD_eq_getElem?_getD, List.getElem?_map, List.getElem?_eq_getElem h]; rfl
@[simp] theorem eTmss_ok (f g : Nat → Bool) (l : List (List Tm)) : D.okss f g (eTmss l) = true := D.okss_map _ l fun l _ => by simp [D.oks, D.ok, eTms_ok]
set_option maxRecDepth 100000 in
set_option maxHeartbeats 400000 in
theorem growT_at (n : Nat) (m : Int) (w : World) (hnm : m = n) (hn : n ≤ 1000000) :
    Calls Try.prog 161 #[.slice none 0 0, .int .i64 m] w fun e w' => ∃ v, e = .returned v ∧ Below w.heap.size w w' ∧ (v = .slice none 0 0 ∨ (v.ownBlock = some w.heap.size ∧ ∃ g, v = .slice (some ⟨w.heap.size, 0, none⟩) 0 g ∧ w'.ownsRow w.heap.size 34 4 v 0 [])) := by
  subst hnm
  obtain ⟨i0, hi0, hz0, hz1, hz2⟩ := info_parts infoT
  by_cases h0 : n = 0
  · subst h0
    go_enter Try.func161, Try.ntmps161
    go_wp2_with fail
    go_ret
    exact ⟨_, rfl, Below.refl _ _, .inl rfl⟩
  · have hr : ∀ ty, (Builtin.append_ #[32, 3] ty #[.slice none 0 0, .int .i64 (n : Int)]).run Try.prog w = _ := fun ty =>
      Lib.run_append_grow_zeros w 32 3 ty 34 i0 (.agg #[.slice none 0 0, .int .i64 0, .int .i64 0, .slice none 0 0]) .i64 .i64 Try.underlying32 Try.underlying3 hi0 hz0 none 0 0 [] (run_firstCells_none _ _ _ _ _) n (by omega) (by rw [hz1]; decide) (by omega) (by omega) (by rw [hz2]; omega) (by rw [hz2]; exact growslice_fits (by omega) (by omega))
    have hr' : ∃ g, n ≤ g ∧ g ≤ maxLen ∧ ∀ ty, (Builtin.append_ #[32, 3] ty #[.slice none 0 0, .int .i64 (n : Int)]).run Try.prog w = .ok (.slice (some ⟨w.heap.size, 0, none⟩) n g) (w.drew.alloc (.cells (Builtin.zeroCells (#[.slice none 0 0, .int .i64 0, .int .i64 0, .slice none 0 0]) n ++ Builtin.zeroCells (#[.slice none 0 0, .int .i64 0, .int .i64 0, .slice none 0 0]) (g - n)) 34)) := by
      refine ⟨grownCap w n 0 34, grownCap_ge _ _ _ _, grownCap_le_maxLen _ _ _ _ (by unfold maxLen; omega), fun ty => ?_⟩
      have := hr ty
      simpa [Value.cells] using this
    obtain ⟨g, hg1, hg2, hg⟩ := hr'
    have hg2' := hg2
    clear hg2
    clear hr
    have hn0 : 0 < (n : Int) := by omega
    have Hg := Lib.hid hg; clear hg
    go_enter Try.func161, Try.ntmps161
    go_wp2_with (at_builtin; refine wpList_append_eq rfl _ _ _ _ _ rfl (Hg.out _) ?_)
    go_ret
    refine ⟨_, rfl, (Below.refl _ _).drew.alloc (Nat.le_refl _) _, .inr ⟨rfl, g, rfl, rfl, .inr ⟨w.heap.size, g, _, rfl, Nat.le_refl _, heap_alloc_new w.drew _, Nat.zero_le _, hg2', ?_, rfl⟩⟩⟩
    first | (simp [size_zeroCells]; done) | (simp [size_zeroCells]; omega)
theorem growT_d (n : Int) (h0 : 0 ≤ n) (h1 : n ≤ 1000000) (nm : Nat) : CallN Try.prog 161 [.v (.slice none 0 0), .v (.int .i64 n)] [] nm [(.r nm, .rw 34 4 0)] (.sl 4 [] (some nm)) := by
  refine ⟨by kernel_rfl, fun cx Fr m Im w a σ vs hn hs hv _ => ?_⟩
  match vs, hv with
  | [x, y], hv =>
    have := rel_v.1 hv.1; subst this
    have := rel_v.1 hv.2.1; subst this
    refine (growT_at n.toNat n w (by omega) (by omega)).mono ?_
    rintro e w' ⟨v, rfl, hb, hv⟩
    rw [dropT_nil]
    rcases hv with rfl | ⟨ho, g, rfl, hr⟩
    · have hg : (m.setR nm ⟨.slice none 0 0, 0, 34, 4⟩).row nm = some ⟨.slice none 0 0, 0, 34, 4⟩ := by simp [Mp.setR]
      exact ⟨_, _, Im, rfl, (hs.newRow hn 34 4).below0 hb, rel_nil hg⟩
    · obtain ⟨s1, s2⟩ := hs.rowMade hn (.slice (some ⟨w.heap.size, 0, none⟩) 0 g) 34 4 hb ⟨hr.1, hr.2.imp id fun ⟨g, cap, cur, q1, q2, q3⟩ => ⟨g, cap, cur, q1, Nat.zero_le _, q3⟩⟩ ho
      refine ⟨_, _, Im, rfl, s1, ?_⟩
      exact .sl _ _ 0 0 4 (fun _ _ => undef) [] (some nm) ⟨Nat.zero_le _, Nat.zero_le _⟩ (fun h => absurd h (by simp)) (fun i _ h => absurd h (by simp)) (fun i h => absurd h (by simp)) (fun i _ h => absurd h (by simp)) (fun i h => absurd h (by simp)) fun r e => by
        cases e; exact ⟨_, by simp [Mp.setR]; rfl, Nat.le_refl _, fun _ => rfl⟩
def lensT : List (List Tm) → Nat
  | [] => 0
  | l :: r => l.length + lensT r
theorem lensT_take (ls : List (List Tm)) (j : Nat) (h : j < ls.length) : lensT (ls.take (j + 1)) = lensT (ls.take j) + ls[j].length := by
  induction ls generalizing j with
  | nil => simp at h
  | cons l r ih =>
    cases j with
    | zero => simp [lensT]
    | succ j => simp only [List.take_succ_cons, lensT, List.getElem_cons_succ]; rw [ih j (by simpa using h)]; omega
theorem lensT_flat (ls : List (List Tm)) : ls.flatten.length = lensT ls := by
  induction ls with
  | nil => rfl
  | cons l r ih => simp [lensT, ih]
theorem lensT_le (ls : List (List Tm)) (j : Nat) : lensT (ls.take j) ≤ lensT ls := by
  induction ls generalizing j with
  | nil => simp [lensT]
  | cons l r ih =>
    cases j with
    | zero => simp [lensT]
    | succ j => simp only [List.take_succ_cons, lensT]; have := ih j; omega
theorem flatT_take (ls : List (List Tm)) (j : Nat) (h : j < ls.length) : (ls.take (j + 1)).flatten = (ls.take j).flatten ++ ls[j] := by
  rw [List.take_add_one, List.getElem?_eq_getElem h, List.flatten_append]; simp
set_option maxHeartbeats 1000000 in
theorem concatT_d (ls : List (List Tm)) (hl : lensT ls ≤ 900000) (hn : ls.length ≤ 1000) : PureC Try.prog 135 [.sl 1 (eTmss ls) none] (.sl 4 (eTms ls.flatten) none) := by
 refine calldw 0 36 [ResultVar.tmp 2] TLI_ok Try.func135 rfl Try.ntmps135 rfl fun cx hnt hn0 => ?_
 ·skip
  refine dw_seq ?_; refine dwk [] TLI_ok hnt fun K hK => ?_; refine hK _ _ ?_; clear hK K; refine dw_seq ?_; refine dwk [] TLI_ok hnt fun K hK => ?_; refine hK _ _ ?_; clear hK K; refine dw_seq ?_; refine dw_seq ?_; refine dwk [(10, .v (.int .i64 (ls.length)))] TLI_ok hnt fun K hK => ?_; refine And.intro (dintE (by rw [eTmss_len])) ?_; refine hK _ _ ?_; clear hK K; refine dw_block ?_
  refine dw_loop (ι := Nat) (fun j => [(.t 0, .sl 1 (eTmss ls) none), (.t 9, .sl 1 (eTmss ls) none), (.t 10, .v (.int .i64 ls.length)), (.t 11, .v (.int .i64 (j : Int))), (.t 3, .v (.int .i64 (lensT (ls.take j) : Nat)))]) 0 (fun j => ls.length - j) (0) ((VS.toK (by omega) (by repeat first | exact trivial | refine And.intro (And.intro (by first | rfl | simp [D.ok, D.oks, D.okss, D.okm, upto, keyOk, lensT]) (by first | exact Or.inl rfl | exact Or.inr ⟨_, rfl, (by repeat first | exact VLe.refl _ | exact VLe.nil _ | exact VLe.untag _ _ _ | refine VLe.ag ?_ | refine VLe.tu ?_ | refine VLeL.cons ?_ ?_ | exact VLeL.nil), trivial⟩ | simp [get, Key.eq, lensT])) ?_))) fun j => ?_
  by_cases hlt : j < ls.length
  ·have h1 := lensT_take ls j hlt
   have h2 := lensT_le ls (j + 1)
   refine dw_seq ?_; refine dwk [(12, .v (.bool true))] TLI_ok hnt fun K hK => ?_; refine And.intro auT ?_; refine hK _ _ ?_; clear hK K; refine dw_seq ?_; refine dw_cond (t := true) rfl ?_; rw [if_pos rfl]; refine dw_skip ?_; refine dw_seq ?_; refine dw_block ?_; refine dw_seq ?_; refine dwk [(13, .q [.sl 4 (eTms ls[j]) none])] TLI_ok hnt fun K hK => ?_; refine And.intro (⟨by omega, by rw [eTmss_len]; omega⟩) ?_
   refine And.intro (VLe.of_eq (by rw [Int.toNat_natCast, eTmss_getD ls j hlt])) ?_; refine hK _ _ ?_; clear hK K; refine dw_seq ?_; refine dwk [(18, .v (.int .i64 (↑(lensT (ls.take (j + 1))))))] TLI_ok hnt fun K hK => ?_; refine And.intro (dintE (by rw [eTms_len, IntWalk.i64_in _ (by omega)]; omega)) ?_; refine hK _ _ ?_; clear hK K; refine dw_seq ?_; refine dwk [(20, .v (.bool false))] TLI_ok hnt fun K hK => ?_
   refine And.intro auF ?_; refine hK _ _ ?_; clear hK K; refine dw_cond (t := false) rfl ?_; rw [if_neg (by simp)]; refine dw_skip ?_; refine dwk [(22, .v (.int .i64 (↑(j + 1))))] TLI_ok hnt fun K hK => ?_; refine And.intro auI ?_; refine hK _ _ ?_; clear hK K
   refine ⟨j + 1, by first | omega | (dsimp only; omega), VS.toA⟩
  ·have h3 : ls.take j = ls := List.take_of_length_le (by omega)
   have hg := growT_d (lensT (ls.take j) : Nat) (by omega) (by rw [h3]; omega)
   rw [h3] at hg ⊢
   refine dw_seq ?_; refine dwk [(12, .v (.bool false))] TLI_ok hnt fun K hK => ?_; refine And.intro auF ?_; refine hK _ _ ?_; clear hK K; refine dw_seq ?_; refine dw_cond (t := false) rfl ?_; rw [if_neg (by simp)]; refine dw_exit ?_; refine dw_seq ?_; refine dwk [] TLI_ok hnt fun K hK => ?_; refine dcn (hg _) ?_; refine hK _ _ ?_; clear hK K; refine dw_seq ?_; refine dw_seq ?_; refine dwk [(26, .v (.int .i64 (ls.length)))] TLI_ok hnt fun K hK => ?_
   refine And.intro (dintE (by rw [eTmss_len])) ?_; refine hK _ _ ?_; clear hK K; refine dw_block ?_
   refine dw_loop (ι := Nat) (fun j => [(.t 25, .sl 1 (eTmss ls) none), (.t 26, .v (.int .i64 ls.length)), (.t 27, .v (.int .i64 (j : Int))), (.t 6, .sl 4 (eTms (ls.take j).flatten) (some 2)), (.r 2, .rw 34 4 (ls.take j).flatten.length)]) 3 (fun j => ls.length - j) (0) (VS.toA) fun i => ?_
   by_cases hli : i < ls.length
   ·have h4 := lensT_take ls i hli
    have h5 := lensT_le ls (i + 1)
    have h6 := flatT_take ls i hli
    have h7 := lensT_flat (ls.take i)
    refine dw_seq ?_; refine dwk [(28, .v (.bool true))] TLI_ok hnt fun K hK => ?_; refine And.intro auT ?_; refine hK _ _ ?_; clear hK K; refine dw_seq ?_; refine dw_cond (t := true) rfl ?_; rw [if_pos rfl]; refine dw_skip ?_; refine dw_seq ?_; refine dw_block ?_; refine dw_seq ?_; refine dwk [(29, .q [.sl 4 (eTms ls[i]) none])] TLI_ok hnt fun K hK => ?_; refine And.intro (⟨by omega, by rw [eTmss_len]; omega⟩) ?_
    refine And.intro (VLe.of_eq (by rw [Int.toNat_natCast, eTmss_getD ls i hli])) ?_; refine hK _ _ ?_; clear hK K; refine dwk [(33, .sl 4 (eTms (ls.take (i + 1)).flatten) (some 2))] TLI_ok hnt fun K hK => ?_; refine And.intro (⟨by rw [eTms_len], by rw [eTms_len, eTms_len, h7]; omega⟩) ?_; refine And.intro (VLe.of_eq (by rw [h6, eTms_append])) ?_; refine hK _ _ ?_; clear hK K; refine dwk [(34, .v (.int .i64 (↑(i + 1))))] TLI_ok hnt fun K hK => ?_
    refine And.intro auI ?_; refine hK _ _ ?_; clear hK K
    have h8 : (eTms (ls.take i).flatten ++ eTms ls[i]).length = (ls.take (i + 1)).flatten.length := by rw [h6, ← eTms_append, eTms_len]
    refine ⟨i + 1, by first | omega | (dsimp only; omega), (by try simp only [List.length_append, List.length_take, List.length_cons, List.length_nil, Nat.zero_add, h8]; exact VS.toA)⟩
   ·have h9 : ls.take i = ls := List.take_of_length_le (by omega)
    rw [h9]
    refine dw_seq ?_; refine dwk [(28, .v (.bool false))] TLI_ok hnt fun K hK => ?_; refine And.intro auF ?_; refine hK _ _ ?_; clear hK K; refine dw_seq ?_; refine dw_cond (t := false) rfl ?_; rw [if_neg (by simp)]; refine dw_exit ?_; refine dw_seq ?_; refine dwk [] TLI_ok hnt fun K hK => ?_; refine hK _ _ ?_; clear hK K; refine dw_ret ?_
    exact reta rfl

/-! variables -/
namespace Li
def vars (B : List Ty) (n : Int) : List Tm := B.mapIdx fun i b => Ty.Eta b 0 (n + B.length - 1 - i)
theorem vars_len (B : List Ty) (n : Int) : (vars B n).length = B.length := List.length_mapIdx ..
theorem vars_get (B : List Ty) (n : Int) (j : Nat) (h : j < B.length) : (vars B n)[j]'(by rw [vars_len]; exact h) = Ty.Eta B[j] 0 (n + B.length - 1 - j) := by
  unfold vars; rw [List.getElem_mapIdx]
mutual
def lif (B : List Ty) : Tm → Int → Tm
  | .mk b k i a, n => .mk b k i ((if k = 2 then vars B (n + b.length) else []) ++ lifs B a (n + b.length))
def lifs (B : List Ty) : List Tm → Int → List Tm
  | [], _ => []
  | t :: l, n => lif B t n :: lifs B l n
end
theorem lif_eq (B b : List Ty) (k i : Int) (a : List Tm) (n : Int) : lif B (.mk b k i a) n = .mk b k i ((if k = 2 then vars B (n + b.length) else []) ++ lifs B a (n + b.length)) := by rw [lif]
theorem lifs_map (B : List Ty) (l : List Tm) (n : Int) : lifs B l n = l.map (lif B · n) := by
  induction l with
  | nil => rfl
  | cons t l ih => rw [lifs, ih]; rfl
theorem lifs_len (B : List Ty) (l : List Tm) (n : Int) : (lifs B l n).length = l.length := by rw [lifs_map, List.length_map]
theorem lifs_snoc (B : List Ty) (l : List Tm) (n : Int) (j : Nat) (h : j < l.length) : eTms ((lifs B l n).take j) ++ [eTm (lif B l[j] n)] = eTms ((lifs B l n).take (j + 1)) := by
  have h2 : j < (lifs B l n).length := by rw [lifs_len]; exact h
  have := eTms_snoc _ _ h2
  rw [← eTm_eq] at this
  rw [← this]
  congr 2
  simp only [lifs_map, List.getElem_map]
end Li
set_option maxHeartbeats 1000000 in
theorem lvars_d (L R : Tm) (M B : List Ty) (n : Int) (hn : 0 ≤ n ∧ n ≤ 1000000) (hl : B.length ≤ 1000) (hB : ∀ b ∈ B, b.size ≤ 1000) : PureC Try.prog 136 [.ag [.sl 2 (eTys L.binds) none, .v (.int .i64 L.kind), .v (.int .i64 L.index), .sl 4 (eTms L.args) none, .sl 2 (eTys R.binds) none, .v (.int .i64 R.kind), .v (.int .i64 R.index), .sl 4 (eTms R.args) none, .sl 2 (eTys M) none, .sl 2 (eTys B) none], .v (.int .i64 n)] (.sl 4 (eTms (Li.vars B n)) none) := by
 refine calldw 0 34 [ResultVar.tmp 4] TLI_ok Try.func136 rfl Try.ntmps136 rfl fun cx hnt hn0 => ?_
 ·skip
  refine dw_seq ?_; refine dwk [] TLI_ok hnt fun K hK => ?_; refine hK _ _ ?_; clear hK K
  refine dw_cut (τ := [(.t 1, .v (.int .i64 n)), (.t 2, .p 0 0), (.t 5, .v (.slice none 0 0)), (.c 0 0, .sl 2 (eTys L.binds) none), (.c 0 1, .v (.int .i64 L.kind)), (.c 0 2, .v (.int .i64 L.index)), (.c 0 3, .sl 4 (eTms L.args) none), (.c 0 4, .sl 2 (eTys R.binds) none), (.c 0 5, .v (.int .i64 R.kind)), (.c 0 6, .v (.int .i64 R.index)), (.c 0 7, .sl 4 (eTms R.args) none), (.c 0 8, .sl 2 (eTys M) none), (.c 0 9, .sl 2 (eTys B) none)]) (N1 := 1) ?_ ?_
  ·skip
   refine dwk [] TLI_ok hnt fun K hK => ?_; refine hK _ _ ?_; clear hK K
   exact cut_ok VS.toA
  ·refine DW.vs (VS.rowT (x := 5) (by rw [hnt]; decide) 34 4 rfl) ?_
   refine dw_seq ?_; refine dwk [(11, .v (.int .i64 (↑B.length)))] TLI_ok hnt fun K hK => ?_; refine And.intro (dintE (by rw [eTys_len])) ?_; refine hK _ _ ?_; clear hK K; refine dw_seq ?_; refine dw_seq ?_; refine dwk [(14, .v (.int .i64 (↑B.length)))] TLI_ok hnt fun K hK => ?_; refine And.intro (dintE (by rw [eTys_len])) ?_; refine hK _ _ ?_; clear hK K; refine dw_block ?_
   refine dw_loop (ι := { j : Nat // j ≤ B.length }) (fun j => [(.t 1, .v (.int .i64 n)), (.t 6, .v (.int .i64 ↑B.length)), (.t 13, .sl 2 (eTys B) none), (.t 14, .v (.int .i64 ↑B.length)), (.t 15, .v (.int .i64 ↑j.1)), (.t 5, .sl 4 (eTms ((Li.vars B n).take j.1)) (some 1)), (.r 1, .rw 34 4 j.1)]) 2 (fun j => B.length - j.1) (⟨0, Nat.zero_le _⟩) (VS.toA) fun j => ?_
   obtain ⟨j, hj⟩ := j
   dsimp only
   by_cases hlt : j < B.length
   ·have hc := teta_d B[j] 0 (n + B.length - 1 - j) (hB _ (List.getElem_mem hlt))
    rw [← Li.vars_get B n j hlt, eTm_eq, eTy_eq] at hc
    have hl0 := Li.vars_len B n
    have hsn := eTms_snoc (Li.vars B n) j (by omega)
    have hl1 : (eTms ((Li.vars B n).take j)).length = j := by rw [eTms_len, List.length_take]; omega
    have hl2 : (eTms ((Li.vars B n).take (j + 1))).length = j + 1 := by rw [eTms_len, List.length_take]; omega
    refine dw_seq ?_; refine dwk [(16, .v (.bool true))] TLI_ok hnt fun K hK => ?_; refine And.intro auT ?_; refine hK _ _ ?_; clear hK K; refine dw_seq ?_; refine dw_cond (t := true) rfl ?_; rw [if_pos rfl]; refine dw_skip ?_; refine dw_seq ?_; refine dw_block ?_; refine dw_seq ?_; refine dwk [(18, .q [.sl 2 (eTys B[j].args) none, .v (.int .i64 B[j].base)])] TLI_ok hnt fun K hK => ?_; refine And.intro (elo (eTys_len B)) ?_
    refine And.intro (elv (eTys_getD B j) (eTy_eq _)) ?_; refine hK _ _ ?_; clear hK K; refine dwk [(26, .v (.int .i64 ((n + B.length - 1 - j))))] TLI_ok hnt fun K hK => ?_; refine And.intro (dintE (by rw [IntWalk.i64_in (n + B.length) (by omega), IntWalk.i64_in (n + B.length - 1) (by omega), IntWalk.i64_in _ (by omega)])) ?_; refine dcl (hc) ?_; refine And.intro (⟨by omega, by rw [hl1]; simp; omega⟩) ?_
    refine hK _ _ ?_; clear hK K
    rw [hsn, hl2]
    refine dwk [(32, .v (.int .i64 (↑(j + 1))))] TLI_ok hnt fun K hK => ?_; refine And.intro auI ?_; refine hK _ _ ?_; clear hK K
    refine ⟨⟨j + 1, hlt⟩, by first | omega | (dsimp only; omega), VS.toA⟩
   ·rw [List.take_of_length_le (by rw [Li.vars_len]; omega)]
    refine dw_seq ?_; refine dwk [(16, .v (.bool false))] TLI_ok hnt fun K hK => ?_; refine And.intro auF ?_; refine hK _ _ ?_; clear hK K; refine dw_seq ?_; refine dw_cond (t := false) rfl ?_; rw [if_neg (by simp)]; refine dw_exit ?_; refine dw_seq ?_; refine dwk [] TLI_ok hnt fun K hK => ?_; refine hK _ _ ?_; clear hK K; refine dw_ret ?_
    exact reta rfl
theorem lturn_d (L R : Tm) (M B : List Ty) (t : Tm) (n : Int) (hn : 0 ≤ n ∧ n ≤ 1000000) (hl : B.length ≤ 900) (hB : ∀ b ∈ B, b.size ≤ 1000) (ht : t.args.length ≤ 800000) : CallC Try.prog 134 [.ag (eTm t), .v (.int .i64 n), .p 0 0] [(.c 0 0, .sl 2 (eTys L.binds) none), (.c 0 1, .v (.int .i64 L.kind)), (.c 0 2, .v (.int .i64 L.index)), (.c 0 3, .sl 4 (eTms L.args) none), (.c 0 4, .sl 2 (eTys R.binds) none), (.c 0 5, .v (.int .i64 R.kind)), (.c 0 6, .v (.int .i64 R.index)), (.c 0 7, .sl 4 (eTms R.args) none), (.c 0 8, .sl 2 (eTys M) none), (.c 0 9, .sl 2 (eTys B) none)] [(.c 0 0, .sl 2 (eTys L.binds) none), (.c 0 1, .v (.int .i64 L.kind)), (.c 0 2, .v (.int .i64 L.index)), (.c 0 3, .sl 4 (eTms L.args) none), (.c 0 4, .sl 2 (eTys R.binds) none), (.c 0 5, .v (.int .i64 R.kind)), (.c 0 6, .v (.int .i64 R.index)), (.c 0 7, .sl 4 (eTms R.args) none), (.c 0 8, .sl 2 (eTys M) none), (.c 0 9, .sl 2 (eTys B) none)] (.ag (eTm (.mk t.binds t.kind t.index (Li.vars B n ++ t.args)))) := by
 have hv := lvars_d L R M B n hn (by omega) hB
 have hcat := concatT_d [Li.vars B n, t.args] (by simp [lensT, Li.vars_len]; omega) (by simp)
 simp only [List.flatten_cons, List.flatten_nil, List.append_nil] at hcat
 rw [eTm_eq, eTm_eq]
 simp only [bindsT, kindT, indexT, argsTm]
 refine calldw 1 15 [ResultVar.cell 5 34] TLI_ok Try.func134 rfl Try.ntmps134 rfl fun cx hnt hn0 => ?_
 ·skip
  refine dw_seq ?_; refine dwk [] TLI_ok hnt fun K hK => ?_; refine hK _ _ ?_; clear hK K; refine dw_seq ?_; refine dwkD [(11, .sl 1 (eTmss [Li.vars B n, t.args]) none)] TLI_ok hnt fun K hK => ?_; refine dcl (hv) ?_; refine And.intro (VLe.untag _ _ _) ?_; refine dcl (hcat) ?_; refine hK _ _ (by kernel_rfl) ?_; clear hK K; refine dw_seq ?_; refine dwk [] TLI_ok hnt fun K hK => ?_; refine hK _ _ ?_; clear hK K
  refine dw_ret ?_
  exact reta rfl
theorem leach_d (L R : Tm) (M B : List Ty) (hl : B.length ≤ 900) (hB : ∀ b ∈ B, b.size ≤ 1000) : ∀ (t : Tm) (n : Int), 0 ≤ n → n + t.full ≤ 700000 → CallC Try.prog 133 [.ag (eTm t), .v (.int .i64 n), .fn 134 [.p 0 0]] [(.c 0 0, .sl 2 (eTys L.binds) none), (.c 0 1, .v (.int .i64 L.kind)), (.c 0 2, .v (.int .i64 L.index)), (.c 0 3, .sl 4 (eTms L.args) none), (.c 0 4, .sl 2 (eTys R.binds) none), (.c 0 5, .v (.int .i64 R.kind)), (.c 0 6, .v (.int .i64 R.index)), (.c 0 7, .sl 4 (eTms R.args) none), (.c 0 8, .sl 2 (eTys M) none), (.c 0 9, .sl 2 (eTys B) none)] [(.c 0 0, .sl 2 (eTys L.binds) none), (.c 0 1, .v (.int .i64 L.kind)), (.c 0 2, .v (.int .i64 L.index)), (.c 0 3, .sl 4 (eTms L.args) none), (.c 0 4, .sl 2 (eTys R.binds) none), (.c 0 5, .v (.int .i64 R.kind)), (.c 0 6, .v (.int .i64 R.index)), (.c 0 7, .sl 4 (eTms R.args) none), (.c 0 8, .sl 2 (eTys M) none), (.c 0 9, .sl 2 (eTys B) none)] (.ag (eTm (Li.lif B t n))) := by
 intro t
 induction t using Tm.ind with
 | h b k i a ih =>
 intro n h0 hz
 rw [Tm.full_eq] at hz
 have hbl := Ty.le_sizes b
 have hal := cFulls_len a
 have hfl := pflex_d (.mk b k i a)
 obtain ⟨n', hn⟩ : ∃ n' : Int, n' = n + b.length := ⟨_, rfl⟩
 have htu := lturn_d L R M B (.mk b k i (Li.lifs B a n')) n' (by omega) hl hB (by simp only [argsTm, Li.lifs_len]; omega)
 rw [Li.lif_eq, ← hn]
 obtain ⟨v, hv⟩ : ∃ v, Li.vars B n' = v := ⟨_, rfl⟩
 have hl0 := Li.lifs_len B a n'
 have hsn := Li.lifs_snoc B a n'
 obtain ⟨r, hr⟩ : ∃ r, Li.lifs B a n' = r := ⟨_, rfl⟩
 rw [hr] at htu hsn hl0 ⊢
 rw [eTm_eq, eTm_eq] at htu
 rw [eTm_eq] at hfl
 rw [eTm_eq, eTm_eq]
 simp only [bindsT, kindT, indexT, argsTm] at htu hfl ⊢
 rw [hv] at htu ⊢
 have hfl : ∀ c : Bool, decide (k = 2) = c → PureC Try.prog 119 [.ag [.sl 2 (eTys b) none, .v (.int .i64 k), .v (.int .i64 i), .sl 4 (eTms a) none]] (.v (.bool c)) := fun c h => h ▸ hfl
 clear hv hr
 refine calldw 1 44 [ResultVar.cell 6 34] TLI_ok Try.func133 rfl Try.ntmps133 rfl fun cx hnt hn0 => ?_
 ·skip
  refine dw_seq ?_; refine dwk [] TLI_ok hnt fun K hK => ?_; refine hK _ _ ?_; clear hK K; refine dw_seq ?_; refine dwk [(14, .v (.int .i64 (n')))] TLI_ok hnt fun K hK => ?_; refine And.intro (dintE (by rw [eTys_len, IntWalk.i64_in _ (by omega)]; omega)) ?_; refine hK _ _ ?_; clear hK K; refine dw_seq ?_; refine dwk [] TLI_ok hnt fun K hK => ?_; refine hK _ _ ?_; clear hK K
  refine DW.vs (VS.row (k := 14) (off := 3) 34 4 rfl) ?_
  refine dw_seq ?_; refine dw_seq ?_; refine dwk [(22, .v (.int .i64 (↑a.length)))] TLI_ok hnt fun K hK => ?_; refine And.intro (dintE (by rw [eTms_len])) ?_; refine hK _ _ ?_; clear hK K; refine dw_block ?_
  refine dw_loop (ι := { j : Nat // j ≤ a.length }) (fun j => [(.t 1, .v (.int .i64 n')), (.t 2, .fn 134 [.p 0 0]), (.t 3, .p 1 0), (.t 6, .p 2 0), (.t 7, .p 14 0), (.t 21, .sl 4 (eTms a) none), (.t 22, .v (.int .i64 ↑a.length)), (.t 23, .v (.int .i64 ↑j.1)), (.c 1 0, .sl 2 (eTys b) none), (.c 1 1, .v (.int .i64 k)), (.c 1 2, .v (.int .i64 i)), (.c 1 3, .sl 4 (eTms a) none), (.c 2 0, .v (.slice none 0 0)), (.c 2 1, .v (.int .i64 0)), (.c 2 2, .v (.int .i64 0)), (.c 2 3, .v (.slice none 0 0)), (.c 14 0, .sl 2 (eTys b) none), (.c 14 1, .v (.int .i64 k)), (.c 14 2, .v (.int .i64 i)), (.c 14 3, .sl 4 (eTms (r.take j.1)) (some 16)), (.r 16, .rw 34 4 j.1), (.c 0 0, .sl 2 (eTys L.binds) none), (.c 0 1, .v (.int .i64 L.kind)), (.c 0 2, .v (.int .i64 L.index)), (.c 0 3, .sl 4 (eTms L.args) none), (.c 0 4, .sl 2 (eTys R.binds) none), (.c 0 5, .v (.int .i64 R.kind)), (.c 0 6, .v (.int .i64 R.index)), (.c 0 7, .sl 4 (eTms R.args) none), (.c 0 8, .sl 2 (eTys M) none), (.c 0 9, .sl 2 (eTys B) none)]) 17 (fun j => a.length - j.1) (⟨0, Nat.zero_le _⟩) (VS.toA) fun j => ?_
  obtain ⟨j, hj⟩ := j
  dsimp only
  by_cases hlt : j < a.length
  ·have hmem := List.getElem_mem hlt
   have hsz := Tm.full_mem hmem
   have hc := ih _ hmem n' (by omega) (by omega)
   have hs2 := hsn j hlt
   rw [eTm_eq, eTm_eq] at hc
   rw [eTm_eq] at hs2
   have hl1 : (eTms (r.take j)).length = j := by rw [eTms_len, List.length_take]; omega
   have hl2 : (eTms (r.take (j + 1))).length = j + 1 := by rw [eTms_len, List.length_take]; omega
   refine dw_seq ?_; refine dwk [(24, .v (.bool true))] TLI_ok hnt fun K hK => ?_; refine And.intro auT ?_; refine hK _ _ ?_; clear hK K; refine dw_seq ?_; refine dw_cond (t := true) rfl ?_; rw [if_pos rfl]; refine dw_skip ?_; refine dw_seq ?_; refine dw_block ?_; refine dw_seq ?_; refine dwk [(25, .q [.sl 2 (eTys a[j].binds) none, .v (.int .i64 a[j].kind), .v (.int .i64 a[j].index), .sl 4 (eTms a[j].args) none])] TLI_ok hnt fun K hK => ?_
   refine And.intro (elo (eTms_len a)) ?_; refine And.intro (elv (eTms_getD a j) (eTm_eq _)) ?_; refine hK _ _ ?_; clear hK K; refine dwkD [] TLI_ok hnt fun K hK => ?_; refine dcl (hc) ?_; refine And.intro (⟨by omega, by rw [hl1]; simp; omega⟩) ?_; refine hK _ _ (by kernel_rfl) ?_; clear hK K
   rw [hs2, hl2]
   refine dwk [(36, .v (.int .i64 (↑(j + 1))))] TLI_ok hnt fun K hK => ?_; refine And.intro auI ?_; refine hK _ _ ?_; clear hK K
   refine ⟨⟨j + 1, hlt⟩, by first | omega | (dsimp only; omega), VS.toA⟩
  ·rw [List.take_of_length_le (by omega)]
   refine dw_seq ?_; refine dwk [(24, .v (.bool false))] TLI_ok hnt fun K hK => ?_; refine And.intro auF ?_; refine hK _ _ ?_; clear hK K; refine dw_seq ?_; refine dw_cond (t := false) rfl ?_; rw [if_neg (by simp)]
   by_cases hk : k = 2
   ·have hfl := hfl _ (decide_eq_true hk)
    rw [if_pos hk]; refine dw_exit ?_; refine dw_seq ?_; refine dw_seq ?_; refine dwk [] TLI_ok hnt fun K hK => ?_; refine dcl (hfl) ?_; refine hK _ _ ?_; clear hK K; refine dw_cond (t := true) rfl ?_; rw [if_pos rfl]; refine dw_seq ?_; refine dwk [(40, .ag [.sl 2 (eTys b) none, .v (.int .i64 k), .v (.int .i64 i), .sl 4 (eTms r) none])] TLI_ok hnt fun K hK => ?_; refine And.intro (auV) ?_; refine dcl (htu) ?_
    refine hK _ _ ?_; clear hK K; refine dw_ret ?_
    exact reta rfl
   ·have hfl := hfl _ (decide_eq_false hk)
    rw [if_neg hk]; refine dw_exit ?_; refine dw_seq ?_; refine dw_seq ?_; refine dwk [] TLI_ok hnt fun K hK => ?_; refine dcl (hfl) ?_; refine hK _ _ ?_; clear hK K; refine dw_cond (t := false) rfl ?_; rw [if_neg (by simp)]; refine dw_skip ?_; refine dw_seq ?_; refine dwk [] TLI_ok hnt fun K hK => ?_; refine hK _ _ ?_; clear hK K; refine dw_ret ?_
    exact reta rfl
theorem lterm_d (L R : Tm) (M B : List Ty) (t : Tm) (hl : B.length ≤ 900) (hB : ∀ b ∈ B, b.size ≤ 1000) (hz : t.full ≤ 700000) : PureC Try.prog 88 [.ag [.sl 2 (eTys L.binds) none, .v (.int .i64 L.kind), .v (.int .i64 L.index), .sl 4 (eTms L.args) none, .sl 2 (eTys R.binds) none, .v (.int .i64 R.kind), .v (.int .i64 R.index), .sl 4 (eTms R.args) none, .sl 2 (eTys M) none, .sl 2 (eTys B) none], .ag (eTm t)] (.ag (eTm (Li.lif B t 0))) := by
 have he := leach_d L R M B hl hB t 0 (by omega) (by omega)
 rw [eTm_eq, eTm_eq] at he ⊢
 refine calldw 0 8 [ResultVar.cell 4 34] TLI_ok Try.func88 rfl Try.ntmps88 rfl fun cx hnt hn0 => ?_
 ·skip
  refine dw_seq ?_; refine dwk [] TLI_ok hnt fun K hK => ?_; refine hK _ _ ?_; clear hK K; refine dw_seq ?_; refine dwk [] TLI_ok hnt fun K hK => ?_; refine dcl (he) ?_; refine hK _ _ ?_; clear hK K; refine dw_ret ?_
  exact reta rfl
end Go.Proofs.Ytdmiekaeodcehaa

namespace Go.Proofs.Ytdmiekaeodcehaa
open Go.RowKit
namespace Pn
end Pn
end Go.Proofs.Ytdmiekaeodcehaa

namespace Go.Proofs.Ytdmiekaeodcehaa
open Go.RowKit
variable {β : Type} {Ok : Obj → Prop} {B : Nat} {I I' : β → World → Prop}

end Go.Proofs.Ytdmiekaeodcehaa

namespace Go.Proofs.Ytdmiekaeodcehaa
open Go.RowKit

def rpInt : Rp Int where
  n := 1
  R _ _ x v := x = [.int .i64 v]
  len := by rintro F w x a rfl; rfl
  one := by rintro F w x a rfl u hu; simp at hu; subst hu; rfl
  keep := fun h _ => h
  weaken := fun h _ => h

theorem infoI : (Try.prog.info? 3).map (fun i => (i.zero, i.size, i.bytes)) = some (some (.int .i64 0), 1, 8) := by kernel_rfl

theorem Tm.loosess_len_of {l : List Tm} (h : ∀ t ∈ l, ∀ n, (t.looses n).length ≤ t.full) : ∀ n, (Tm.loosess l n).length ≤ Tm.fulls l := by
  induction l with
  | nil => intro n; simp [loosess]
  | cons t l ih =>
    intro n
    have h1 := h t (by simp) n
    have h2 := ih (fun u hu => h u (by simp [hu])) n
    simp [loosess, fulls]; omega
theorem Tm.looses_len (t : Tm) : ∀ n, (t.looses n).length ≤ t.full := by
  induction t using Tm.ind with
  | h b k i a ih =>
    intro n
    have h := Tm.loosess_len_of ih (n + (b.length : Int))
    rw [Tm.looses_eq b k i a n _ rfl, Tm.full_eq, List.length_append]
    split <;> simp <;> omega
def FreshInts (l : List Int) (w : World) (e : Ending) (w' : World) : Prop := ∃ a c, e = .returned (.slice a l.length c) ∧ IsSl rpInt (fun q => w.heap.size ≤ q) w' (.slice a l.length c) l ∧ Below w.heap.size w w'

end Go.Proofs.Ytdmiekaeodcehaa

namespace Go.Proofs.Ytdmiekaeodcehaa
open Go.RowKit

def rpHd : Rp (Int × Int) where
  n := 2
  R _ _ x v := x = [.int .i64 v.1, .int .i64 v.2]
  len := by rintro F w x a rfl; rfl
  one := by rintro F w x a rfl u hu; simp at hu; rcases hu with rfl | rfl <;> rfl
  keep := fun h _ => h
  weaken := fun h _ => h
theorem infoH : (Try.prog.info? 24).map (fun i => (i.zero, i.size, i.bytes)) = some (some (.agg #[.int .i64 0, .int .i64 0]), 2, 16) := by kernel_rfl

namespace Tm
mutual
def heads : Tm → Int → List (Int × Int)
  | .mk b k i a, n => (if k ≠ 0 then [(k, i)] else if n + (b.length : Int) ≤ i then [(0, i - (n + (b.length : Int)))] else []) ++ headss a (n + (b.length : Int))
def headss : List Tm → Int → List (Int × Int)
  | [], _ => []
  | t :: l, n => heads t n ++ headss l n
end
theorem heads_eq (b : List Ty) (k i : Int) (a : List Tm) (n m : Int) (hm : n + (b.length : Int) = m) : heads (.mk b k i a) n = (if k ≠ 0 then [(k, i)] else if m ≤ i then [(0, i - m)] else []) ++ headss a m := by subst hm; rw [heads]
theorem headss_append (l l' : List Tm) (n : Int) : headss (l ++ l') n = headss l n ++ headss l' n := by
  induction l with
  | nil => simp [headss]
  | cons t l ih => simp [headss, ih]
theorem headss_take (l : List Tm) (n : Int) (j : Nat) (h : j < l.length) : headss (l.take (j + 1)) n = headss (l.take j) n ++ heads l[j] n := by
  rw [List.take_succ_eq_append_getElem h, headss_append]; simp [headss]
theorem headss_len_of {l : List Tm} (h : ∀ t ∈ l, ∀ n, (t.heads n).length ≤ t.full) : ∀ n, (headss l n).length ≤ fulls l := by
  intro n
  induction l with
  | nil => simp [headss, fulls]
  | cons t l ih =>
    have h1 := h t (by simp) n
    have h2 := ih fun u hu => h u (by simp [hu])
    simp only [headss, fulls, List.length_append]; omega
theorem heads_len (t : Tm) : ∀ n, (t.heads n).length ≤ t.full := by
  induction t using Tm.ind with
  | h b k i a ih =>
    intro n
    have h := headss_len_of ih (n + b.length)
    rw [heads_eq _ _ _ _ _ _ rfl, full_eq, List.length_append]
    have : (if k ≠ 0 then [(k, i)] else if n + (b.length : Int) ≤ i then [(0, i - (n + (b.length : Int)))] else []).length ≤ 1 := by
      split
      · simp
      · split <;> simp
    omega
theorem headss_len (l : List Tm) (n : Int) : (headss l n).length ≤ fulls l := headss_len_of (fun t _ n => heads_len t n) n
end Tm

def FreshHds (l : List (Int × Int)) (w : World) (e : Ending) (w' : World) : Prop := ∃ a c, e = .returned (.slice a l.length c) ∧ IsSl rpHd (fun q => w.heap.size ≤ q) w' (.slice a l.length c) l ∧ Below w.heap.size w w'

def HeadsR (t : Tm) : Prop := ∀ (F : Nat → Prop) (w0 : World) (b0 k0 i0 a0 : Value), IsTm F w0 b0 k0 i0 a0 t → ∀ (n : Int) (w : World), Keep F w0 w → 0 ≤ n → n + t.full ≤ 90000 → t.Fit →
    Calls Try.prog 116 #[.agg #[b0, k0, i0, a0], .int .i64 n] w (FreshHds (t.heads n) w)

set_option maxRecDepth 100000 in
set_option maxHeartbeats 1000000 in
theorem heads_r : ∀ t : Tm, HeadsR t := Tm.ind fun binds k i args ih => by
  intro F w0 b0 k0 i0 a0 ht n w hw hn0 hn1 hfit
  obtain ⟨rfl, rfl, hb, hs⟩ := ht.inv
  obtain ⟨pa, pc, rfl⟩ := hb.shape
  obtain ⟨a, c, rfl⟩ := hs.shape
  simp only [Tm.binds, Tm.kind, Tm.index, Tm.args] at *
  obtain ⟨_, hm, bl, off, PA, A, PN, PC, N, C, Kd, Ix, ha, h1, h2, h3, h4, h5⟩ := sl_cells6 hs
  clear hs ht hb
  rw [Tm.full_eq] at hn1
  obtain ⟨hi0, hi1, hfa⟩ := Tm.fit_iff.1 hfit
  have hbl := Ty.le_sizes binds
  obtain ⟨m, hmm⟩ : ∃ m : Int, n + (binds.length : Int) = m := ⟨_, rfl⟩
  have hm0 : 0 ≤ m := by omega
  have hm1 : m ≤ 90000 := by omega
  have hs1 : IntKind.i64.wrap m = m := IntWalk.i64_in _ (by omega)
  have hal : args.length ≤ 90000 := by have := Tm.len_fulls args; omega
  obtain ⟨L, hL⟩ : ∃ L, Tm.heads (.mk binds k i args) n = L := ⟨_, rfl⟩
  rw [hL]
  have Hih : Hid (∀ j (h : j < args.length) (w' : World), Keep F w0 w' → Calls Try.prog 116 #[.agg #[.slice (PA j) (PN j) (PC j), .int .i64 (Kd j), .int .i64 (Ix j), .slice (A j) (N j) (C j)], .int .i64 m] w' (FreshHds (args[j].heads m) w')) :=
    fun j h w' hw => ih _ (List.getElem_mem h) _ _ _ _ _ _ (h5 j h) m w' hw hm0 (by have := Tm.full_mem (List.getElem_mem h); omega) (hfa _ (List.getElem_mem h))
  clear ih h5 hfit hfa
  obtain ⟨i2, hi2, hz0, hz1, hz2⟩ := info_parts infoH
  by_cases hk : k = 0
  · subst hk
    have hk0 : ((0 : Int) == 0) = true := rfl
    by_cases hge : i ≥ m
    · skip
      have HL : Hid ([((0 : Int), i - m)] ++ Tm.headss args m = L) := by show _ = _; rw [← hL, Tm.heads_eq binds 0 i args n m hmm, if_neg (by simp), if_pos hge]
      have hq1 : IntKind.i64.wrap (i - m) = i - m := IntWalk.i64_in _ (by omega)
      clear hL
      go_enter Try.func116, Try.ntmps116
      go_wp2_with (at_builtin; refine wpList_push rpHd (by decide) rfl _ _ _ rfl (w.heap.size + 1) 24 i2 _ 16 Try.underlying114 hi2 hz0 hz1 hz2 rfl (by decide) (fun q => w.heap.size ≤ q) (.slice none 0 0) [] rfl (Acc.nil _ _ _ _ _) (by simp) (w.heap.size + 1) _ [.int .i64 0, .int .i64 (i - m)] ((0 : Int), i - m) rfl (Blk.new _ #[.int .i64 0, .int .i64 (i - m)] _ (by simp)) rfl (by simp) ?_; intro g cap w3 hacc3 hgrow hat hlt2)
      have B3 : Below w.heap.size w w3 := (((Below.refl _ _).alloc (Nat.le_refl _) _).alloc (by simp) _).grown hgrow (by simp; omega) (fun k hk => by cases hk)
      have x3 : Blk w3 w.heap.size #[.slice pa binds.length pc, .int .i64 0, .int .i64 i, .slice a args.length c] 27 := ((Blk.new _ _ _ rfl).alloc _).grown hgrow (by simp [Value.ownBlock])
      have A3 : Hid (Acc rpHd 24 (w.heap.size + 1) (fun q => w.heap.size ≤ q) w3 (.slice (some ⟨g, 0, none⟩) 1 cap) [((0 : Int), i - m)]) := hacc3
      clear hacc3 hgrow hat hlt2
      go_loopw [5, 7] (fun x ii wr => ∃ (j : Nat) (v : Value), ii = .int .i64 j ∧ x = v ∧ j ≤ args.length ∧ Below w.heap.size w wr ∧ Blk wr w.heap.size #[.slice pa binds.length pc, .int .i64 0, .int .i64 i, .slice a args.length c] 27 ∧
          Acc rpHd 24 (w.heap.size + 1) (fun q => w.heap.size ≤ q) wr v ([((0 : Int), i - m)] ++ Tm.headss (args.take j) m)) (fun _ ii _ => args.length - (intOf ii).toNat)
      case atStart => exact ⟨0, _, rfl, rfl, by omega, B3, x3, by simpa [Tm.headss] using A3.out⟩
      case round =>
        clear B3 x3 A3
        obtain ⟨j, v, rfl, hv0, hj, hb, hbox, hacc⟩ := hrel
        have hv0 := hv0.symm
        subst hv0
        have c0 : wr.cell? ⟨w.heap.size, 3, none⟩ = some (.slice a args.length c) := hbox.cell rfl
        have hlt0 := hbox.lt
        have Hacc := Lib.hid hacc; clear hacc
        by_cases hlt : j < args.length
        · obtain ⟨rfl, hF⟩ := ha (by omega)
          have hkp : Keep F w0 wr := hw.below hb
          have e1 := hkp _ _ _ hF (h1 j hlt)
          have e2 := hkp _ _ _ hF (h2 j hlt)
          have e3 := hkp _ _ _ hF (h3 j hlt)
          have e4 := hkp _ _ _ hF (h4 j hlt)
          have hj0 : (0 : Int) ≤ (j : Int) := Int.natCast_nonneg _
          have hj1 : (j : Int) < (args.length : Int) := by omega
          have Hlen : Hid (([((0 : Int), i - m)] ++ Tm.headss (args.take j) m).length + (args[j].heads m).length ≤ 1000000) := by
            show _ ≤ _
            have q1 := Tm.headss_len (args.take j) m; have q2 := Tm.heads_len args[j] m; have q3 := Tm.fulls_take_le args j; have q4 := Tm.full_mem (List.getElem_mem hlt)
            simp; omega
          have Htk := Lib.hid (Tm.headss_take args m j hlt)
          go_wp2_with fail
          refine (Hih.out j hlt wr hkp).mono ?_
          rintro e w1 ⟨ra, rc, rfl, hr1, hb1⟩
          have A1 := Lib.hid (Hacc.out.below hb1)
          have hB1 := hb.trans (hb1.mono hb.size)
          have hbox1 := hbox.below hb1
          have hsz1 := hB1.size
          have hlt1 := hbox1.lt
          have HR := Lib.hid (hr1.weaken (F' := fun q => w.heap.size ≤ q ∧ v.ownBlock ≠ some q) (by decide) fun q _ hq => ⟨Nat.le_trans hb.size hq, fun e => by have := (Hacc.out.base_le q e).2; omega⟩)
          clear hr1
          go_wp2_with (at_builtin; refine wpList_push_sl rpHd (by decide) rfl _ _ _ rfl (w.heap.size + 1) 24 i2 _ 16 Try.underlying114 hi2 hz0 hz1 hz2 rfl (by decide) (fun q => w.heap.size ≤ q) v ([((0 : Int), i - m)] ++ Tm.headss (args.take j) m) rfl A1.out _ (args[j].heads m) rfl HR.out Hlen.out (by omega) ?_; intro v' w2 hacc2 hgrow hat)
          go_roundw
          case rel =>
            refine ⟨j + 1, _, by go_num, rfl, by omega, hB1.grown hgrow hsz1 (fun q hq => by have := (A1.out.base_le q hq).1; omega), hbox1.grown hgrow (fun e => by have := (A1.out.base_le _ e).1; omega), ?_⟩
            rw [Htk.out, ← List.append_assoc]
            exact hacc2
          case measure => simp [intOf]; omega
        · go_wp2_with fail
          go_ret
          have h := Hacc.out
          rw [List.take_of_length_le (by omega)] at h
          obtain ⟨va, vc, hv⟩ := h.len_shape
          rw [show [((0 : Int), i - m)] ++ Tm.headss args m = L from HL.out] at h hv
          refine ⟨va, vc, ?_, ?_, hb⟩
          · rw [← hv]; rfl
          · rw [← hv]; exact h.sl (fun q _ hq => hq) (fun q hq => by omega)
    · skip
      have HL : Hid ([] ++ Tm.headss args m = L) := by show _ = _; rw [← hL, Tm.heads_eq binds 0 i args n m hmm, if_neg (by simp), if_neg hge]
      clear hL
      go_enter Try.func116, Try.ntmps116
      go_wp2_with fail
      have B3 : Below w.heap.size w (w.alloc (.cells #[.slice pa binds.length pc, .int .i64 0, .int .i64 i, .slice a args.length c] 27)) := (Below.refl _ _).alloc (Nat.le_refl _) _
      have x3 := Blk.new w #[.slice pa binds.length pc, .int .i64 0, .int .i64 i, .slice a args.length c] 27 rfl
      have A3 : Hid (Acc rpHd 24 (w.heap.size + 1) (fun q => w.heap.size ≤ q) (w.alloc (.cells #[.slice pa binds.length pc, .int .i64 0, .int .i64 i, .slice a args.length c] 27)) (.slice none 0 0) []) := Acc.nil _ _ _ _ _
      go_loopw [5, 7] (fun x ii wr => ∃ (j : Nat) (v : Value), ii = .int .i64 j ∧ x = v ∧ j ≤ args.length ∧ Below w.heap.size w wr ∧ Blk wr w.heap.size #[.slice pa binds.length pc, .int .i64 0, .int .i64 i, .slice a args.length c] 27 ∧
          Acc rpHd 24 (w.heap.size + 1) (fun q => w.heap.size ≤ q) wr v ([] ++ Tm.headss (args.take j) m)) (fun _ ii _ => args.length - (intOf ii).toNat)
      case atStart => exact ⟨0, _, rfl, rfl, by omega, B3, x3, by simpa [Tm.headss] using A3.out⟩
      case round =>
        clear B3 x3 A3
        obtain ⟨j, v, rfl, hv0, hj, hb, hbox, hacc⟩ := hrel
        have hv0 := hv0.symm
        subst hv0
        have c0 : wr.cell? ⟨w.heap.size, 3, none⟩ = some (.slice a args.length c) := hbox.cell rfl
        have hlt0 := hbox.lt
        have Hacc := Lib.hid hacc; clear hacc
        by_cases hlt : j < args.length
        · obtain ⟨rfl, hF⟩ := ha (by omega)
          have hkp : Keep F w0 wr := hw.below hb
          have e1 := hkp _ _ _ hF (h1 j hlt)
          have e2 := hkp _ _ _ hF (h2 j hlt)
          have e3 := hkp _ _ _ hF (h3 j hlt)
          have e4 := hkp _ _ _ hF (h4 j hlt)
          have hj0 : (0 : Int) ≤ (j : Int) := Int.natCast_nonneg _
          have hj1 : (j : Int) < (args.length : Int) := by omega
          have Hlen : Hid (([] ++ Tm.headss (args.take j) m).length + (args[j].heads m).length ≤ 1000000) := by
            show _ ≤ _
            have q1 := Tm.headss_len (args.take j) m; have q2 := Tm.heads_len args[j] m; have q3 := Tm.fulls_take_le args j; have q4 := Tm.full_mem (List.getElem_mem hlt)
            simp; omega
          have Htk := Lib.hid (Tm.headss_take args m j hlt)
          go_wp2_with fail
          refine (Hih.out j hlt wr hkp).mono ?_
          rintro e w1 ⟨ra, rc, rfl, hr1, hb1⟩
          have A1 := Lib.hid (Hacc.out.below hb1)
          have hB1 := hb.trans (hb1.mono hb.size)
          have hbox1 := hbox.below hb1
          have hsz1 := hB1.size
          have hlt1 := hbox1.lt
          have HR := Lib.hid (hr1.weaken (F' := fun q => w.heap.size ≤ q ∧ v.ownBlock ≠ some q) (by decide) fun q _ hq => ⟨Nat.le_trans hb.size hq, fun e => by have := (Hacc.out.base_le q e).2; omega⟩)
          clear hr1
          go_wp2_with (at_builtin; refine wpList_push_sl rpHd (by decide) rfl _ _ _ rfl (w.heap.size + 1) 24 i2 _ 16 Try.underlying114 hi2 hz0 hz1 hz2 rfl (by decide) (fun q => w.heap.size ≤ q) v ([] ++ Tm.headss (args.take j) m) rfl A1.out _ (args[j].heads m) rfl HR.out Hlen.out (by omega) ?_; intro v' w2 hacc2 hgrow hat)
          go_roundw
          case rel =>
            refine ⟨j + 1, _, by go_num, rfl, by omega, hB1.grown hgrow hsz1 (fun q hq => by have := (A1.out.base_le q hq).1; omega), hbox1.grown hgrow (fun e => by have := (A1.out.base_le _ e).1; omega), ?_⟩
            rw [Htk.out, ← List.append_assoc]
            exact hacc2
          case measure => simp [intOf]; omega
        · go_wp2_with fail
          go_ret
          have h := Hacc.out
          rw [List.take_of_length_le (by omega)] at h
          obtain ⟨va, vc, hv⟩ := h.len_shape
          rw [show [] ++ Tm.headss args m = L from HL.out] at h hv
          refine ⟨va, vc, ?_, ?_, hb⟩
          · rw [← hv]; rfl
          · rw [← hv]; exact h.sl (fun q _ hq => hq) (fun q hq => by omega)
  · have hk0 : (k == 0) = false := by simpa using hk
    have hk1 : (k != 0) = true := by simpa using hk
    have HL : Hid ([(k, i)] ++ Tm.headss args m = L) := by show _ = _; rw [← hL, Tm.heads_eq binds k i args n m hmm, if_pos hk]
    clear hL
    go_enter Try.func116, Try.ntmps116
    go_wp2_with (at_builtin; refine wpList_push rpHd (by decide) rfl _ _ _ rfl (w.heap.size + 1) 24 i2 _ 16 Try.underlying114 hi2 hz0 hz1 hz2 rfl (by decide) (fun q => w.heap.size ≤ q) (.slice none 0 0) [] rfl (Acc.nil _ _ _ _ _) (by simp) (w.heap.size + 1) _ [.int .i64 k, .int .i64 i] (k, i) rfl (Blk.new _ #[.int .i64 k, .int .i64 i] _ (by simp)) rfl (by simp) ?_; intro g cap w3 hacc3 hgrow hat hlt2)
    have B3 : Below w.heap.size w w3 := (((Below.refl _ _).alloc (Nat.le_refl _) _).alloc (by simp) _).grown hgrow (by simp; omega) (fun k hk => by cases hk)
    have x3 : Blk w3 w.heap.size #[.slice pa binds.length pc, .int .i64 k, .int .i64 i, .slice a args.length c] 27 := ((Blk.new _ _ _ rfl).alloc _).grown hgrow (by simp [Value.ownBlock])
    have A3 : Hid (Acc rpHd 24 (w.heap.size + 1) (fun q => w.heap.size ≤ q) w3 (.slice (some ⟨g, 0, none⟩) 1 cap) [(k, i)]) := hacc3
    clear hacc3 hgrow hat hlt2
    go_loopw [5, 7] (fun x ii wr => ∃ (j : Nat) (v : Value), ii = .int .i64 j ∧ x = v ∧ j ≤ args.length ∧ Below w.heap.size w wr ∧ Blk wr w.heap.size #[.slice pa binds.length pc, .int .i64 k, .int .i64 i, .slice a args.length c] 27 ∧
        Acc rpHd 24 (w.heap.size + 1) (fun q => w.heap.size ≤ q) wr v ([(k, i)] ++ Tm.headss (args.take j) m)) (fun _ ii _ => args.length - (intOf ii).toNat)
    case atStart => exact ⟨0, _, rfl, rfl, by omega, B3, x3, by simpa [Tm.headss] using A3.out⟩
    case round =>
      clear B3 x3 A3
      obtain ⟨j, v, rfl, hv0, hj, hb, hbox, hacc⟩ := hrel
      have hv0 := hv0.symm
      subst hv0
      have c0 : wr.cell? ⟨w.heap.size, 3, none⟩ = some (.slice a args.length c) := hbox.cell rfl
      have hlt0 := hbox.lt
      have Hacc := Lib.hid hacc; clear hacc
      by_cases hlt : j < args.length
      · obtain ⟨rfl, hF⟩ := ha (by omega)
        have hkp : Keep F w0 wr := hw.below hb
        have e1 := hkp _ _ _ hF (h1 j hlt)
        have e2 := hkp _ _ _ hF (h2 j hlt)
        have e3 := hkp _ _ _ hF (h3 j hlt)
        have e4 := hkp _ _ _ hF (h4 j hlt)
        have hj0 : (0 : Int) ≤ (j : Int) := Int.natCast_nonneg _
        have hj1 : (j : Int) < (args.length : Int) := by omega
        have Hlen : Hid (([(k, i)] ++ Tm.headss (args.take j) m).length + (args[j].heads m).length ≤ 1000000) := by
          show _ ≤ _
          have q1 := Tm.headss_len (args.take j) m; have q2 := Tm.heads_len args[j] m; have q3 := Tm.fulls_take_le args j; have q4 := Tm.full_mem (List.getElem_mem hlt)
          simp; omega
        have Htk := Lib.hid (Tm.headss_take args m j hlt)
        go_wp2_with fail
        refine (Hih.out j hlt wr hkp).mono ?_
        rintro e w1 ⟨ra, rc, rfl, hr1, hb1⟩
        have A1 := Lib.hid (Hacc.out.below hb1)
        have hB1 := hb.trans (hb1.mono hb.size)
        have hbox1 := hbox.below hb1
        have hsz1 := hB1.size
        have hlt1 := hbox1.lt
        have HR := Lib.hid (hr1.weaken (F' := fun q => w.heap.size ≤ q ∧ v.ownBlock ≠ some q) (by decide) fun q _ hq => ⟨Nat.le_trans hb.size hq, fun e => by have := (Hacc.out.base_le q e).2; omega⟩)
        clear hr1
        go_wp2_with (at_builtin; refine wpList_push_sl rpHd (by decide) rfl _ _ _ rfl (w.heap.size + 1) 24 i2 _ 16 Try.underlying114 hi2 hz0 hz1 hz2 rfl (by decide) (fun q => w.heap.size ≤ q) v ([(k, i)] ++ Tm.headss (args.take j) m) rfl A1.out _ (args[j].heads m) rfl HR.out Hlen.out (by omega) ?_; intro v' w2 hacc2 hgrow hat)
        go_roundw
        case rel =>
          refine ⟨j + 1, _, by go_num, rfl, by omega, hB1.grown hgrow hsz1 (fun q hq => by have := (A1.out.base_le q hq).1; omega), hbox1.grown hgrow (fun e => by have := (A1.out.base_le _ e).1; omega), ?_⟩
          rw [Htk.out, ← List.append_assoc]
          exact hacc2
        case measure => simp [intOf]; omega
      · go_wp2_with fail
        go_ret
        have h := Hacc.out
        rw [List.take_of_length_le (by omega)] at h
        obtain ⟨va, vc, hv⟩ := h.len_shape
        rw [show [(k, i)] ++ Tm.headss args m = L from HL.out] at h hv
        refine ⟨va, vc, ?_, ?_, hb⟩
        · rw [← hv]; rfl
        · rw [← hv]; exact h.sl (fun q _ hq => hq) (fun q hq => by omega)
end Go.Proofs.Ytdmiekaeodcehaa

namespace Go.Proofs.Ytdmiekaeodcehaa
open Go.RowKit

theorem FreshHds.up {l : List (Int × Int)} {w w0 : World} {o : Obj} {e : Ending} {w' : World} (h : FreshHds l (w.alloc o) e w') (h0 : w0 = w) : FreshHds l w0 e w' := by
  subst h0
  obtain ⟨a, c, rfl, hr, hb⟩ := h
  exact ⟨a, c, rfl, hr.weaken (by decide) (fun q _ hq => by simp at hq; omega), ((Below.refl _ _).alloc (Nat.le_refl _) _).trans (hb.mono (by simp))⟩

theorem Heads_r {F : Nat → Prop} {w0 : World} {b k i a : Value} {t : Tm} (ht : IsTm F w0 b k i a t) (w : World) (hw : Keep F w0 w) (hsz : t.full ≤ 90000) (hfit : t.Fit) :
    Calls Try.prog 65 #[.agg #[b, k, i, a]] w (FreshHds (t.heads 0) w) := by
  have H := fun w1 hk => heads_r t _ _ _ _ _ _ ht 0 w1 hk (by omega) (by omega) hfit
  clear ht
  go_enter Try.func65, Try.ntmps65
  go_wp2_with fail
  refine (H _ (hw.alloc _)).mono ?_
  intro e w1 h
  obtain ⟨ra, rc, rfl, hr, hb⟩ := h.up rfl
  clear h H
  go_wp2_with fail
  go_ret
  exact ⟨ra, rc, rfl, hr, hb⟩

theorem hds_cells {F : Nat → Prop} {w : World} {a : Option Addr} {n c : Nat} {l : List (Int × Int)} (h : IsSl rpHd F w (.slice a n c) l) : n = l.length ∧ (l.length ≤ maxLen ∧ l.length ≤ c) ∧ ∃ (bl off : Nat),
    (0 < l.length → a = some ⟨bl, off, none⟩ ∧ F bl) ∧ ∀ j (hj : j < l.length), w.cell? ⟨bl, off + j * 2, none⟩ = some (.int .i64 l[j].1) ∧ w.cell? ⟨bl, off + j * 2 + 1, none⟩ = some (.int .i64 l[j].2) := by
  obtain ⟨a', c', bl, off, Y, hv, hm, ha, h1, h2⟩ := h
  cases hv
  refine ⟨rfl, hm, bl, off, ha, fun j hj => ?_⟩
  have hy : Y j = [.int .i64 l[j].1, .int .i64 l[j].2] := h2 j hj
  exact ⟨h1 j 0 _ hj (by rw [hy]; rfl), h1 j 1 _ hj (by rw [hy]; rfl)⟩

end Go.Proofs.Ytdmiekaeodcehaa

namespace Go.Proofs.Ytdmiekaeodcehaa
open Go.RowKit Go.Shelf
attribute [local go_sem] Oper.semAt_some

def hdOf (p : Nat × Nat × Tm) : Option (Int × Int) := if p.2.2.kind ≠ 0 then some (p.2.2.kind, p.2.2.index) else if (p.1 : Int) ≤ p.2.2.index then some (0, IntKind.i64.wrap (p.2.2.index - p.1)) else none
theorem heads_pres_of {l : List Tm} (h : ∀ t ∈ l, ∀ (s d : Nat), t.Fit → t.heads s = (t.pre s d).filterMap hdOf) : ∀ (s d : Nat), (∀ t ∈ l, t.Fit) → Tm.headss l s = (Tm.pres l s d).filterMap hdOf := by
  induction l with
  | nil => intro s d _; simp [Tm.pres, Tm.headss]
  | cons t l ih =>
    intro s d hf
    rw [Tm.pres, Tm.headss, List.filterMap_append, h t (by simp) s d (hf t (by simp)), ih (fun u hu => h u (by simp [hu])) s d (fun u hu => hf u (by simp [hu]))]
theorem heads_pre (t : Tm) : ∀ (s d : Nat), t.Fit → t.heads s = (t.pre s d).filterMap hdOf := by
  induction t using Tm.ind with
  | h b k i a ih =>
    intro s d hf
    obtain ⟨hi0, hi1, hfa⟩ := Tm.fit_iff.1 hf
    rw [Tm.pre_eq, Tm.heads_eq _ _ _ _ _ ((s + b.length : Nat) : Int) (by simp), List.filterMap_cons, heads_pres_of ih _ _ hfa]
    have e : hdOf (s + b.length, d, .mk b k i a) = if k ≠ 0 then some (k, i) else if ((s + b.length : Nat) : Int) ≤ i then some (0, IntKind.i64.wrap (i - ((s + b.length : Nat) : Int))) else none := rfl
    rw [e]
    by_cases hk : k = 0
    · have hk' : ¬ (k ≠ 0) := by simpa using hk
      by_cases h : ((s + b.length : Nat) : Int) ≤ i
      · have hw : IntKind.i64.wrap (i - ((s + b.length : Nat) : Int)) = i - ((s + b.length : Nat) : Int) := IntWalk.i64_in _ (by omega)
        simp only [if_neg hk', if_pos h, hw]; rfl
      · simp only [if_neg hk', if_neg h]; rfl
    · simp only [if_pos hk]; rfl

end Go.Proofs.Ytdmiekaeodcehaa

namespace Go.Proofs.Ytdmiekaeodcehaa
open Go.RowKit

def sortU (zs : List Int) : List Int := Lib.compact (zs.mergeSort fun x y => decide (x ≤ y))

theorem keeps_zero (d : Array Int) : Lib.keeps d 0 = true := by simp [Lib.keeps]
theorem upTo_rises (d : Array Int) : ∀ m, m ≤ d.size → (∀ i j, i ≤ j → j < d.size → d[i]! ≤ d[j]!) → (Lib.compactUpTo d m).Pairwise (· < ·) ∧ (∀ x ∈ Lib.compactUpTo d m, ∃ j, j < m ∧ d[j]! = x) ∧ (∀ j, j < m → d[j]! ∈ Lib.compactUpTo d m) := by
  intro m
  induction m with
  | zero => intro _ _; simp [Lib.compactUpTo]
  | succ m ih =>
    intro hm hs
    obtain ⟨h1, h2, h3⟩ := ih (by omega) hs
    rw [Lib.compactUpTo_succ]
    by_cases hk : Lib.keeps d m = true
    · rw [if_pos hk]
      refine ⟨?_, ?_, ?_⟩
      · rw [List.pairwise_append]
        refine ⟨h1, by simp, fun a ha b hb => ?_⟩
        obtain ⟨j, hj, rfl⟩ := h2 a ha
        simp at hb; subst hb
        have hle := hs j (m - 1) (by omega) (by omega)
        have hle2 := hs (m - 1) m (by omega) (by omega)
        have hne : d[m - 1]! ≠ d[m]! := by
          cases m with
          | zero => omega
          | succ k =>
            have : d[k + 1]! ≠ d[k]! := by simpa [Lib.keeps] using hk
            exact fun e => this e.symm
        omega
      · intro x hx
        rcases List.mem_append.1 hx with hx | hx
        · obtain ⟨j, hj, e⟩ := h2 x hx; exact ⟨j, by omega, e⟩
        · simp at hx; exact ⟨m, by omega, hx.symm⟩
      · intro j hj
        rw [List.mem_append]
        by_cases hjm : j = m
        · subst hjm; right; simp
        · left; exact h3 j (by omega)
    · rw [if_neg hk, List.append_nil]
      refine ⟨h1, fun x hx => by obtain ⟨j, hj, e⟩ := h2 x hx; exact ⟨j, by omega, e⟩, fun j hj => ?_⟩
      by_cases hjm : j = m
      · subst hjm
        cases j with
        | zero => exact absurd (keeps_zero d) hk
        | succ k =>
          have : d[k + 1]! = d[k]! := by simpa [Lib.keeps] using hk
          rw [this]; exact h3 k (by omega)
      · exact h3 j (by omega)

theorem sortU_spec (zs : List Int) : (sortU zs).Pairwise (· < ·) ∧ ∀ x, x ∈ sortU zs ↔ x ∈ zs := by
  obtain ⟨ss, hss⟩ : ∃ ss, (zs.mergeSort fun x y => decide (x ≤ y)) = ss := ⟨_, rfl⟩
  have hp : ss.Perm zs := by rw [← hss]; exact List.mergeSort_perm _ _
  have hs : ss.Pairwise (fun x y => x ≤ y) := by
    have := List.pairwise_mergeSort (le := fun x y : Int => decide (x ≤ y)) (fun a b c h1 h2 => by simp at *; omega) (fun a b => by simp; omega) zs
    rw [hss] at this
    simpa using this
  have hs' : ∀ i j, i ≤ j → j < ss.toArray.size → ss.toArray[i]! ≤ ss.toArray[j]! := by
    intro i j hij hj
    have hj' : j < ss.length := by simpa using hj
    have hi' : i < ss.length := by omega
    simp only [List.getElem!_toArray, getElem!_pos ss i hi', getElem!_pos ss j hj']
    by_cases e : i = j
    · subst e; exact Int.le_refl _
    · exact List.pairwise_iff_getElem.1 hs i j hi' hj' (by omega)
  obtain ⟨h1, h2, h3⟩ := upTo_rises ss.toArray ss.length (by simp) hs'
  unfold sortU
  rw [hss]
  refine ⟨h1, fun x => ?_⟩
  rw [← hp.mem_iff]
  constructor
  · intro hx
    obtain ⟨j, hj, e⟩ := h2 x hx
    rw [← e]
    simp only [List.getElem!_toArray, getElem!_pos ss j hj]
    exact List.getElem_mem hj
  · intro hx
    obtain ⟨j, hj, e⟩ := List.getElem_of_mem hx
    have := h3 j hj
    simp only [List.getElem!_toArray, getElem!_pos ss j hj, e] at this
    exact this
theorem rises_eq : ∀ {l r : List Int}, l.Pairwise (· < ·) → r.Pairwise (· < ·) → (∀ x, x ∈ l ↔ x ∈ r) → l = r
  | [], [], _, _, _ => rfl
  | [], b :: r, _, _, h => absurd ((h b).2 (by simp)) (by simp)
  | a :: l, [], _, _, h => absurd ((h a).1 (by simp)) (by simp)
  | a :: l, b :: r, h1, h2, h => by
    rw [List.pairwise_cons] at h1 h2
    have hab : a = b := by
      have ha := (h a).1 (by simp)
      have hb := (h b).2 (by simp)
      rcases List.mem_cons.1 ha with e | ha
      · exact e
      rcases List.mem_cons.1 hb with e | hb
      · exact e.symm
      have := h2.1 a ha; have := h1.1 b hb; omega
    subst hab
    rw [rises_eq h1.2 h2.2 fun x => ?_]
    constructor
    · intro hx
      rcases List.mem_cons.1 ((h x).1 (by simp [hx])) with e | hx'
      · have := h1.1 x hx; omega
      · exact hx'
    · intro hx
      rcases List.mem_cons.1 ((h x).2 (by simp [hx])) with e | hx'
      · have := h2.1 x hx; omega
      · exact hx'
theorem sortU_twice (zs : List Int) : sortU (zs ++ zs) = sortU zs :=
  rises_eq (sortU_spec _).1 (sortU_spec _).1 fun x => by rw [(sortU_spec _).2, (sortU_spec _).2]; simp

theorem sort_own {base : Nat} {w : World} {v : Value} {zs : List Int} (h : w.ownsRow base 3 1 v zs.length (zs.map (Value.int .i64))) (hl : zs.length ≤ 1000000) :
    Calls Try.prog 99 #[v] w fun e w' => e = .returned (.tuple #[]) ∧ w'.ownsRow base 3 1 v zs.length ((zs.mergeSort fun x y => decide (x ≤ y)).map (Value.int .i64)) ∧ w.grownBy w' v.ownBlock := by
  by_cases hv : v = .slice none 0 0
  · subst hv
    have h0 : zs = [] := by
      rcases h.2 with ⟨_, e⟩ | ⟨_, _, _, e, _⟩
      · exact List.eq_nil_of_length_eq_zero e
      · cases e
    subst h0
    refine (Try.slices_Sort_int_none none 0 w).mono ?_
    rintro e w' ⟨rfl, rfl⟩
    exact ⟨rfl, by simpa using h, ⟨rfl, rfl, rfl, Nat.le_refl _, fun _ _ _ => rfl⟩⟩
  · obtain ⟨g, cap, rfl, hb, hlt, hn, hm, _, hH⟩ := Lib.holds_of_ownsRow h hv
    refine (Try.slices_Sort_int g 0 cap zs w hH hlt (by omega)).mono ?_
    rintro e w' ⟨rfl, n, os, rfl⟩
    refine ⟨rfl, ?_, grownBy_sortedI _⟩
    rcases h.2 with ⟨e, _⟩ | ⟨g', cap', cur, e, _, hg, _, _, hc, _⟩
    · cases e
    · cases e
      exact ownsRow_sortedI (ss := zs) (by simp) hb hg hn hm hc

theorem compact_own {base : Nat} {w : World} {v : Value} {zs : List Int} (h : w.ownsRow base 3 1 v zs.length (zs.map (Value.int .i64))) (hl : zs.length ≤ 1000000) :
    Calls Try.prog 100 #[v] w fun e w' => ∃ v', e = .returned v' ∧ w'.ownsRow base 3 1 v' (Lib.compact zs).length ((Lib.compact zs).map (Value.int .i64)) ∧ w.grownBy w' v.ownBlock := by
  by_cases hv : v = .slice none 0 0
  · subst hv
    have h0 : zs = [] := by
      rcases h.2 with ⟨_, e⟩ | ⟨_, _, _, e, _⟩
      · exact List.eq_nil_of_length_eq_zero e
      · cases e
    subst h0
    refine (Try.slices_Compact_int_empty none 0 w).mono ?_
    rintro e w' ⟨rfl, rfl⟩
    exact ⟨_, rfl, h, ⟨rfl, rfl, rfl, Nat.le_refl _, fun _ _ _ => rfl⟩⟩
  · obtain ⟨g, cap, rfl, hb, hlt, hn, hm, _, hH⟩ := Lib.holds_of_ownsRow h hv
    refine (Try.slices_Compact_int g 0 cap zs w hH (by omega) hn).mono ?_
    rintro e w' ⟨rfl, q, rfl⟩
    have hcl := Lib.compact_length_le zs
    refine ⟨_, rfl, ?_, ?_⟩
    · have := Lib.ownsRow_putRow (q := q) (k := (Lib.compact zs).length) (ys := Lib.compact zs ++ List.replicate (zs.length - (Lib.compact zs).length) 0) h (by simp; omega) hcl
      simpa using this
    · have := grownBy_sortedI (w := w) (g := g) (n := q) (os := #[]) (Lib.compact zs ++ List.replicate (zs.length - (Lib.compact zs).length) 0).toArray
      simpa [Value.ownBlock] using this

theorem own_ints {base : Nat} {w : World} {v : Value} {l : List Int} (h : w.ownsRow base 3 1 v l.length (l.map (Value.int .i64))) : ∃ a c, v = .slice a l.length c ∧ IsSl rpInt (fun q => base ≤ q) w v l := by
  have hA : Acc rpInt 3 base (fun _ => False) w v l := by
    refine ⟨l.map (fun z => [.int .i64 z]), by simp, ?_, fun i hi => ⟨[.int .i64 l[i]], by simp [List.getElem?_eq_getElem hi], rfl⟩⟩
    have : (l.map (fun z => [Value.int .i64 z])).flatten = l.map (Value.int .i64) := by
      clear h
      induction l with
      | nil => rfl
      | cons a l ih => simp only [List.map_cons, List.flatten_cons, ih]; rfl
    rw [this]; exact h
  obtain ⟨a, c, hv⟩ := hA.len_shape
  exact ⟨a, c, hv, hA.sl (fun _ _ h => h.elim) (fun _ h => h)⟩
end Go.Proofs.Ytdmiekaeodcehaa

namespace Go.Proofs.Ytdmiekaeodcehaa
open Go.RowKit

theorem leaves_marks {F : Fence} {n : Nat} {P : Program} {fn : Func} {tmps : Array Value} {R : Ending → World → Prop} (B : Nat) : ∀ (Ds : List Nat) (w : World), Ds.Nodup → B ≤ w.heap.size → (∀ D ∈ Ds, B ≤ D ∧ w.heap[D]? = some (.deferred (some []))) →
    (∀ w', Keep (fun _ => True) w w' → Below B w w' → LeavesIn F n P fn tmps R [] .returning w') → LeavesInM F n P fn tmps R (Ds.map fun D => { target := .collected D, args := #[] }) .returning w
  | [], w, _, _, _, hk => hk w (Keep.refl _ _) (Below.refl _ _)
  | D :: Ds, w, hd, hB, hD, hk => by
    rw [List.nodup_cons] at hd
    have h1 := hD D (by simp)
    have hlt : D < w.heap.size := (Array.getElem?_eq_some_iff.1 h1.2).1
    refine ⟨by simp, .inl ⟨D, _, rfl, run_takeDeferred h1.2, ?_⟩⟩
    have hbel : Below B w (w.putObj D (.deferred none)) := (Below.refl _ _).grown (grownBy_putObj' w D (.deferred none)) hB (fun r e => by cases e; exact h1.1)
    have hkp : Keep (fun _ => True) w (w.putObj D (.deferred none)) := fun o v k _ hv => cell_kept hv (grownBy_putObj' _ D (.deferred none)) (fun r e => by cases e; exact ⟨_, h1.2, rfl⟩)
    refine leaves_marks B Ds _ hd.2 (by simpa using hB) (fun D' hD' => ⟨(hD D' (by simp [hD'])).1, ?_⟩) fun w' hk' hb' => hk w' (hkp.trans hk') (hbel.trans hb')
    have hne : D' ≠ D := fun e => hd.1 (e ▸ hD')
    exact (World.putObj_heap_other hne).trans (hD D' (by simp [hD'])).2

theorem keepsOthers_grown {W W' : World} {row : Option Nat} (hg : W.grownBy W' row) (hr : ∀ r, row = some r → ∃ o : Obj, W.heap[r]? = some o ∧ o.isCells = true) : KeepsOthers W W' :=
  ⟨hg.size, fun k o ho hc => (hg.block k (Array.getElem?_eq_some_iff.1 ho).1 (fun e => by
    obtain ⟨o', ho', hc'⟩ := hr k e.symm
    rw [ho] at ho'; cases ho'; rw [hc] at hc'; cases hc')).trans ho⟩

theorem own_row {w : World} {base : Nat} {e : TypeId} {size : Nat} {v : Value} {n : Nat} {xs : List Value} (h : w.ownsRow base e size v n xs) : ∀ r, v.ownBlock = some r → base ≤ r ∧ ∃ cs, w.heap[r]? = some (.cells cs e (0, 0)) := by
  intro r hr
  rcases h.2 with ⟨rfl, _⟩ | ⟨g, cap, cur, rfl, hb, hg, _⟩
  · cases hr
  · cases hr; exact ⟨hb, _, hg⟩
theorem own_kept {w w' : World} {base : Nat} {e : TypeId} {size : Nat} {v : Value} {n : Nat} {xs : List Value} {row : Option Nat} (h : w.ownsRow base e size v n xs) (hg : w.grownBy w' row)
    (hr : ∀ r, row = some r → ∃ o : Obj, w.heap[r]? = some o ∧ ∀ cs, o ≠ .cells cs e (0, 0)) : w'.ownsRow base e size v n xs := by
  refine h.kept hg ?_
  cases hv : v.ownBlock with
  | none => exact .inl rfl
  | some g =>
    refine .inr fun e' => ?_
    obtain ⟨_, cs, hc⟩ := own_row h g hv
    obtain ⟨o, ho, hne⟩ := hr g e'.symm
    rw [hc] at ho; cases ho; exact hne cs rfl

structure OutAt (w : World) (Ds : List Nat) (vv : Value) (zs : List Int) (W : World) : Prop where
  box : Blk W w.heap.size #[vv] 43
  own : W.ownsRow (w.heap.size + 1) 3 1 vv zs.length (zs.map (Value.int .i64))
  nod : Ds.Nodup
  marks : ∀ D ∈ Ds, w.heap.size + 1 ≤ D ∧ W.heap[D]? = some (.deferred (some []))
  below : Below w.heap.size w W
def OutG (B k : Nat) (t : TypeId) : Prop := k < B ∨ (B < k ∧ t ≠ 3)
namespace OutAt
variable {w W W' : World} {Ds : List Nat} {vv : Value} {zs : List Int}
theorem lt (h : OutAt w Ds vv zs W) : ∀ D ∈ Ds, D < W.heap.size := fun D hD => (Array.getElem?_eq_some_iff.1 (h.marks D hD).2).1
theorem blw (h : OutAt w Ds vv zs W) (hb : Below W.heap.size W W') : OutAt w Ds vv zs W' :=
  ⟨h.box.below hb, ownsRow_below h.own hb, h.nod, fun D hD => ⟨(h.marks D hD).1, (hb.block D (h.lt D hD)).trans (h.marks D hD).2⟩, h.below.trans (hb.mono h.below.size)⟩
theorem alloc (h : OutAt w Ds vv zs W) (o : Obj) : OutAt w Ds vv zs (W.alloc o) := h.blw ((Below.refl _ _).alloc (Nat.le_refl _) _)
theorem grown {B : Nat} {row : Option Nat} (h : OutAt w Ds vv zs W) (hlt : ∀ D ∈ Ds, D < B) (hwB : w.heap.size < B) (hg : W.grownBy W' row)
    (hr : ∀ r, row = some r → B ≤ r ∧ ∃ o : Obj, W.heap[r]? = some o ∧ ∀ cs, o ≠ .cells cs 3 (0, 0)) : OutAt w Ds vv zs W' :=
  ⟨h.box.grown hg (fun e => by have := (hr _ e).1; omega), own_kept h.own hg (fun r e => (hr r e).2), h.nod,
    fun D hD => ⟨(h.marks D hD).1, (hg.block D (h.lt D hD) (fun e => by have := (hr _ e.symm).1; have := hlt D hD; omega)).trans (h.marks D hD).2⟩,
    h.below.grown hg h.below.size (fun r e => by have := (hr r e).1; omega)⟩
theorem mark (h : OutAt w Ds vv zs W) {D : Nat} (hD : W.heap[D]? = some (.deferred (some []))) (hn : ∀ D' ∈ Ds, D' < D) (hw : w.heap.size + 1 ≤ D) : OutAt w (D :: Ds) vv zs W :=
  ⟨h.box, h.own, List.nodup_cons.2 ⟨fun hm => by have := hn D hm; omega, h.nod⟩, fun D' h' => by
    rcases List.mem_cons.1 h' with rfl | h'
    · exact ⟨hw, hD⟩
    · exact h.marks D' h', h.below⟩
theorem push (h : OutAt w Ds vv zs W) (x : Int) {w3 : World} {v' : Value} (hg : (W.alloc (.cells #[.int .i64 x] 3)).grownBy w3 vv.ownBlock)
    (hown : w3.ownsRow (w.heap.size + 1) 3 1 v' (zs.length + 1) (zs.map (Value.int .i64) ++ [.int .i64 x])) :
    OutAt w Ds v' (zs ++ [x]) (w3.setCell ⟨w.heap.size, 0, none⟩ v') ∧ KeepsOthers W (w3.setCell ⟨w.heap.size, 0, none⟩ v') ∧ KeepC (OutG w.heap.size) W (w3.setCell ⟨w.heap.size, 0, none⟩ v') := by
  have ho1 := h.own.alloc (.cells #[.int .i64 x] 3)
  have h1 := h.alloc (.cells #[.int .i64 x] 3)
  have hrow := own_row ho1
  have hk3 : KeepsOthers (W.alloc (.cells #[.int .i64 x] 3)) w3 := keepsOthers_grown hg (fun r e => by
    obtain ⟨_, cs, hc⟩ := hrow r e; exact ⟨_, hc, rfl⟩)
  have hbox3 : Blk w3 w.heap.size #[vv] 43 := h1.box.grown hg (fun e => by have := (hrow _ e).1; omega)
  have hbel3 : Below w.heap.size w w3 := h1.below.grown hg h1.below.size (fun r e => by have := (hrow r e).1; omega)
  have hkc : KeepC (OutG w.heap.size) (W.alloc (.cells #[.int .i64 x] 3)) w3 := ⟨hg.size, fun k cs t fr hk hc => (hg.block k (Array.getElem?_eq_some_iff.1 hc).1 (fun e => by
    obtain ⟨hle, cs', hc'⟩ := hrow k e.symm
    rw [hc] at hc'; cases hc'
    rcases hk with hk | hk
    · omega
    · exact hk.2 rfl)).trans hc⟩
  refine ⟨⟨hbox3.set 0 _, ?_, h.nod, fun D hD => ⟨(h1.marks D hD).1, ?_⟩, hbel3.setCell (by simp) _⟩, (((KeepsOthers.alloc W _).trans hk3).trans (KeepsOthers.setCell _ _ _)), ?_⟩
  · have := ownsRow_setCell_below hown (a := ⟨w.heap.size, 0, none⟩) (by simp) v'
    simpa using this
  · exact (KeepsOthers.setCell w3 _ v').same D _ (hk3.same D _ (h1.marks D hD).2 rfl) rfl
  · exact (((KeepC.refl _ W).alloc _).trans hkc).setCell _ _ (fun t ht => by rcases ht with h | h <;> simp at h)
theorem push_box (h : OutAt w Ds vv zs W) {x : Int} {w3 : World} (hg : (W.alloc (.cells #[.int .i64 x] 3)).grownBy w3 vv.ownBlock) : Blk w3 w.heap.size #[vv] 43 :=
  (h.alloc (.cells #[.int .i64 x] 3)).box.grown hg (fun e => by have := (own_row (h.own.alloc (.cells #[.int .i64 x] 3)) _ e).1; omega)
theorem turned (h : OutAt w Ds vv zs W) {ys : List Int} {W' : World} (hg : W.grownBy W' vv.ownBlock) {v' : Value} (hown : W'.ownsRow (w.heap.size + 1) 3 1 v' ys.length (ys.map (Value.int .i64))) :
    (Blk W' w.heap.size #[vv] 43 ∧ ∀ D ∈ Ds, w.heap.size + 1 ≤ D ∧ W'.heap[D]? = some (.deferred (some []))) ∧ Below w.heap.size w W' := by
  have hrow := own_row h.own
  refine ⟨⟨h.box.grown hg (fun e => by have := (hrow _ e).1; omega), fun D hD => ⟨(h.marks D hD).1, ?_⟩⟩, h.below.grown hg h.below.size (fun r e => by have := (hrow r e).1; omega)⟩
  refine (hg.block D (h.lt D hD) (fun e => ?_)).trans (h.marks D hD).2
  obtain ⟨_, cs, hc⟩ := hrow D e.symm
  rw [(h.marks D hD).2] at hc; cases hc
theorem sorted (h : OutAt w Ds vv zs W) {ys : List Int} {W' : World} (hg : W.grownBy W' vv.ownBlock) (hown : W'.ownsRow (w.heap.size + 1) 3 1 vv ys.length (ys.map (Value.int .i64))) : OutAt w Ds vv ys W' :=
  let q := h.turned hg hown
  ⟨q.1.1, hown, h.nod, q.1.2, q.2⟩
theorem leave (h : OutAt w Ds vv zs W) {ys : List Int} {W' : World} (hg : W.grownBy W' vv.ownBlock) {v' : Value} (hown : W'.ownsRow (w.heap.size + 1) 3 1 v' ys.length (ys.map (Value.int .i64)))
    {F : Fence} {n : Nat} {P : Program} {fn : Func} {tmps : Array Value} (hr : ∀ w3 : World, (results fn tmps).run P w3 = .ok v' w3) :
    LeavesInM F n P fn tmps (FreshInts ys w) (Ds.map fun D => { target := .collected D, args := #[] }) .returning W' := by
  obtain ⟨⟨hb, hm⟩, hbel⟩ := h.turned hg hown
  refine leaves_marks (w.heap.size + 1) Ds W' h.nod (by have := hb.lt; omega) hm (fun w3 hk hb3 => ?_)
  obtain ⟨a, c, hv, hs⟩ := own_ints hown
  subst hv
  exact ⟨_, hr w3, a, c, rfl, (hs.keep (fun k o u _ hu => hk k o u trivial hu)).weaken (by decide) (fun q _ hq => by omega), hbel.trans (hb3.mono (by omega))⟩
end OutAt
end Go.Proofs.Ytdmiekaeodcehaa

namespace Go.Proofs.Ytdmiekaeodcehaa
open Go.RowKit Go.Shelf
attribute [local go_sem] Oper.semAt_some

theorem tms_cells {F : Nat → Prop} {w : World} {v : Value} {l : List Tm} (h : IsSl rpTm F w v l) : ∃ a c, v = .slice a l.length c ∧ (l.length ≤ maxLen ∧ l.length ≤ c) ∧ ∃ (bl off : Nat),
    (0 < l.length → a = some ⟨bl, off, none⟩ ∧ F bl) ∧ ∀ j (hj : j < l.length), ∃ b k i s, w.cell? ⟨bl, off + j * 4, none⟩ = some b ∧ w.cell? ⟨bl, off + j * 4 + 1, none⟩ = some k ∧ w.cell? ⟨bl, off + j * 4 + 2, none⟩ = some i ∧ w.cell? ⟨bl, off + j * 4 + 3, none⟩ = some s ∧ IsTm F w b k i s l[j] := by
  obtain ⟨a, c, bl, off, X, hv, hm, ha, h1, h2⟩ := h
  refine ⟨a, c, hv, hm, bl, off, ha, fun j hj => ?_⟩
  obtain ⟨b, k, i, s, hx, ht⟩ := h2 j hj
  exact ⟨b, k, i, s, h1 j 0 b hj (by rw [hx]; rfl), h1 j 1 k hj (by rw [hx]; rfl), h1 j 2 i hj (by rw [hx]; rfl), h1 j 3 s hj (by rw [hx]; rfl), ht⟩

def metasH (l : List (Int × Int)) : List Int := l.filterMap fun p => if p.1 = 2 then some p.2 else none
def metasP (l : List (Nat × Nat × Tm)) : List Int := l.filterMap fun p => if p.2.2.kind = 2 then some p.2.2.index else none
def metasL (l : List Tm) : List Int := l.flatMap fun t => metasP (t.pre 0 1)
theorem metasL_take (l : List Tm) (j : Nat) (h : j < l.length) : metasL (l.take (j + 1)) = metasL (l.take j) ++ metasP (l[j].pre 0 1) := by
  rw [List.take_succ_eq_append_getElem h]; unfold metasL; rw [List.flatMap_append]; simp
theorem metasL_len (l : List Tm) (m : Nat) (h : ∀ t ∈ l, t.full ≤ m) : (metasL l).length ≤ l.length * m := by
  induction l with
  | nil => simp [metasL]
  | cons t l ih =>
    have h1 := h t (by simp)
    have h2 := ih (fun u hu => h u (by simp [hu]))
    have h3 : (metasL (t :: l)).length = (metasP (t.pre 0 1)).length + (metasL l).length := by simp [metasL]
    have h4 : (metasP (t.pre 0 1)).length ≤ (t.pre 0 1).length := List.length_filterMap_le _ _
    rw [Tm.pre_length] at h4
    have h5 := Tm.size_le_full t
    rw [h3, List.length_cons, Nat.succ_mul]; omega
theorem metasH_pre (t : Tm) (hf : t.Fit) : metasH (t.heads 0) = metasP (t.pre 0 1) := by
  have e := heads_pre t 0 1 hf
  rw [show t.heads 0 = t.heads ((0 : Nat) : Int) from rfl, e]
  unfold metasH metasP
  rw [List.filterMap_filterMap]
  congr 1
  funext p
  unfold hdOf
  by_cases h0 : p.2.2.kind = 0
  · by_cases h1 : (p.1 : Int) ≤ p.2.2.index
    · simp [h0, h1]
    · simp [h0, h1]
  · simp [h0]

set_option maxRecDepth 100000 in
set_option maxHeartbeats 4000000 in
theorem metas6_k {F : Nat → Prop} {w : World} {v : Value} {l : List Tm} (h : IsSl rpTm F w v l) (hl : l.length ≤ 9) (hsz : ∀ t ∈ l, t.full ≤ 90000) : Calls Try.prog 47 #[v] w (FreshInts (sortU (metasL l)) w) := by
  refine (callsIn_wide (n := 9)).1 ?_
  have Ht := Lib.hid (h.weaken (F' := fun _ => True) (by decide) fun _ _ _ => trivial)
  obtain ⟨a, c, rfl, hm, bl, off, ha, hc⟩ := tms_cells Ht.out
  obtain ⟨ll, hll⟩ : ∃ x, l.length = x := ⟨_, rfl⟩
  clear h Ht
  have Hm := Lib.hid hm; clear hm
  have Hc := Lib.hid hc; clear hc
  have Hsz := Lib.hid hsz; clear hsz
  rw [hll] at ha hl ⊢
  obtain ⟨i2, hi2, hz0, hz1, hz2⟩ := info_parts infoI
  refine callsIn_of_wp_marks Try.func47 rfl trivial ?_ rfl
  simp only [Try.ntmps47, List.size_toArray, List.length_cons, List.length_nil, Nat.reduceAdd, Nat.reduceSub, Array.replicate_succ, Array.replicate_zero, List.push_toArray, List.append_toArray, List.nil_append, List.cons_append]
  gi_wp2_with fail
  refine wpIn_loop (fun a' w' => ∃ (j : Nat) (Ds : List Nat) (zs : List Int) (vv u5 u11 u12 u13 u14 u15 u28 : Value), a' = { tmps := #[.slice a ll c, undef, .slice none 0 0, .pointer (some ⟨w.heap.size, 0, none⟩), undef, u5, undef, undef, .slice a ll c, .int .i64 ll, .int .i64 j, u11, u12, u13, u14, u15, undef, undef, undef, undef, undef, undef, undef, undef, undef, undef, undef, undef, u28, undef, undef, undef, undef], defers := Ds.map fun D => { target := .collected D, args := #[] } } ∧
      j ≤ ll ∧ Hid (zs = metasL (l.take j)) ∧ OutAt w Ds vv zs w') (fun a' _ => ll - (intOf (a'.tmps.getD 10 undef)).toNat) ?start ?round
  case start =>
    refine ⟨0, [], [], .slice none 0 0, undef, undef, undef, undef, undef, undef, undef, rfl, by omega, by show _ = _; simp [metasL], ?_⟩
    exact ⟨Blk.new _ _ _ rfl, World.ownsRow_nil _ _ _ _, by simp, by simp, (Below.refl _ _).alloc (Nat.le_refl _) _⟩
  case round =>
    rintro a' W ⟨j, Ds, zs, vv, u5, u11, u12, u13, u14, u15, u28, rfl, hj, hzs, hO⟩
    have hj0 : (0 : Int) ≤ (j : Int) := Int.natCast_nonneg _
    have HO := Lib.hid hO; clear hO
    by_cases hlt : j < ll
    · have hj1 : (j : Int) < (ll : Int) := by omega
      obtain ⟨rfl, _⟩ := ha (by omega)
      obtain ⟨vb, vk, vi, vs, e1, e2, e3, e4, hty⟩ := Hc.out j (by omega)
      have hW := HO.out.below
      have e1 := ((Keep.refl (fun _ => True) _).below hW) _ _ _ trivial e1
      have e2 := ((Keep.refl (fun _ => True) _).below hW) _ _ _ trivial e2
      have e3 := ((Keep.refl (fun _ => True) _).below hW) _ _ _ trivial e3
      have e4 := ((Keep.refl (fun _ => True) _).below hW) _ _ _ trivial e4
      have Htk := Lib.hid (metasL_take l j (by omega))
      have hts := Hsz.out l[j] (List.getElem_mem _)
      obtain ⟨t, ht⟩ : ∃ t, l[j] = t := ⟨_, rfl⟩
      rw [ht] at hty Htk hts
      clear ht
      obtain ⟨pa, pc, qa, qc, rfl, rfl, rfl, rfl⟩ := hty.shape
      have Hty := Lib.hid hty; clear hty
      obtain ⟨x1, hx1⟩ : ∃ x, t.binds.length = x := ⟨_, rfl⟩
      obtain ⟨x2, hx2⟩ : ∃ x, t.args.length = x := ⟨_, rfl⟩
      obtain ⟨x3, hx3⟩ : ∃ x, t.kind = x := ⟨_, rfl⟩
      obtain ⟨x4, hx4⟩ : ∃ x, t.index = x := ⟨_, rfl⟩
      rw [hx1, hx2, hx3, hx4] at Hty
      rw [hx1] at e1
      rw [hx3] at e2
      rw [hx4] at e3
      rw [hx2] at e4
      clear hx1 hx2 hx3 hx4
      gi_wp2_with fail
      refine ⟨trivial, (each6_k _ _ _ _ _ _ ⟨_, _, _, rfl⟩ ⟨_, rfl⟩ ⟨_, rfl⟩ ⟨_, _, _, rfl⟩).mono ?_⟩
      rintro e w' ⟨rfl, rfl⟩
      gi_wp2_with fail
      have HO5 := Lib.hid ((HO.out.alloc (.cells #[.slice pa x1 pc, .int .i64 x3, .int .i64 x4, .slice qa x2 qc] 34)).alloc (.cells #[.slice pa x1 pc, .int .i64 x3, .int .i64 x4, .slice qa x2 qc] 34))
      obtain ⟨w5, hw5⟩ : ∃ w5, (W.alloc (.cells #[.slice pa x1 pc, .int .i64 x3, .int .i64 x4, .slice qa x2 qc] 34)).alloc (.cells #[.slice pa x1 pc, .int .i64 x3, .int .i64 x4, .slice qa x2 qc] 34) = w5 := ⟨_, rfl⟩
      have hz : w5.heap.size = W.heap.size + 2 := by rw [← hw5]; simp
      have y3 : Blk w5 (W.heap.size + 1) #[.slice pa x1 pc, .int .i64 x3, .int .i64 x4, .slice qa x2 qc] 34 := by rw [← hw5]; exact Blk.new _ _ _ (by simp)
      rw [hw5] at HO5 ⊢
      clear hw5
      have hsz1 := HO.out.box.lt
      have hlts := HO.out.lt
      clear HO
      have Hlts : Hid (∀ D ∈ Ds, D < w5.heap.size) := fun D hD => by have := hlts D hD; omega
      clear hlts
      refine range_softA (Ok := SpotOk) (fun o h => .inl h) rfl (by omega) (gf := 141) (lb := #[.pointer (some ⟨W.heap.size + 1, 0, none⟩)]) rfl trivial (enters_of Try.func141 (by kernel_rfl) rfl)
        (each6_soft (OutG w.heap.size) (fun k _ _ hk => .inl hk) Hty.out (by omega) (9 - 1) w5 (fun k _ hk ht => .inr ⟨by omega, ht⟩) ((Keep.refl _ _).below HO5.out.below) (W.heap.size + 1) y3)
        (fun h h' => h.trans h') (fun W l o o' _ hl ho _ => KeepC.putObj _ W l o o' hl ho) (Below.refl _ _) (fun _ => rfl)
        (fun pre V => ∃ v', OutAt w Ds v' (zs ++ metasP (pre.map Hit6.key)) V)
        (fun _ _ _ => False)
        (fun pre A B row ⟨v', h⟩ hg hr => ⟨v', h.grown Hlts.out (by omega) hg (fun r e => by
          obtain ⟨h1, o, ho, hc⟩ := hr r e
          refine ⟨h1, o, ho, fun cs e => ?_⟩
          subst e
          rcases hc with hc | ⟨cs', fr, hc⟩
          · simp [Obj.isCells] at hc
          · cases hc)⟩)
        (fun _ _ _ _ _ hs _ _ => hs)
        ⟨vv, by simpa [metasP] using HO5.out⟩
        (fun x a' V => ∃ Bx, Blk V Bx #[.slice x.pb x.t.binds.length x.cb, .int .i64 x.t.kind, .int .i64 x.t.index, .slice x.pa x.t.args.length x.ca] 34 ∧ a' = { tmps := #[.slice (some ⟨bl, off, none⟩) ll c, undef, .slice none 0 0, .pointer (some ⟨w.heap.size, 0, none⟩), undef, .pointer (some ⟨W.heap.size, 0, none⟩), undef, .pointer (some ⟨Bx, 0, none⟩), .slice (some ⟨bl, off, none⟩) ll c, .int .i64 ll, .int .i64 j, .bool true, .pointer (some ⟨bl, off + j * 4, none⟩), .agg #[.slice pa x1 pc, .int .i64 x3, .int .i64 x4, .slice qa x2 qc], .agg #[.slice pa x1 pc, .int .i64 x3, .int .i64 x4, .slice qa x2 qc], .func (.func 141) #[] #[.pointer (some ⟨W.heap.size + 1, 0, none⟩)], .agg #[.int .i64 x.s, .int .i64 x.d], .agg #[.slice x.pb x.t.binds.length x.cb, .int .i64 x.t.kind, .int .i64 x.t.index, .slice x.pa x.t.args.length x.ca], undef, undef, undef, undef, undef, undef, undef, undef, undef, undef, u28, undef, undef, undef, undef], defers := [] })
        (fun x a' W l o o' hl ho hoc => by
          rintro ⟨Bx, h2, h3⟩
          have hne : l ≠ Bx := fun e => by
            subst e
            have hb : W.heap[l]? = _ := h2
            rw [hb] at ho; cases ho; simp [Obj.isCells] at hoc
          exact ⟨Bx, (World.putObj_heap_other (Ne.symm hne)).trans h2, h3⟩) ?assign ?body ?done ?stop
      case assign =>
        rintro l pre x V K ⟨v', hV⟩ hK
        have HK := Lib.hid hK; clear hK
        have HV := Lib.hid hV; clear hV
        simp only [Hit6.enc] at *
        gi_wp2
        exact HK.out _ _ ((KeepsOthers.alloc _ _).from _) ((KeepC.refl _ V).alloc _) ⟨v', HV.out.alloc _⟩ ⟨V.heap.size, Blk.new _ _ _ rfl, rfl⟩
      case body =>
        rintro l' pre x a' V ⟨v', hV⟩ hlt' ⟨Bx, bX, rfl⟩
        have c1 : V.cell? ⟨w.heap.size, 0, none⟩ = some v' := hV.box.cell rfl
        have cx1 : V.cell? ⟨Bx, 1, none⟩ = some (.int .i64 x.t.kind) := bX.cell rfl
        have cx2 : V.cell? ⟨Bx, 2, none⟩ = some (.int .i64 x.t.index) := bX.cell rfl
        have hlen0 : (zs ++ metasP (pre.map Hit6.key)).length ≤ 900000 := by
          have h1 : (metasL (l.take j)).length ≤ 720000 := by
            have := metasL_len (l.take j) 90000 (fun t ht => Hsz.out t (List.mem_of_mem_take ht))
            have h2 : (l.take j).length ≤ 8 := by simp; omega
            exact Nat.le_trans this (Nat.le_trans (Nat.mul_le_mul_right 90000 h2) (by decide))
          have h2 : (metasP (pre.map Hit6.key)).length ≤ pre.length := by
            have := List.length_filterMap_le (fun p : Nat × Nat × Tm => if p.2.2.kind = 2 then some p.2.2.index else none) (pre.map Hit6.key)
            simpa [metasP] using this
          have h3 := Tm.size_le_full t
          rw [hzs.out, List.length_append]
          omega
        have hkey : metasP ((pre ++ [x]).map Hit6.key) = metasP (pre.map Hit6.key) ++ (if x.t.kind = 2 then [x.t.index] else []) := by
          unfold metasP
          rw [List.map_append, List.filterMap_append]
          congr 1
          by_cases hk : x.t.kind = 2
          · simp [Hit6.key, hk]
          · simp [Hit6.key, hk]
        have hkey2 : zs ++ metasP ((pre ++ [x]).map Hit6.key) = (zs ++ metasP (pre.map Hit6.key)) ++ (if x.t.kind = 2 then [x.t.index] else []) := by rw [hkey, List.append_assoc]
        clear hkey
        obtain ⟨zp, hzp⟩ : ∃ zp, zs ++ metasP (pre.map Hit6.key) = zp := ⟨_, rfl⟩
        rw [hzp] at hV hkey2 hlen0
        obtain ⟨kk, hkk⟩ : ∃ k, x.t.kind = k := ⟨_, rfl⟩
        obtain ⟨ii, hii⟩ : ∃ k, x.t.index = k := ⟨_, rfl⟩
        rw [hkk, hii] at hkey2
        rw [hkk] at cx1 ⊢
        rw [hii] at cx2 ⊢
        clear hzp hkk hii
        have HV := Lib.hid hV; clear hV
        have hsz3 := HV.out.below.size
        have f0 := HV.out.box.free 0
        by_cases hk : kk = 2
        · subst hk
          rw [if_pos rfl] at hkey2
          have Hkey := Lib.hid hkey2; clear hkey2
          gi_wp2_with (gi_at_builtin; refine wpListIn_append_own _ rfl _ _ 43 rfl (w.heap.size + 1) 3 i2 _ 1 8 Try.underlying43 hi2 hz0 hz1 hz2 rfl (by decide) v' zp.length (zp.map (Value.int .i64)) rfl (HV.out.own.alloc _) ⟨V.heap.size, 0, none⟩ 1 1 [.int .i64 ii] rfl rfl (fun jj u hu => by
              cases jj with
              | zero => simp at hu; subst hu; exact (Blk.new V #[.int .i64 ii] 3 rfl).cell rfl
              | succ _ => simp at hu) (by simp [Value.oneCell']) (by simp [maxLen]; omega) (by omega) (by have := HV.out.box.lt; simp; omega) ?_; intro v2 w3 hown3 hg3 hnil3; have Hg3 := Lib.hid hg3; obtain ⟨g3, cap3, rfl⟩ := ownsRow_succ hown3; have Hown3 := Lib.hid hown3; clear hown3 hg3 hnil3; have c3 := (HV.out.push_box Hg3.out).cell (i := 0) rfl; have f3 := (HV.out.push_box Hg3.out).free 0)
          obtain ⟨q1, q2, q3⟩ := HV.out.push ii Hg3.out Hown3.out
          exact ⟨q2.from _, q3, _, by rw [Hkey.out]; exact q1⟩
        · rw [if_neg hk, List.append_nil] at hkey2
          have Hkey := Lib.hid hkey2; clear hkey2
          have hk' : (kk == 2) = false := by simpa using hk
          gi_wp2
          exact ⟨(KeepsOthers.refl _).from _, KeepC.refl _ _, _, by rw [Hkey.out]; exact HV.out⟩
      case done =>
        rintro D ys V hD hys ⟨v', hV⟩ hK
        have hV2 := hV.mark hK (fun D' h' => by have := Hlts.out D' h'; omega) (by omega)
        have Hz : Hid (zs ++ metasP (ys.map Hit6.key) = metasL (l.take (j + 1))) := by show _ = _; rw [hys, Htk.out, hzs.out]
        rw [Hz.out] at hV2
        clear hV hK hys
        have HV := Lib.hid hV2; clear hV2
        gi_wp2_with fail
        refine ⟨⟨j + 1, D :: Ds, _, v', _, _, _, _, _, _, _, rfl, by omega, rfl, HV.out⟩, ?_⟩
        simp [intOf]; omega
      case stop =>
        rintro D cc pre V _ _ h _
        exact h.elim
    · have hO := HO.out
      have hz2 : zs = metasL l := by rw [hzs.out, List.take_of_length_le (by omega)]
      have hlen : zs.length ≤ 1000000 := by
        have := metasL_len l 90000 Hsz.out
        rw [hz2]
        exact Nat.le_trans this (Nat.le_trans (Nat.mul_le_mul_right 90000 (show l.length ≤ 9 by omega)) (by decide))
      have c1 : W.cell? ⟨w.heap.size, 0, none⟩ = some vv := hO.box.cell rfl
      clear hO
      gi_wp2_with fail
      refine ⟨trivial, (callsIn_wide.2 (sort_own (base := w.heap.size + 1) HO.out.own hlen)).mono ?_⟩
      rintro e W2 ⟨rfl, hown2, hg2⟩
      have hl2 := List.length_mergeSort (le := fun x y : Int => decide (x ≤ y)) zs
      have HO2 := Lib.hid (HO.out.sorted hg2 (by rw [hl2]; exact hown2))
      clear HO hown2 hg2
      have c2 : W2.cell? ⟨w.heap.size, 0, none⟩ = some vv := HO2.out.box.cell rfl
      gi_wp2_with fail
      refine ⟨trivial, (callsIn_wide.2 (compact_own (base := w.heap.size + 1) HO2.out.own (by rw [hl2]; exact hlen))).mono ?_⟩
      rintro e W3 ⟨v', rfl, hown3, hg3⟩
      have Hown3 := Lib.hid hown3; have Hg3 := Lib.hid hg3
      clear hown3 hg3
      gi_wp2_with fail
      have h := HO2.out.leave Hg3.out Hown3.out (F := Fence.wide) (n := 9) (P := Try.prog) (fn := Try.f47) (tmps := #[.slice a ll c, undef, v', .pointer (some ⟨w.heap.size, 0, none⟩), undef, u5, undef, undef, .slice a ll c, .int .i64 ll, .int .i64 j, .bool false, u12, u13, u14, u15, undef, undef, undef, undef, undef, undef, undef, undef, undef, undef, undef, undef, u28, vv, .tuple #[], vv, v']) (fun w3 => results_tmp (t := 2) rfl _ _ w3)
      rw [hz2] at h
      exact h
end Go.Proofs.Ytdmiekaeodcehaa

namespace Go.Proofs.Ytdmiekaeodcehaa
open Go.RowKit
def TLB_78 : TI := ⟨9, true, [Value.slice none 0 0, Value.int IntKind.i64 0, Value.int IntKind.i64 0, Value.slice none 0 0, Value.slice none 0 0, Value.int IntKind.i64 0, Value.int IntKind.i64 0, Value.slice none 0 0, Value.slice none 0 0], [(0, 4, true), (4, 4, true), (8, 1, false)], none, 152, 6, none, false⟩
theorem TLB_78_ok : TypOk Try.prog 78 TLB_78 := ⟨by kernel_rfl, by kernel_rfl, by kernel_rfl, by kernel_rfl, by kernel_rfl⟩
def TLB_34 : TI := ⟨4, true, [Value.slice none 0 0, Value.int IntKind.i64 0, Value.int IntKind.i64 0, Value.slice none 0 0], [(0, 1, false), (1, 2, true), (3, 1, false)], none, 64, 6, none, false⟩
theorem TLB_34_ok : TypOk Try.prog 34 TLB_34 := ⟨by kernel_rfl, by kernel_rfl, by kernel_rfl, by kernel_rfl, by kernel_rfl⟩
def TLB_30 : TI := ⟨1, false, [Value.slice none 0 0], [], some 100, 24, 5, none, false⟩
theorem TLB_30_ok : TypOk Try.prog 30 TLB_30 := ⟨by kernel_rfl, by kernel_rfl, by kernel_rfl, by kernel_rfl, by kernel_rfl⟩
def TLB_149 : TI := ⟨10, true, [Value.slice none 0 0, Value.int IntKind.i64 0, Value.int IntKind.i64 0, Value.slice none 0 0, Value.slice none 0 0, Value.int IntKind.i64 0, Value.int IntKind.i64 0, Value.slice none 0 0, Value.slice none 0 0, Value.slice none 0 0], [(0, 9, true), (9, 1, false)], none, 176, 6, none, false⟩
theorem TLB_149_ok : TypOk Try.prog 149 TLB_149 := ⟨by kernel_rfl, by kernel_rfl, by kernel_rfl, by kernel_rfl, by kernel_rfl⟩
def TLB_3 : TI := ⟨1, false, [Value.int IntKind.i64 0], [], none, 8, 2, none, false⟩
theorem TLB_3_ok : TypOk Try.prog 3 TLB_3 := ⟨by kernel_rfl, by kernel_rfl, by kernel_rfl, by kernel_rfl, by kernel_rfl⟩
def TLB_100 : TI := ⟨2, true, [Value.slice none 0 0, Value.int IntKind.i64 0], [(0, 1, false), (1, 1, false)], none, 32, 6, none, false⟩
theorem TLB_100_ok : TypOk Try.prog 100 TLB_100 := ⟨by kernel_rfl, by kernel_rfl, by kernel_rfl, by kernel_rfl, by kernel_rfl⟩
def TLB_27 : TI := ⟨4, true, [Value.slice none 0 0, Value.int IntKind.i64 0, Value.int IntKind.i64 0, Value.slice none 0 0], [(0, 1, false), (1, 2, true), (3, 1, false)], none, 64, 6, none, false⟩
theorem TLB_27_ok : TypOk Try.prog 27 TLB_27 := ⟨by kernel_rfl, by kernel_rfl, by kernel_rfl, by kernel_rfl, by kernel_rfl⟩
def TLB_105 : TI := ⟨5, true, [Value.int IntKind.i64 0, Value.slice none 0 0, Value.int IntKind.i64 0, Value.int IntKind.i64 0, Value.slice none 0 0], [(0, 1, false), (1, 4, true)], none, 72, 6, none, false⟩
theorem TLB_105_ok : TypOk Try.prog 105 TLB_105 := ⟨by kernel_rfl, by kernel_rfl, by kernel_rfl, by kernel_rfl, by kernel_rfl⟩
def TLB_43 : TI := ⟨1, false, [Value.slice none 0 0], [], some 3, 24, 5, none, false⟩
theorem TLB_43_ok : TypOk Try.prog 43 TLB_43 := ⟨by kernel_rfl, by kernel_rfl, by kernel_rfl, by kernel_rfl, by kernel_rfl⟩
def TLB_52 : TI := ⟨1, false, [Value.slice none 0 0], [], some 105, 24, 5, none, false⟩
theorem TLB_52_ok : TypOk Try.prog 52 TLB_52 := ⟨by kernel_rfl, by kernel_rfl, by kernel_rfl, by kernel_rfl, by kernel_rfl⟩
def TLB_22 : TI := ⟨1, false, [Value.slice none 0 0], [], some 146, 24, 5, none, false⟩
theorem TLB_22_ok : TypOk Try.prog 22 TLB_22 := ⟨by kernel_rfl, by kernel_rfl, by kernel_rfl, by kernel_rfl, by kernel_rfl⟩
def TLB_53 : TI := ⟨1, false, [Value.slice none 0 0], [], some 105, 24, 5, none, false⟩
theorem TLB_53_ok : TypOk Try.prog 53 TLB_53 := ⟨by kernel_rfl, by kernel_rfl, by kernel_rfl, by kernel_rfl, by kernel_rfl⟩
def TLB_218 : TI := ⟨1, false, [Value.nilFunc], [], none, 8, 8, none, false⟩
theorem TLB_218_ok : TypOk Try.prog 218 TLB_218 := ⟨by kernel_rfl, by kernel_rfl, by kernel_rfl, by kernel_rfl, by kernel_rfl⟩
def TLB_32 : TI := ⟨1, false, [Value.slice none 0 0], [], some 34, 24, 5, none, false⟩
theorem TLB_32_ok : TypOk Try.prog 32 TLB_32 := ⟨by kernel_rfl, by kernel_rfl, by kernel_rfl, by kernel_rfl, by kernel_rfl⟩
def TLB_35 : TI := ⟨1, false, [Value.int IntKind.i64 0], [], none, 8, 2, none, false⟩
theorem TLB_35_ok : TypOk Try.prog 35 TLB_35 := ⟨by kernel_rfl, by kernel_rfl, by kernel_rfl, by kernel_rfl, by kernel_rfl⟩
def TLB_225 : TI := ⟨1, false, [Value.slice none 0 0], [], some 30, 24, 5, none, false⟩
theorem TLB_225_ok : TypOk Try.prog 225 TLB_225 := ⟨by kernel_rfl, by kernel_rfl, by kernel_rfl, by kernel_rfl, by kernel_rfl⟩
def TLB_146 : TI := ⟨2, true, [Value.slice none 0 0, Value.int IntKind.i64 0], [(0, 1, false), (1, 1, false)], none, 32, 6, none, false⟩
theorem TLB_146_ok : TypOk Try.prog 146 TLB_146 := ⟨by kernel_rfl, by kernel_rfl, by kernel_rfl, by kernel_rfl, by kernel_rfl⟩
def TLB : List (Nat × TI) := [(78, TLB_78), (34, TLB_34), (30, TLB_30), (149, TLB_149), (3, TLB_3), (100, TLB_100), (27, TLB_27), (105, TLB_105), (43, TLB_43), (52, TLB_52), (22, TLB_22), (53, TLB_53), (218, TLB_218), (32, TLB_32), (35, TLB_35), (225, TLB_225), (146, TLB_146)]
theorem TLB_ok : TabOk Try.prog TLB := ((((((((((((((((((TabOk.nil _).cons TLB_146_ok).cons TLB_225_ok).cons TLB_35_ok).cons TLB_32_ok).cons TLB_218_ok).cons TLB_53_ok).cons TLB_22_ok).cons TLB_52_ok).cons TLB_43_ok).cons TLB_105_ok).cons TLB_27_ok).cons TLB_100_ok).cons TLB_3_ok).cons TLB_149_ok).cons TLB_30_ok).cons TLB_34_ok).cons TLB_78_ok)

theorem metas_d (l : List Tm) (hl : l.length ≤ 9) (hz : ∀ t ∈ l, t.full ≤ 90000) : PureC Try.prog 47 [.sl 4 (eTms l) none] (.sl 1 (eIs (sortU (metasL l))) none) := by
  refine pure_below (by kernel_rfl) fun m Im w vs hv => ?_
  match vs, hv with
  | [x], hv =>
    have hs : IsSl rpTm (fun _ => True) w x l := (sl_of_rel (r := rpTm) (e := eTm) eTm_len (fun x t hx _ => tm_of_rel t hx) (by decide) (by rw [eTms_map] at hv; exact hv.1)).weaken (by decide) fun _ _ _ => trivial
    refine (metas6_k hs hl hz).mono ?_
    rintro e w' ⟨a, c, rfl, h1, h2⟩
    refine ⟨_, rfl, h2, fun Im' _ hI => ?_⟩
    exact rel_of_sl (r := rpInt) (e := fun i => [.v (.int .i64 i)]) (fun b o v hq hc => hI b o v hq hc) (fun _ => rfl) (fun x a h => by
      have : x = [.int .i64 a] := h
      subst this; exact ⟨.v _, trivial⟩) h1

/-! may -/
theorem lmay1_d (L R : Tm) (M B : List Ty) (x : Int) (hM : M.length ≤ 900000) : CallC Try.prog 132 [.v (.int .i64 x), .p 0 0] [(.c 0 0, .sl 2 (eTys L.binds) none), (.c 0 1, .v (.int .i64 L.kind)), (.c 0 2, .v (.int .i64 L.index)), (.c 0 3, .sl 4 (eTms L.args) none), (.c 0 4, .sl 2 (eTys R.binds) none), (.c 0 5, .v (.int .i64 R.kind)), (.c 0 6, .v (.int .i64 R.index)), (.c 0 7, .sl 4 (eTms R.args) none), (.c 0 8, .sl 2 (eTys M) none), (.c 0 9, .sl 2 (eTys B) none)] [(.c 0 0, .sl 2 (eTys L.binds) none), (.c 0 1, .v (.int .i64 L.kind)), (.c 0 2, .v (.int .i64 L.index)), (.c 0 3, .sl 4 (eTms L.args) none), (.c 0 4, .sl 2 (eTys R.binds) none), (.c 0 5, .v (.int .i64 R.kind)), (.c 0 6, .v (.int .i64 R.index)), (.c 0 7, .sl 4 (eTms R.args) none), (.c 0 8, .sl 2 (eTys M) none), (.c 0 9, .sl 2 (eTys B) none)] (.v (.bool (decide (x < 0 ∨ (M.length : Int) ≤ x)))) := by
 by_cases h0 : x < 0
 ·rw [decide_eq_true (.inl h0)]
  refine calldw 1 14 [ResultVar.tmp 3] TLB_ok Try.func132 rfl Try.ntmps132 rfl fun cx hnt hn0 => ?_
  ·skip
   refine dw_seq ?_; refine dwk [] TLB_ok hnt fun K hK => ?_; refine hK _ _ ?_; clear hK K; refine dw_seq ?_; refine dwk [(5, .v (.bool true))] TLB_ok hnt fun K hK => ?_; refine And.intro auT ?_; refine hK _ _ ?_; clear hK K; refine dw_ret ?_
   exact reta rfl
 ·have e : decide (x < 0 ∨ (M.length : Int) ≤ x) = decide ((M.length : Int) ≤ x) := by simp [h0]
  rw [e]
  refine calldw 1 14 [ResultVar.tmp 3] TLB_ok Try.func132 rfl Try.ntmps132 rfl fun cx hnt hn0 => ?_
  ·skip
   refine dw_seq ?_; refine dwk [] TLB_ok hnt fun K hK => ?_; refine hK _ _ ?_; clear hK K; refine dw_seq ?_; refine dwk [(5, .v (.bool false)), (12, .v (.bool (decide (↑M.length ≤ x))))] TLB_ok hnt fun K hK => ?_; refine And.intro auF ?_; refine And.intro (VLe.of_eq (by rw [eTys_len])) ?_; refine hK _ _ ?_; clear hK K; refine dw_ret ?_
   exact reta rfl
def fidx (P : Int → Bool) (l : List Int) : Int := match l.findIdx? P with | some i => (i : Int) | none => -1
theorem fidx_at {P : Int → Bool} {l : List Int} {i : Nat} (h : i < l.length) (h1 : P l[i] = true) (h2 : ∀ j (h : j < l.length), j < i → P l[j] = false) : fidx P l = i := by
  have : l.findIdx? P = some i := List.findIdx?_eq_some_iff_getElem.2 ⟨h, h1, fun j hj => by rw [h2 j (by omega) hj]; simp⟩
  rw [fidx, this]
theorem fidx_no {P : Int → Bool} {l : List Int} (h2 : ∀ j (h : j < l.length), P l[j] = false) : fidx P l = -1 := by
  have : l.findIdx? P = none := List.findIdx?_eq_none_iff.2 fun x hx => by
    obtain ⟨i, hi, rfl⟩ := List.getElem_of_mem hx
    exact h2 i hi
  rw [fidx, this]
theorem fidx_any (P : Int → Bool) (l : List Int) : decide (fidx P l ≥ 0) = l.any P := by
  rw [fidx]
  cases h : l.findIdx? P with
  | some i =>
    obtain ⟨h1, h2, _⟩ := List.findIdx?_eq_some_iff_getElem.1 h
    rw [List.any_eq_true.2 ⟨_, List.getElem_mem h1, h2⟩]
    simp
  | none =>
    rw [List.any_eq_false.2 fun x hx => by simp [List.findIdx?_eq_none_iff.1 h x hx]]
    simp
theorem indexI_d (L R : Tm) (M B : List Ty) (hM : M.length ≤ 900000) (l : List Int) (hl : l.length ≤ 1000000) : CallC Try.prog 160 [.sl 1 (eIs l) none, .fn 132 [.p 0 0]] [(.c 0 0, .sl 2 (eTys L.binds) none), (.c 0 1, .v (.int .i64 L.kind)), (.c 0 2, .v (.int .i64 L.index)), (.c 0 3, .sl 4 (eTms L.args) none), (.c 0 4, .sl 2 (eTys R.binds) none), (.c 0 5, .v (.int .i64 R.kind)), (.c 0 6, .v (.int .i64 R.index)), (.c 0 7, .sl 4 (eTms R.args) none), (.c 0 8, .sl 2 (eTys M) none), (.c 0 9, .sl 2 (eTys B) none)] [(.c 0 0, .sl 2 (eTys L.binds) none), (.c 0 1, .v (.int .i64 L.kind)), (.c 0 2, .v (.int .i64 L.index)), (.c 0 3, .sl 4 (eTms L.args) none), (.c 0 4, .sl 2 (eTys R.binds) none), (.c 0 5, .v (.int .i64 R.kind)), (.c 0 6, .v (.int .i64 R.index)), (.c 0 7, .sl 4 (eTms R.args) none), (.c 0 8, .sl 2 (eTys M) none), (.c 0 9, .sl 2 (eTys B) none)] (.v (.int .i64 (fidx (fun x => decide (x < 0 ∨ (M.length : Int) ≤ x)) l))) := by
 obtain ⟨P, hP⟩ : ∃ P : Int → Bool, (fun x => decide (x < 0 ∨ (M.length : Int) ≤ x)) = P := ⟨_, rfl⟩
 have hmay : ∀ x, CallC Try.prog 132 [.v (.int .i64 x), .p 0 0] [(.c 0 0, .sl 2 (eTys L.binds) none), (.c 0 1, .v (.int .i64 L.kind)), (.c 0 2, .v (.int .i64 L.index)), (.c 0 3, .sl 4 (eTms L.args) none), (.c 0 4, .sl 2 (eTys R.binds) none), (.c 0 5, .v (.int .i64 R.kind)), (.c 0 6, .v (.int .i64 R.index)), (.c 0 7, .sl 4 (eTms R.args) none), (.c 0 8, .sl 2 (eTys M) none), (.c 0 9, .sl 2 (eTys B) none)] [(.c 0 0, .sl 2 (eTys L.binds) none), (.c 0 1, .v (.int .i64 L.kind)), (.c 0 2, .v (.int .i64 L.index)), (.c 0 3, .sl 4 (eTms L.args) none), (.c 0 4, .sl 2 (eTys R.binds) none), (.c 0 5, .v (.int .i64 R.kind)), (.c 0 6, .v (.int .i64 R.index)), (.c 0 7, .sl 4 (eTms R.args) none), (.c 0 8, .sl 2 (eTys M) none), (.c 0 9, .sl 2 (eTys B) none)] (.v (.bool (P x))) := fun x => hP ▸ lmay1_d L R M B x hM
 rw [hP]
 clear hP
 refine calldw 1 19 [ResultVar.tmp 4] TLB_ok Try.func160 rfl Try.ntmps160 rfl fun cx hnt hn0 => ?_
 ·skip
  refine dw_seq ?_; refine dwk [] TLB_ok hnt fun K hK => ?_; refine hK _ _ ?_; clear hK K; refine dw_seq ?_; refine dw_seq ?_; refine dwk [(7, .v (.int .i64 (↑l.length)))] TLB_ok hnt fun K hK => ?_; refine And.intro (dintE (by rw [eIs_len])) ?_; refine hK _ _ ?_; clear hK K; refine dw_block ?_
  refine dw_loop (ι := { j : Nat // ∀ i (h : i < l.length), i < j → P l[i] = false }) (fun j => [(.t 0, .sl 1 (eIs l) none), (.t 1, .fn 132 [.p 0 0]), (.t 7, .v (.int .i64 ↑l.length)), (.t 8, .v (.int .i64 ↑j.1)), (.c 0 0, .sl 2 (eTys L.binds) none), (.c 0 1, .v (.int .i64 L.kind)), (.c 0 2, .v (.int .i64 L.index)), (.c 0 3, .sl 4 (eTms L.args) none), (.c 0 4, .sl 2 (eTys R.binds) none), (.c 0 5, .v (.int .i64 R.kind)), (.c 0 6, .v (.int .i64 R.index)), (.c 0 7, .sl 4 (eTms R.args) none), (.c 0 8, .sl 2 (eTys M) none), (.c 0 9, .sl 2 (eTys B) none)]) 1 (fun j => l.length - j.1) (⟨0, fun i h1 h2 => by omega⟩) (VS.toA) fun j => ?_
  obtain ⟨j, hj⟩ := j
  dsimp only
  by_cases hlt : j < l.length
  ·have hf := hmay l[j]
   refine dw_seq ?_; refine dwk [(9, .v (.bool true))] TLB_ok hnt fun K hK => ?_; refine And.intro auT ?_; refine hK _ _ ?_; clear hK K; refine dw_seq ?_; refine dw_cond (t := true) rfl ?_; rw [if_pos rfl]; refine dw_skip ?_; refine dw_seq ?_; refine dw_block ?_; refine dw_seq ?_; refine dwk [] TLB_ok hnt fun K hK => ?_; refine hK _ _ ?_; clear hK K
   cases he : P l[j] with
   | true =>
    rw [he] at hf
    rw [fidx_at hlt he hj]
    refine dw_seq ?_; refine dwk [(14, .q [.v (.int .i64 (l[j]))])] TLB_ok hnt fun K hK => ?_; refine And.intro (elo (eIs_len l)) ?_; refine And.intro (elv (eIs_getD l j) rfl) ?_; refine dcl (hf) ?_; refine hK _ _ ?_; clear hK K; refine dw_cond (t := true) rfl ?_; rw [if_pos rfl]; refine dw_seq ?_; refine dwk [] TLB_ok hnt fun K hK => ?_; refine hK _ _ ?_; clear hK K; refine dw_ret ?_
    exact reta rfl
   | false =>
    rw [he] at hf
    refine dw_seq ?_; refine dwk [(14, .q [.v (.int .i64 (l[j]))])] TLB_ok hnt fun K hK => ?_; refine And.intro (elo (eIs_len l)) ?_; refine And.intro (elv (eIs_getD l j) rfl) ?_; refine dcl (hf) ?_; refine hK _ _ ?_; clear hK K; refine dw_cond (t := false) rfl ?_; rw [if_neg (by simp)]; refine dw_skip ?_; refine dwk [(18, .v (.int .i64 (↑(j + 1))))] TLB_ok hnt fun K hK => ?_; refine And.intro auI ?_; refine hK _ _ ?_; clear hK K
    refine ⟨⟨j + 1, fun i h1 h2 => if e : i = j then by subst e; exact he else hj i h1 (by omega)⟩, by first | omega | (dsimp only; omega), VS.toA⟩
  ·rw [fidx_no fun i h => hj i h (by omega)]
   refine dw_seq ?_; refine dwk [(9, .v (.bool false))] TLB_ok hnt fun K hK => ?_; refine And.intro auF ?_; refine hK _ _ ?_; clear hK K; refine dw_seq ?_; refine dw_cond (t := false) rfl ?_; rw [if_neg (by simp)]; refine dw_exit ?_; refine dw_seq ?_; refine dwk [] TLB_ok hnt fun K hK => ?_; refine hK _ _ ?_; clear hK K; refine dw_ret ?_
   exact reta rfl
theorem containsI_d (L R : Tm) (M B : List Ty) (hM : M.length ≤ 900000) (l : List Int) (hl : l.length ≤ 1000000) : CallC Try.prog 131 [.sl 1 (eIs l) none, .fn 132 [.p 0 0]] [(.c 0 0, .sl 2 (eTys L.binds) none), (.c 0 1, .v (.int .i64 L.kind)), (.c 0 2, .v (.int .i64 L.index)), (.c 0 3, .sl 4 (eTms L.args) none), (.c 0 4, .sl 2 (eTys R.binds) none), (.c 0 5, .v (.int .i64 R.kind)), (.c 0 6, .v (.int .i64 R.index)), (.c 0 7, .sl 4 (eTms R.args) none), (.c 0 8, .sl 2 (eTys M) none), (.c 0 9, .sl 2 (eTys B) none)] [(.c 0 0, .sl 2 (eTys L.binds) none), (.c 0 1, .v (.int .i64 L.kind)), (.c 0 2, .v (.int .i64 L.index)), (.c 0 3, .sl 4 (eTms L.args) none), (.c 0 4, .sl 2 (eTys R.binds) none), (.c 0 5, .v (.int .i64 R.kind)), (.c 0 6, .v (.int .i64 R.index)), (.c 0 7, .sl 4 (eTms R.args) none), (.c 0 8, .sl 2 (eTys M) none), (.c 0 9, .sl 2 (eTys B) none)] (.v (.bool (l.any fun x => decide (x < 0 ∨ (M.length : Int) ≤ x)))) := by
 have hi := indexI_d L R M B hM l hl
 rw [← fidx_any]
 refine calldw 1 9 [ResultVar.tmp 4] TLB_ok Try.func131 rfl Try.ntmps131 rfl fun cx hnt hn0 => ?_
 ·skip
  refine dw_seq ?_; refine dwk [] TLB_ok hnt fun K hK => ?_; refine hK _ _ ?_; clear hK K; refine dw_seq ?_; refine dwk [] TLB_ok hnt fun K hK => ?_; refine dcl (hi) ?_; refine hK _ _ ?_; clear hK K; refine dw_ret ?_
  exact reta rfl

namespace Li
def lo (t : Tm) : Bool := decide ((t.looses 0).foldl looseL 0 > 0)
def rt (t : Tm) : Bool := decide (t.size ≤ 5000 ∧ t.depth ≤ 60)
def may (L R : Tm) (M B : List Ty) : Int :=
  if (lo L || lo R) = true then 1
  else if ((sortU (metasL [L, R])).any fun x => decide (x < 0 ∨ (M.length : Int) ≤ x)) = true then 10
  else if (decide ((B.length : Int) > 900) || (!rt L || !rt R)) = true then 2 else 0
def done (p : Pr) : Pr × Int := if (rt p.l && rt p.r) = true then (p, 0) else (.z, 2)
def cl (t : Tm) (B : List Ty) : Tm := .mk (B ++ t.binds) t.kind t.index t.args
def arr (B : List Ty) (t : Ty) : Ty := .mk (B ++ t.args) t.base
def up (p : Pr) (B : List Ty) : Pr := ⟨lif B p.l 0, lif B p.r 0, p.m.map (arr B)⟩
def over (p : Pr) (B : List Ty) : Pr × Int := if may p.l p.r p.m B ≠ 0 then (.z, may p.l p.r p.m B) else done (up p B)
def clP (p : Pr) (B : List Ty) : Pr := ⟨cl p.l B, cl p.r B, p.m⟩
def closed (p : Pr) (B : List Ty) : Pr × Int := if (over p B).2 ≠ 0 then (.z, (over p B).2) else done (clP (over p B).1 B)
end Li
theorem nodup_le : ∀ (l m : List Int), l.Nodup → (∀ x ∈ l, x ∈ m) → l.length ≤ m.length
  | [], m, _, _ => Nat.zero_le _
  | x :: l, m, h1, h2 => by
    have hx := h2 x (by simp)
    have := nodup_le l (m.erase x) (List.nodup_cons.1 h1).2 fun y hy => (List.mem_erase_of_ne fun e => (List.nodup_cons.1 h1).1 (by rw [← e]; exact hy)).2 (h2 y (by simp [hy]))
    rw [List.length_erase_of_mem hx] at this
    have := List.length_pos_of_mem hx
    simp; omega
theorem sortU_len (l : List Int) : (sortU l).length ≤ l.length :=
  nodup_le _ _ ((sortU_spec l).1.imp fun h => by omega) fun x h => ((sortU_spec l).2 x).1 h
set_option maxHeartbeats 1000000 in
theorem lmay_d (L R : Tm) (M B : List Ty) (hL : L.full ≤ 90000 ∧ L.Fit) (hR : R.full ≤ 90000 ∧ R.Fit) (hM : M.length ≤ 900000) : PureC Try.prog 87 [.ag [.sl 2 (eTys L.binds) none, .v (.int .i64 L.kind), .v (.int .i64 L.index), .sl 4 (eTms L.args) none, .sl 2 (eTys R.binds) none, .v (.int .i64 R.kind), .v (.int .i64 R.index), .sl 4 (eTms R.args) none, .sl 2 (eTys M) none, .sl 2 (eTys B) none]] (.v (.int .i64 (Li.may L R M B))) := by
 have l1 := loose_d L (by omega) hL.2
 have l2 := loose_d R (by omega) hR.2
 have hm := metas_d [L, R] (by simp) (by simp; omega)
 have hc := containsI_d L R M B hM (sortU (metasL [L, R])) (by
  have h1 := metasL_len [L, R] 90000 (by simp; omega)
  have h2 := sortU_len (metasL [L, R])
  simp at h1; omega)
 have r1 := right_d L (by omega)
 have r2 := right_d R (by omega)
 rw [show eTms [L, R] = [eTm L, eTm R] from rfl] at hm
 rw [eTm_eq] at l1 l2 r1 r2
 rw [eTm_eq L, eTm_eq R] at hm
 have d1 : Li.lo L = decide ((L.looses 0).foldl looseL 0 > 0) := rfl
 have d2 : Li.lo R = decide ((R.looses 0).foldl looseL 0 > 0) := rfl
 rw [show decide (L.size ≤ 5000 ∧ L.depth ≤ 60) = Li.rt L from rfl] at r1
 rw [show decide (R.size ≤ 5000 ∧ R.depth ≤ 60) = Li.rt R from rfl] at r2
 unfold Li.may
 generalize (L.looses 0).foldl looseL 0 = x at l1 d1
 generalize (R.looses 0).foldl looseL 0 = y at l2 d2
 generalize ((sortU (metasL [L, R])).any fun x => decide (x < 0 ∨ (M.length : Int) ≤ x)) = c at hc
 rw [d1, d2]
 by_cases hx : x > 0
 ·rw [decide_eq_true hx, Bool.true_or, if_pos rfl]
  refine calldw 0 46 [ResultVar.tmp 2] TLB_ok Try.func87 rfl Try.ntmps87 rfl fun cx hnt hn0 => ?_
  ·skip
   refine dw_seq ?_; refine dwk [] TLB_ok hnt fun K hK => ?_; refine hK _ _ ?_; clear hK K; refine dw_seq ?_; refine dw_block ?_; refine dw_seq ?_; refine dwk [(8, .v (.bool true))] TLB_ok hnt fun K hK => ?_; refine dcl (l1) ?_; refine And.intro auT ?_; refine hK _ _ ?_; clear hK K; refine dw_cond (t := true) rfl ?_; rw [if_pos rfl]; refine dw_seq ?_; refine dwk [] TLB_ok hnt fun K hK => ?_; refine hK _ _ ?_; clear hK K
   refine dw_ret ?_
   exact reta rfl
 ·rw [decide_eq_false hx, Bool.false_or]
  by_cases hy : y > 0
  ·rw [decide_eq_true hy, if_pos rfl]
   refine calldw 0 46 [ResultVar.tmp 2] TLB_ok Try.func87 rfl Try.ntmps87 rfl fun cx hnt hn0 => ?_
   ·skip
    refine dw_seq ?_; refine dwk [] TLB_ok hnt fun K hK => ?_; refine hK _ _ ?_; clear hK K; refine dw_seq ?_; refine dw_block ?_; refine dw_seq ?_; refine dwk [(8, .v (.bool false)), (14, .v (.bool true))] TLB_ok hnt fun K hK => ?_; refine dcl (l1) ?_; refine And.intro auF ?_; refine dcl (l2) ?_; refine And.intro auT ?_; refine hK _ _ ?_; clear hK K; refine dw_cond (t := true) rfl ?_; rw [if_pos rfl]
    refine dw_seq ?_; refine dwk [] TLB_ok hnt fun K hK => ?_; refine hK _ _ ?_; clear hK K; refine dw_ret ?_
    exact reta rfl
  ·rw [decide_eq_false hy, if_neg (by simp)]
   cases c with
   | true =>
    rw [if_pos rfl]
    refine calldw 0 46 [ResultVar.tmp 2] TLB_ok Try.func87 rfl Try.ntmps87 rfl fun cx hnt hn0 => ?_
    ·skip
     refine dw_seq ?_; refine dwk [] TLB_ok hnt fun K hK => ?_; refine hK _ _ ?_; clear hK K; refine dw_seq ?_; refine dw_block ?_; refine dw_seq ?_; refine dwk [(8, .v (.bool false)), (14, .v (.bool false))] TLB_ok hnt fun K hK => ?_; refine dcl (l1) ?_; refine And.intro auF ?_; refine dcl (l2) ?_; refine And.intro auF ?_; refine hK _ _ ?_; clear hK K; refine dw_cond (t := false) rfl ?_; rw [if_neg (by simp)]
     refine dw_seq ?_; refine dwk [(23, .sl 4 [[.sl 2 (eTys L.binds) none, .v (.int .i64 L.kind), .v (.int .i64 L.index), .sl 4 (eTms L.args) none], [.sl 2 (eTys R.binds) none, .v (.int .i64 R.kind), .v (.int .i64 R.index), .sl 4 (eTms R.args) none]] none)] TLB_ok hnt fun K hK => ?_; refine And.intro (VLe.untag _ _ _) ?_; refine dcl (hm) ?_; refine dcl (hc) ?_; refine hK _ _ ?_; clear hK K; refine dw_cond (t := true) rfl ?_
     rw [if_pos rfl]; refine dw_seq ?_; refine dwk [] TLB_ok hnt fun K hK => ?_; refine hK _ _ ?_; clear hK K; refine dw_ret ?_
     exact reta rfl
   | false =>
    rw [if_neg (by simp)]
    by_cases hb : (B.length : Int) > 900
    ·rw [decide_eq_true hb, Bool.true_or, if_pos rfl]
     refine calldw 0 46 [ResultVar.tmp 2] TLB_ok Try.func87 rfl Try.ntmps87 rfl fun cx hnt hn0 => ?_
     ·skip
      refine dw_seq ?_; refine dwk [] TLB_ok hnt fun K hK => ?_; refine hK _ _ ?_; clear hK K; refine dw_seq ?_; refine dw_block ?_; refine dw_seq ?_; refine dwk [(8, .v (.bool false)), (14, .v (.bool false))] TLB_ok hnt fun K hK => ?_; refine dcl (l1) ?_; refine And.intro auF ?_; refine dcl (l2) ?_; refine And.intro auF ?_; refine hK _ _ ?_; clear hK K; refine dw_cond (t := false) rfl ?_; rw [if_neg (by simp)]
      refine dw_seq ?_; refine dwk [(23, .sl 4 [[.sl 2 (eTys L.binds) none, .v (.int .i64 L.kind), .v (.int .i64 L.index), .sl 4 (eTms L.args) none], [.sl 2 (eTys R.binds) none, .v (.int .i64 R.kind), .v (.int .i64 R.index), .sl 4 (eTms R.args) none]] none)] TLB_ok hnt fun K hK => ?_; refine And.intro (VLe.untag _ _ _) ?_; refine dcl (hm) ?_; refine dcl (hc) ?_; refine hK _ _ ?_; clear hK K; refine dw_cond (t := false) rfl ?_
      rw [if_neg (by simp)]; refine dw_seq ?_; refine dwk [(31, .v (.bool true))] TLB_ok hnt fun K hK => ?_; refine And.intro (by first | exact dtrue (by rw [eTys_len]; omega) | exact VLe.of_eq (by rw [eTys_len]; omega)) ?_; refine hK _ _ ?_; clear hK K; refine dw_cond (t := true) rfl ?_; rw [if_pos rfl]; refine dw_seq ?_; refine dwk [] TLB_ok hnt fun K hK => ?_; refine hK _ _ ?_; clear hK K; refine dw_ret ?_
      exact reta rfl
    ·rw [decide_eq_false hb, Bool.false_or]
     cases hr1 : Li.rt L with
     | false =>
      rw [hr1] at r1
      simp only [Bool.not_false, Bool.true_or, if_true]
      refine calldw 0 46 [ResultVar.tmp 2] TLB_ok Try.func87 rfl Try.ntmps87 rfl fun cx hnt hn0 => ?_
      ·skip
       refine dw_seq ?_; refine dwk [] TLB_ok hnt fun K hK => ?_; refine hK _ _ ?_; clear hK K; refine dw_seq ?_; refine dw_block ?_; refine dw_seq ?_; refine dwk [(8, .v (.bool false)), (14, .v (.bool false))] TLB_ok hnt fun K hK => ?_; refine dcl (l1) ?_; refine And.intro auF ?_; refine dcl (l2) ?_; refine And.intro auF ?_; refine hK _ _ ?_; clear hK K; refine dw_cond (t := false) rfl ?_; rw [if_neg (by simp)]
       refine dw_seq ?_; refine dwk [(23, .sl 4 [[.sl 2 (eTys L.binds) none, .v (.int .i64 L.kind), .v (.int .i64 L.index), .sl 4 (eTms L.args) none], [.sl 2 (eTys R.binds) none, .v (.int .i64 R.kind), .v (.int .i64 R.index), .sl 4 (eTms R.args) none]] none)] TLB_ok hnt fun K hK => ?_; refine And.intro (VLe.untag _ _ _) ?_; refine dcl (hm) ?_; refine dcl (hc) ?_; refine hK _ _ ?_; clear hK K; refine dw_cond (t := false) rfl ?_
       rw [if_neg (by simp)]; refine dw_seq ?_; refine dwk [(31, .v (.bool false))] TLB_ok hnt fun K hK => ?_; refine And.intro (by first | exact dfalse (by rw [eTys_len]; omega) | exact VLe.of_eq (by rw [eTys_len]; omega)) ?_; refine dcl (r1) ?_; refine hK _ _ ?_; clear hK K; refine dw_cond (t := true) rfl ?_; rw [if_pos rfl]; refine dw_seq ?_; refine dwk [] TLB_ok hnt fun K hK => ?_; refine hK _ _ ?_; clear hK K
       refine dw_ret ?_
       exact reta rfl
     | true =>
      rw [hr1] at r1
      cases hr2 : Li.rt R with
      | false =>
       rw [hr2] at r2
       simp only [Bool.not_false, Bool.or_true, if_true]
       refine calldw 0 46 [ResultVar.tmp 2] TLB_ok Try.func87 rfl Try.ntmps87 rfl fun cx hnt hn0 => ?_
       ·skip
        refine dw_seq ?_; refine dwk [] TLB_ok hnt fun K hK => ?_; refine hK _ _ ?_; clear hK K; refine dw_seq ?_; refine dw_block ?_; refine dw_seq ?_; refine dwk [(8, .v (.bool false)), (14, .v (.bool false))] TLB_ok hnt fun K hK => ?_; refine dcl (l1) ?_; refine And.intro auF ?_; refine dcl (l2) ?_; refine And.intro auF ?_; refine hK _ _ ?_; clear hK K; refine dw_cond (t := false) rfl ?_; rw [if_neg (by simp)]
        refine dw_seq ?_; refine dwk [(23, .sl 4 [[.sl 2 (eTys L.binds) none, .v (.int .i64 L.kind), .v (.int .i64 L.index), .sl 4 (eTms L.args) none], [.sl 2 (eTys R.binds) none, .v (.int .i64 R.kind), .v (.int .i64 R.index), .sl 4 (eTms R.args) none]] none)] TLB_ok hnt fun K hK => ?_; refine And.intro (VLe.untag _ _ _) ?_; refine dcl (hm) ?_; refine dcl (hc) ?_; refine hK _ _ ?_; clear hK K; refine dw_cond (t := false) rfl ?_
        rw [if_neg (by simp)]; refine dw_seq ?_; refine dwk [(31, .v (.bool false))] TLB_ok hnt fun K hK => ?_; refine And.intro (by first | exact dfalse (by rw [eTys_len]; omega) | exact VLe.of_eq (by rw [eTys_len]; omega)) ?_; refine dcl (r1) ?_; refine dcl (r2) ?_; refine hK _ _ ?_; clear hK K; refine dw_cond (t := true) rfl ?_; rw [if_pos rfl]; refine dw_seq ?_; refine dwk [] TLB_ok hnt fun K hK => ?_
        refine hK _ _ ?_; clear hK K; refine dw_ret ?_
        exact reta rfl
      | true =>
       rw [hr2] at r2
       simp only [Bool.not_true, Bool.or_false, Bool.false_eq_true, if_false]
       refine calldw 0 46 [ResultVar.tmp 2] TLB_ok Try.func87 rfl Try.ntmps87 rfl fun cx hnt hn0 => ?_
       ·skip
        refine dw_seq ?_; refine dwk [] TLB_ok hnt fun K hK => ?_; refine hK _ _ ?_; clear hK K; refine dw_seq ?_; refine dw_block ?_; refine dw_seq ?_; refine dwk [(8, .v (.bool false)), (14, .v (.bool false))] TLB_ok hnt fun K hK => ?_; refine dcl (l1) ?_; refine And.intro auF ?_; refine dcl (l2) ?_; refine And.intro auF ?_; refine hK _ _ ?_; clear hK K; refine dw_cond (t := false) rfl ?_; rw [if_neg (by simp)]
        refine dw_seq ?_; refine dwk [(23, .sl 4 [[.sl 2 (eTys L.binds) none, .v (.int .i64 L.kind), .v (.int .i64 L.index), .sl 4 (eTms L.args) none], [.sl 2 (eTys R.binds) none, .v (.int .i64 R.kind), .v (.int .i64 R.index), .sl 4 (eTms R.args) none]] none)] TLB_ok hnt fun K hK => ?_; refine And.intro (VLe.untag _ _ _) ?_; refine dcl (hm) ?_; refine dcl (hc) ?_; refine hK _ _ ?_; clear hK K; refine dw_cond (t := false) rfl ?_
        rw [if_neg (by simp)]; refine dw_seq ?_; refine dwk [(31, .v (.bool false))] TLB_ok hnt fun K hK => ?_; refine And.intro (by first | exact dfalse (by rw [eTys_len]; omega) | exact VLe.of_eq (by rw [eTys_len]; omega)) ?_; refine dcl (r1) ?_; refine dcl (r2) ?_; refine hK _ _ ?_; clear hK K; refine dw_cond (t := false) rfl ?_; rw [if_neg (by simp)]; refine dw_skip ?_; refine dw_seq ?_; refine dwk [] TLB_ok hnt fun K hK => ?_
        refine hK _ _ ?_; clear hK K; refine dw_ret ?_
        exact reta rfl
/-! done -/
theorem ldone_d (L R : Tm) (M : List Ty) (hL : L.full ≤ 4400000 ∧ L.Fit ∧ (Li.rt L = true → L.full ≤ 900000)) (hR : R.full ≤ 4400000 ∧ R.Fit ∧ (Li.rt R = true → R.full ≤ 900000)) (hM : Ty.sizes M ≤ 800000) : PureC Try.prog 90 [.ag (ePr ⟨L, R, M⟩)] (.tu [.ag (ePr (Li.done ⟨L, R, M⟩).1), .v (.int .i64 (Li.done ⟨L, R, M⟩).2)]) := by
 have r1 := right_d L hL.1
 have r2 := right_d R hR.1
 have c1 := fun h => copyW_d L (hL.2.2 h) hL.2.1
 have c2 := fun h => copyW_d R (hR.2.2 h) hR.2.1
 have ha := arrow_d (.mk [] 0) M (by rw [ty_size]; simp [Ty.sizes]; omega)
 rw [show decide (L.size ≤ 5000 ∧ L.depth ≤ 60) = Li.rt L from rfl] at r1
 rw [show decide (R.size ≤ 5000 ∧ R.depth ≤ 60) = Li.rt R from rfl] at r2
 rw [eTm_eq] at r1 r2 c1 c2
 simp only [eTy_eq, args_mk', base_mk', List.append_nil] at ha
 rw [ePr_eq]
 unfold Li.done
 dsimp only
 cases hr1 : Li.rt L with
 | false =>
  rw [hr1] at r1
  simp only [Bool.false_and, Bool.false_eq_true, if_false]
  rw [ePr_z]
  refine calldw 0 27 [ResultVar.cell 2 78, ResultVar.tmp 3] TLB_ok Try.func90 rfl Try.ntmps90 rfl fun cx hnt hn0 => ?_
  ·skip
   refine dw_seq ?_; refine dwk [] TLB_ok hnt fun K hK => ?_; refine hK _ _ ?_; clear hK K; refine dw_seq ?_; refine dw_seq ?_; refine dwk [] TLB_ok hnt fun K hK => ?_; refine dcl (r1) ?_; refine hK _ _ ?_; clear hK K; refine dw_cond (t := true) rfl ?_; rw [if_pos rfl]; refine dw_seq ?_; refine dwk [] TLB_ok hnt fun K hK => ?_; refine hK _ _ ?_; clear hK K; refine dw_ret ?_
   exact reta rfl
 | true =>
  rw [hr1] at r1
  cases hr2 : Li.rt R with
  | false =>
   rw [hr2] at r2
   simp only [Bool.and_false, Bool.false_eq_true, if_false]
   rw [ePr_z]
   refine calldw 0 27 [ResultVar.cell 2 78, ResultVar.tmp 3] TLB_ok Try.func90 rfl Try.ntmps90 rfl fun cx hnt hn0 => ?_
   ·skip
    refine dw_seq ?_; refine dwk [] TLB_ok hnt fun K hK => ?_; refine hK _ _ ?_; clear hK K; refine dw_seq ?_; refine dw_seq ?_; refine dwk [] TLB_ok hnt fun K hK => ?_; refine dcl (r1) ?_; refine dcl (r2) ?_; refine hK _ _ ?_; clear hK K; refine dw_cond (t := true) rfl ?_; rw [if_pos rfl]; refine dw_seq ?_; refine dwk [] TLB_ok hnt fun K hK => ?_; refine hK _ _ ?_; clear hK K; refine dw_ret ?_
    exact reta rfl
  | true =>
   rw [hr2] at r2
   have c1 := c1 hr1
   have c2 := c2 hr2
   simp only [Bool.and_true, if_true]
   rw [ePr_eq]
   refine calldw 0 27 [ResultVar.cell 2 78, ResultVar.tmp 3] TLB_ok Try.func90 rfl Try.ntmps90 rfl fun cx hnt hn0 => ?_
   ·skip
    refine dw_seq ?_; refine dwk [] TLB_ok hnt fun K hK => ?_; refine hK _ _ ?_; clear hK K; refine dw_seq ?_; refine dw_seq ?_; refine dwk [] TLB_ok hnt fun K hK => ?_; refine dcl (r1) ?_; refine dcl (r2) ?_; refine hK _ _ ?_; clear hK K; refine dw_cond (t := false) rfl ?_; rw [if_neg (by simp)]; refine dw_skip ?_; refine dw_seq ?_; refine dwkD [(21, .ag [.sl 2 (eTys []) none, .v (.int .i64 0)])] TLB_ok hnt fun K hK => ?_
    refine dcl (c1) ?_; refine dcl (c2) ?_; refine And.intro (auV) ?_; refine dcl (ha) ?_; refine hK _ _ (by kernel_rfl) ?_; clear hK K; refine dw_ret ?_
    exact reta rfl
/-! Close -/
theorem lclose_d (t : Tm) (B : List Ty) (hz : Ty.sizes B + t.full ≤ 900000) (hf : (Li.cl t B).Fit) : PureC Try.prog 95 [.ag (eTm t), .sl 2 (eTys B) none] (.ag (eTm (Li.cl t B))) := by
 have hfl := full_args t
 have h1 := Ty.le_sizes B
 have h2 := Ty.le_sizes t.binds
 have hcat := concat_d [B, t.binds] (by simp [lens]; omega) (by simp)
 simp only [List.flatten_cons, List.flatten_nil, List.append_nil] at hcat
 have hc := copyW_d (Li.cl t B) (by unfold Li.cl; rw [Tm.full_eq, Ty.sizes_append]; omega) hf
 unfold Li.cl at hc ⊢
 rw [eTm_eq, eTm_eq] at *
 simp only [bindsT, kindT, indexT, argsTm] at hc ⊢
 refine calldw 0 13 [ResultVar.cell 4 34] TLB_ok Try.func95 rfl Try.ntmps95 rfl fun cx hnt hn0 => ?_
 ·skip
  refine dw_seq ?_; refine dwk [] TLB_ok hnt fun K hK => ?_; refine hK _ _ ?_; clear hK K; refine dw_seq ?_; refine dwk [(8, .sl 1 (eTyss [B, t.binds]) none)] TLB_ok hnt fun K hK => ?_; refine And.intro (VLe.untag _ _ _) ?_; refine dcl (hcat) ?_; refine hK _ _ ?_; clear hK K; refine dw_seq ?_; refine dwk [] TLB_ok hnt fun K hK => ?_; refine dcl (hc) ?_; refine hK _ _ ?_; clear hK K; refine dw_ret ?_
  exact reta rfl
theorem rclose_d (t : Tm) (B : List Ty) (hz : Ty.sizes B + t.full ≤ 900000) : PureC Try.prog 52 [.ag (eTm t), .sl 2 (eTys B) none] (.ag (eTm (Li.cl t B))) := by
 have hfl := full_args t
 have h1 := Ty.le_sizes B
 have h2 := Ty.le_sizes t.binds
 have hcat := rbehind_d B t.binds (by omega)
 unfold Li.cl
 rw [eTm_eq, eTm_eq]
 simp only [bindsT, kindT, indexT, argsTm]
 refine calldw 0 11 [ResultVar.cell 4 27] TLB_ok Try.func52 rfl Try.ntmps52 rfl fun cx hnt hn0 => ?_
 ·skip
  refine dw_seq ?_; refine dwk [] TLB_ok hnt fun K hK => ?_; refine hK _ _ ?_; clear hK K; refine dw_seq ?_; refine dwk [] TLB_ok hnt fun K hK => ?_; refine dcl (hcat) ?_; refine hK _ _ ?_; clear hK K; refine dw_seq ?_; refine dwk [] TLB_ok hnt fun K hK => ?_; refine hK _ _ ?_; clear hK K; refine dw_ret ?_
  exact reta rfl
/-! Over, Closed -/
theorem arrs_snoc (B : List Ty) (M : List Ty) (j : Nat) (h : j < M.length) : eTys ((M.map (Li.arr B)).take j) ++ [[.sl 2 (eTys (Li.arr B M[j]).args) none, .v (.int .i64 (Li.arr B M[j]).base)]] = eTys ((M.map (Li.arr B)).take (j + 1)) := by
  have h2 : j < (M.map (Li.arr B)).length := by rw [List.length_map]; exact h
  rw [← eTys_snoc _ j h2, List.getElem_map]
set_option maxHeartbeats 1000000 in
theorem lover_d (L R : Tm) (M B : List Ty) (hL : L.full ≤ 90000 ∧ L.Fit) (hR : R.full ≤ 90000 ∧ R.Fit) (hM : ∀ m ∈ M, Ty.sizes B + m.size ≤ 900000) (hMl : M.length ≤ 900000) (hB : ∀ b ∈ B, b.size ≤ 1000)
  (hu : Li.may L R M B = 0 → ((Li.lif B L 0).full ≤ 4400000 ∧ (Li.lif B L 0).Fit ∧ (Li.rt (Li.lif B L 0) = true → (Li.lif B L 0).full ≤ 900000)) ∧ ((Li.lif B R 0).full ≤ 4400000 ∧ (Li.lif B R 0).Fit ∧ (Li.rt (Li.lif B R 0) = true → (Li.lif B R 0).full ≤ 900000)) ∧ Ty.sizes (M.map (Li.arr B)) ≤ 800000) : PureC Try.prog 37 [.ag (ePr ⟨L, R, M⟩), .sl 2 (eTys B) none] (.tu [.ag (ePr (Li.over ⟨L, R, M⟩ B).1), .v (.int .i64 (Li.over ⟨L, R, M⟩ B).2)]) := by
 have hm := lmay_d L R M B hL hR hMl
 unfold Li.over
 dsimp only
 rw [ePr_eq]
 by_cases h0 : Li.may L R M B = 0
 ·obtain ⟨u1, u2, u3⟩ := hu h0
  rw [h0] at hm
  rw [if_neg (fun h => h h0)]
  have hbl : B.length ≤ 900 := by
   unfold Li.may at h0
   split at h0
   ·cases h0
   ·split at h0
    ·cases h0
    ·split at h0
     ·cases h0
     ·rename_i hn
      simp only [Bool.or_eq_true, not_or, decide_eq_true_eq] at hn
      omega
  have t1 := lterm_d L R M B L hbl hB (by omega)
  have t2 := lterm_d L R M B R hbl hB (by omega)
  have hd := ldone_d (Li.lif B L 0) (Li.lif B R 0) (M.map (Li.arr B)) u1 u2 u3
  unfold Li.up
  dsimp only
  have hwl : (M.map (Li.arr B)).length = M.length := List.length_map ..
  have hwg := arrs_snoc B M
  generalize Li.lif B L 0 = L' at t1 hd ⊢
  generalize Li.lif B R 0 = R' at t2 hd ⊢
  generalize M.map (Li.arr B) = W at hd hwl hwg ⊢
  generalize hz : Li.done ⟨L', R', W⟩ = z at hd ⊢
  obtain ⟨⟨zl, zr, zm⟩, ze⟩ := z
  rw [eTm_eq, eTm_eq] at t1 t2
  dsimp only at hd ⊢
  rw [ePr_eq, ePr_eq] at hd
  rw [ePr_eq]
  refine calldw 0 49 [ResultVar.cell 4 78, ResultVar.tmp 5] TLB_ok Try.func37 rfl Try.ntmps37 rfl fun cx hnt hn0 => ?_
  ·skip
   refine dw_seq ?_; refine dwk [] TLB_ok hnt fun K hK => ?_; refine hK _ _ ?_; clear hK K; refine dw_seq ?_; refine dwk [] TLB_ok hnt fun K hK => ?_; refine hK _ _ ?_; clear hK K; refine dw_seq ?_; refine dw_seq ?_; refine dwk [] TLB_ok hnt fun K hK => ?_; refine dcl (hm) ?_; refine hK _ _ ?_; clear hK K; refine dw_seq ?_; refine dwk [] TLB_ok hnt fun K hK => ?_; refine hK _ _ ?_; clear hK K; refine dw_cond (t := false) rfl ?_
   rw [if_neg (by simp)]; refine dw_skip ?_; refine dw_seq ?_; refine dwkD [] TLB_ok hnt fun K hK => ?_; refine dcl (t1) ?_; refine dcl (t2) ?_; refine hK _ _ (by kernel_rfl) ?_; clear hK K
   refine DW.vs (VS.row (k := 22) (off := 8) 100 2 rfl) ?_
   refine dw_seq ?_; refine dw_seq ?_; refine dwk [(31, .v (.int .i64 (↑M.length)))] TLB_ok hnt fun K hK => ?_; refine And.intro (dintE (by rw [eTys_len])) ?_; refine hK _ _ ?_; clear hK K; refine dw_block ?_
   refine dw_loop (ι := { j : Nat // j ≤ M.length }) (fun j => [(.t 1, .sl 2 (eTys B) none), (.t 4, .p 1 0), (.t 8, .p 22 0), (.t 30, .sl 2 (eTys M) none), (.t 31, .v (.int .i64 ↑M.length)), (.t 32, .v (.int .i64 ↑j.1)), (.c 1 0, .v (.slice none 0 0)), (.c 1 1, .v (.int .i64 0)), (.c 1 2, .v (.int .i64 0)), (.c 1 3, .v (.slice none 0 0)), (.c 1 4, .v (.slice none 0 0)), (.c 1 5, .v (.int .i64 0)), (.c 1 6, .v (.int .i64 0)), (.c 1 7, .v (.slice none 0 0)), (.c 1 8, .v (.slice none 0 0)), (.c 22 0, .sl 2 (eTys L'.binds) none), (.c 22 1, .v (.int .i64 L'.kind)), (.c 22 2, .v (.int .i64 L'.index)), (.c 22 3, .sl 4 (eTms L'.args) none), (.c 22 4, .sl 2 (eTys R'.binds) none), (.c 22 5, .v (.int .i64 R'.kind)), (.c 22 6, .v (.int .i64 R'.index)), (.c 22 7, .sl 4 (eTms R'.args) none), (.c 22 8, .sl 2 (eTys (W.take j.1)) (some 24)), (.r 24, .rw 100 2 j.1)]) 25 (fun j => M.length - j.1) (⟨0, Nat.zero_le _⟩) (VS.toA) fun j => ?_
   obtain ⟨j, hj⟩ := j
   dsimp only
   by_cases hlt : j < M.length
   ·have hc := arrow_d M[j] B (hM _ (List.getElem_mem hlt))
    have hsn := hwg j hlt
    rw [show Ty.mk (B ++ M[j].args) M[j].base = Li.arr B M[j] from rfl, eTy_eq, eTy_eq] at hc
    have hl1 : (eTys (W.take j)).length = j := by rw [eTys_len, List.length_take]; omega
    have hl2 : (eTys (W.take (j + 1))).length = j + 1 := by rw [eTys_len, List.length_take]; omega
    refine dw_seq ?_; refine dwk [(33, .v (.bool true))] TLB_ok hnt fun K hK => ?_; refine And.intro auT ?_; refine hK _ _ ?_; clear hK K; refine dw_seq ?_; refine dw_cond (t := true) rfl ?_; rw [if_pos rfl]; refine dw_skip ?_; refine dw_seq ?_; refine dw_block ?_; refine dw_seq ?_; refine dwk [(34, .q [.sl 2 (eTys M[j].args) none, .v (.int .i64 M[j].base)])] TLB_ok hnt fun K hK => ?_; refine And.intro (elo (eTys_len M)) ?_
    refine And.intro (elv (eTys_getD M j) (eTy_eq _)) ?_; refine hK _ _ ?_; clear hK K; refine dwkD [] TLB_ok hnt fun K hK => ?_; refine dcl (hc) ?_; refine And.intro (⟨by omega, by rw [hl1]; simp; omega⟩) ?_; refine hK _ _ (by kernel_rfl) ?_; clear hK K
    rw [hsn, hl2]
    refine dwk [(44, .v (.int .i64 (↑(j + 1))))] TLB_ok hnt fun K hK => ?_; refine And.intro auI ?_; refine hK _ _ ?_; clear hK K
    refine ⟨⟨j + 1, hlt⟩, by first | omega | (dsimp only; omega), VS.toA⟩
   ·rw [List.take_of_length_le (by omega)]
    refine dw_seq ?_; refine dwk [(33, .v (.bool false))] TLB_ok hnt fun K hK => ?_; refine And.intro auF ?_; refine hK _ _ ?_; clear hK K; refine dw_seq ?_; refine dw_cond (t := false) rfl ?_; rw [if_neg (by simp)]; refine dw_exit ?_; refine dw_seq ?_; refine dwk [(45, .ag [.sl 2 (eTys L'.binds) none, .v (.int .i64 L'.kind), .v (.int .i64 L'.index), .sl 4 (eTms L'.args) none, .sl 2 (eTys R'.binds) none, .v (.int .i64 R'.kind), .v (.int .i64 R'.index), .sl 4 (eTms R'.args) none, .sl 2 (eTys W) none])] TLB_ok hnt fun K hK => ?_
    refine And.intro (auV) ?_; refine dcl (hd) ?_; refine hK _ _ ?_; clear hK K; refine dw_ret ?_
    exact reta rfl
 ·rw [if_pos h0, ePr_z]
  generalize Li.may L R M B = e at hm h0 ⊢
  refine calldw 0 49 [ResultVar.cell 4 78, ResultVar.tmp 5] TLB_ok Try.func37 rfl Try.ntmps37 rfl fun cx hnt hn0 => ?_
  ·skip
   refine dw_seq ?_; refine dwk [] TLB_ok hnt fun K hK => ?_; refine hK _ _ ?_; clear hK K; refine dw_seq ?_; refine dwk [] TLB_ok hnt fun K hK => ?_; refine hK _ _ ?_; clear hK K; refine dw_seq ?_; refine dw_seq ?_; refine dwk [] TLB_ok hnt fun K hK => ?_; refine dcl (hm) ?_; refine hK _ _ ?_; clear hK K; refine dw_seq ?_; refine dwk [(17, .v (.bool true))] TLB_ok hnt fun K hK => ?_; refine And.intro (bneT h0) ?_
   refine hK _ _ ?_; clear hK K; refine dw_cond (t := true) rfl ?_; rw [if_pos rfl]; refine dw_seq ?_; refine dwk [] TLB_ok hnt fun K hK => ?_; refine hK _ _ ?_; clear hK K; refine dw_ret ?_
   exact reta rfl
set_option maxHeartbeats 1000000 in
theorem lclosed_d (L R : Tm) (M B : List Ty) (hL : L.full ≤ 90000 ∧ L.Fit) (hR : R.full ≤ 90000 ∧ R.Fit) (hM : ∀ m ∈ M, Ty.sizes B + m.size ≤ 900000) (hMl : M.length ≤ 900000) (hB : ∀ b ∈ B, b.size ≤ 1000)
  (hu : Li.may L R M B = 0 → ((Li.lif B L 0).full ≤ 4400000 ∧ (Li.lif B L 0).Fit ∧ (Li.rt (Li.lif B L 0) = true → (Li.lif B L 0).full ≤ 900000)) ∧ ((Li.lif B R 0).full ≤ 4400000 ∧ (Li.lif B R 0).Fit ∧ (Li.rt (Li.lif B R 0) = true → (Li.lif B R 0).full ≤ 900000)) ∧ Ty.sizes (M.map (Li.arr B)) ≤ 800000)
  (hv : (Li.over ⟨L, R, M⟩ B).2 = 0 → ∀ p, (Li.over ⟨L, R, M⟩ B).1 = p → (Ty.sizes B + p.l.full ≤ 500000 ∧ (Li.cl p.l B).Fit) ∧ (Ty.sizes B + p.r.full ≤ 500000 ∧ (Li.cl p.r B).Fit) ∧ Ty.sizes p.m ≤ 800000) : PureC Try.prog 40 [.ag (ePr ⟨L, R, M⟩), .sl 2 (eTys B) none] (.tu [.ag (ePr (Li.closed ⟨L, R, M⟩ B).1), .v (.int .i64 (Li.closed ⟨L, R, M⟩ B).2)]) := by
 have ho := lover_d L R M B hL hR hM hMl hB hu
 unfold Li.closed
 generalize Li.over ⟨L, R, M⟩ B = o at ho hv ⊢
 obtain ⟨⟨ol, or, om⟩, oe⟩ := o
 dsimp only at ho hv ⊢
 rw [ePr_eq, ePr_eq] at ho
 rw [ePr_eq]
 by_cases h0 : oe = 0
 ·obtain ⟨⟨u1, u2⟩, ⟨u3, u4⟩, u5⟩ := hv h0 _ rfl
  dsimp only at u1 u2 u3 u4 u5
  subst h0
  rw [if_neg (by simp)]
  have c1 := lclose_d ol B (by omega) u2
  have c2 := lclose_d or B (by omega) u4
  have f1 := full_args ol
  have f2 := full_args or
  have hd := ldone_d (Li.cl ol B) (Li.cl or B) om ⟨by unfold Li.cl; rw [Tm.full_eq, Ty.sizes_append]; omega, u2, fun _ => by unfold Li.cl; rw [Tm.full_eq, Ty.sizes_append]; omega⟩ ⟨by unfold Li.cl; rw [Tm.full_eq, Ty.sizes_append]; omega, u4, fun _ => by unfold Li.cl; rw [Tm.full_eq, Ty.sizes_append]; omega⟩ u5
  unfold Li.clP
  dsimp only
  generalize Li.cl ol B = L' at c1 hd ⊢
  generalize Li.cl or B = R' at c2 hd ⊢
  generalize Li.done ⟨L', R', om⟩ = z at hd ⊢
  obtain ⟨⟨zl, zr, zm⟩, ze⟩ := z
  rw [eTm_eq, eTm_eq] at c1 c2
  dsimp only at hd ⊢
  rw [ePr_eq, ePr_eq] at hd
  rw [ePr_eq]
  refine calldw 0 32 [ResultVar.cell 4 78, ResultVar.tmp 5] TLB_ok Try.func40 rfl Try.ntmps40 rfl fun cx hnt hn0 => ?_
  ·skip
   refine dw_seq ?_; refine dwk [] TLB_ok hnt fun K hK => ?_; refine hK _ _ ?_; clear hK K; refine dw_seq ?_; refine dwk [] TLB_ok hnt fun K hK => ?_; refine dcl (ho) ?_; refine hK _ _ ?_; clear hK K; refine dw_seq ?_; refine dw_seq ?_; refine dwk [] TLB_ok hnt fun K hK => ?_; refine hK _ _ ?_; clear hK K; refine dw_cond (t := false) rfl ?_; rw [if_neg (by simp)]; refine dw_skip ?_; refine dw_seq ?_; refine dwkD [] TLB_ok hnt fun K hK => ?_
   refine dcl (c1) ?_; refine dcl (c2) ?_; refine hK _ _ (by kernel_rfl) ?_; clear hK K; refine dw_seq ?_; refine dwk [] TLB_ok hnt fun K hK => ?_; refine dcl (hd) ?_; refine hK _ _ ?_; clear hK K; refine dw_ret ?_
   exact reta rfl
 ·rw [if_pos h0, ePr_z]
  refine calldw 0 32 [ResultVar.cell 4 78, ResultVar.tmp 5] TLB_ok Try.func40 rfl Try.ntmps40 rfl fun cx hnt hn0 => ?_
  ·skip
   refine dw_seq ?_; refine dwk [] TLB_ok hnt fun K hK => ?_; refine hK _ _ ?_; clear hK K; refine dw_seq ?_; refine dwk [] TLB_ok hnt fun K hK => ?_; refine dcl (ho) ?_; refine hK _ _ ?_; clear hK K; refine dw_seq ?_; refine dw_seq ?_; refine dwk [(15, .v (.bool true))] TLB_ok hnt fun K hK => ?_; refine And.intro (bneT h0) ?_; refine hK _ _ ?_; clear hK K; refine dw_cond (t := true) rfl ?_; rw [if_pos rfl]
   refine dw_seq ?_; refine dwk [] TLB_ok hnt fun K hK => ?_; refine hK _ _ ?_; clear hK K; refine dw_ret ?_
   exact reta rfl
end Go.Proofs.Ytdmiekaeodcehaa

namespace Go.Proofs.Ytdmiekaeodcehaa
open Go.RowKit
end Go.Proofs.Ytdmiekaeodcehaa

namespace Go.Proofs.Ytdmiekaeodcehaa
open Go.RowKit
def eBd (b : Pn.Bd) : List (Int × D) := b.map fun p => (p.1, .ag (eTm p.2))
@[simp] theorem eBd_ok (f g : Nat → Bool) (b : Pn.Bd) : D.okm f g (eBd b) = true := okm_map _ b fun p _ => by simp [D.ok, eTm_ok]
end Go.Proofs.Ytdmiekaeodcehaa

namespace Go.Proofs.Ytdmiekaeodcehaa
open Go.RowKit

namespace Pn
end Pn

theorem looses_pos (t : Tm) : ∀ n : Int, ∀ x ∈ t.looses n, 0 ≤ x := by
  induction t using Tm.ind with
  | h b k i a ih =>
    intro n x hx
    rw [Tm.looses_eq _ _ _ _ _ _ rfl] at hx
    rcases List.mem_append.1 hx with hx | hx
    · split at hx
      · rename_i h; rw [List.mem_singleton] at hx; subst hx; omega
      · cases hx
    · have key : ∀ (l : List Tm), (∀ t ∈ l, t ∈ a) → ∀ n, ∀ x ∈ Tm.loosess l n, 0 ≤ x := by
        intro l
        induction l with
        | nil => intro _ n x hx; simp [Tm.loosess] at hx
        | cons t l ihl =>
          intro hl n x hx
          rw [Tm.loosess] at hx
          rcases List.mem_append.1 hx with hx | hx
          · exact ih t (hl t (by simp)) n x hx
          · exact ihl (fun u hu => hl u (by simp [hu])) n x hx
      exact key a (fun _ h => h) _ x hx
end Go.Proofs.Ytdmiekaeodcehaa

namespace Go.Proofs.Ytdmiekaeodcehaa
open Go.RowKit

section
variable {P : Program} {T : List (Nat × TI)} {cx : Cx} {Fr : Nat → Prop} {m : Mp} {Im : Nat → Nat → Prop} {w w' : World} {a : Act} {σ σ' : List (Key × D)}
theorem St.drew (h : St cx Fr m Im w a σ) : St cx Fr m Im w.drew a σ := h.below0 (Below.refl _ _).drew
end

section
variable {P : Program} {T : List (Nat × TI)} {cx : Cx} {m : Mp} {Im : Nat → Nat → Prop} {w : World} {a : Act} {σ : List (Key × D)} {ops : Array Oper} {Q : Exit → Act → World → Prop}
end
end Go.Proofs.Ytdmiekaeodcehaa

namespace Go.Proofs.Ytdmiekaeodcehaa
open Go.RowKit
def ePP (p : Tm × Tm) : List D := eTm p.1 ++ eTm p.2
def ePPs (l : List (Tm × Tm)) : List (List D) := l.map ePP
theorem ePP_eq (p : Tm × Tm) : ePP p = [.sl 2 (eTys p.1.binds) none, .v (.int .i64 p.1.kind), .v (.int .i64 p.1.index), .sl 4 (eTms p.1.args) none, .sl 2 (eTys p.2.binds) none, .v (.int .i64 p.2.kind), .v (.int .i64 p.2.index), .sl 4 (eTms p.2.args) none] := by unfold ePP; rw [eTm_eq, eTm_eq]; rfl
@[simp] theorem ePPs_ok (f g : Nat → Bool) (l : List (Tm × Tm)) : D.okss f g (ePPs l) = true := D.okss_map _ l fun p _ => by simp [ePP_eq, D.oks, D.ok, eTms_ok, eTys_ok]
namespace Pn
end Pn
end Go.Proofs.Ytdmiekaeodcehaa

namespace Go.Proofs.Ytdmiekaeodcehaa
open Go.RowKit
/-! the examples -/
def mb (i : Int) : Tm := .mk [] 0 i []
def mc (i : Int) (l : List Tm) : Tm := .mk [] 1 i l
theorem fit_mk {b : List Ty} {k i : Int} {a : List Tm} (h1 : -1000 ≤ i) (h2 : i ≤ 1000) (h : ∀ t ∈ a, t.Fit) : (Tm.mk b k i a).Fit := Tm.fit_iff.2 ⟨by omega, by omega, h⟩
theorem fit0 (k i : Int) (h1 : -1000 ≤ i) (h2 : i ≤ 1000) (b : List Ty) : (Tm.mk b k i []).Fit := fit_mk h1 h2 nofun
theorem fit1 {k i : Int} {b : List Ty} {t : Tm} (h1 : -1000 ≤ i) (h2 : i ≤ 1000) (h : t.Fit) : (Tm.mk b k i [t]).Fit := fit_mk h1 h2 fun u hu => by rw [List.mem_singleton] at hu; subst hu; exact h
end Go.Proofs.Ytdmiekaeodcehaa

namespace Go.Proofs.Ytdmiekaeodcehaa
open Go.RowKit

end Go.Proofs.Ytdmiekaeodcehaa

namespace Go.Proofs.Ytdmiekaeodcehaa
open Go.RowKit
end Go.Proofs.Ytdmiekaeodcehaa

namespace Go.Proofs.Ytdmiekaeodcehaa
open Go.RowKit

end Go.Proofs.Ytdmiekaeodcehaa

namespace Go.Proofs.Ytdmiekaeodcehaa
open Go.RowKit
end Go.Proofs.Ytdmiekaeodcehaa

namespace Go.Proofs.Ytdmiekaeodcehaa
open Go.RowKit

end Go.Proofs.Ytdmiekaeodcehaa

namespace Go.Proofs.Ytdmiekaeodcehaa
open Go.RowKit
end Go.Proofs.Ytdmiekaeodcehaa

namespace Go.Proofs.Ytdmiekaeodcehaa
open Go.RowKit
def TLS_3 : TI := ⟨1, false, [Value.int IntKind.i64 0], [], none, 8, 2, none, false⟩
theorem TLS_3_ok : TypOk Try.prog 3 TLS_3 := ⟨by kernel_rfl, by kernel_rfl, by kernel_rfl, by kernel_rfl, by kernel_rfl⟩
def TLS_56 : TI := ⟨1, false, [Value.slice none 0 0], [], some 95, 24, 5, none, false⟩
theorem TLS_56_ok : TypOk Try.prog 56 TLS_56 := ⟨by kernel_rfl, by kernel_rfl, by kernel_rfl, by kernel_rfl, by kernel_rfl⟩
def TLS_34 : TI := ⟨4, true, [Value.slice none 0 0, Value.int IntKind.i64 0, Value.int IntKind.i64 0, Value.slice none 0 0], [(0, 1, false), (1, 2, true), (3, 1, false)], none, 64, 6, none, false⟩
theorem TLS_34_ok : TypOk Try.prog 34 TLS_34 := ⟨by kernel_rfl, by kernel_rfl, by kernel_rfl, by kernel_rfl, by kernel_rfl⟩
def TLS_30 : TI := ⟨1, false, [Value.slice none 0 0], [], some 100, 24, 5, none, false⟩
theorem TLS_30_ok : TypOk Try.prog 30 TLS_30 := ⟨by kernel_rfl, by kernel_rfl, by kernel_rfl, by kernel_rfl, by kernel_rfl⟩
def TLS_78 : TI := ⟨9, true, [Value.slice none 0 0, Value.int IntKind.i64 0, Value.int IntKind.i64 0, Value.slice none 0 0, Value.slice none 0 0, Value.int IntKind.i64 0, Value.int IntKind.i64 0, Value.slice none 0 0, Value.slice none 0 0], [(0, 4, true), (4, 4, true), (8, 1, false)], none, 152, 6, none, false⟩
theorem TLS_78_ok : TypOk Try.prog 78 TLS_78 := ⟨by kernel_rfl, by kernel_rfl, by kernel_rfl, by kernel_rfl, by kernel_rfl⟩
def TLS_32 : TI := ⟨1, false, [Value.slice none 0 0], [], some 34, 24, 5, none, false⟩
theorem TLS_32_ok : TypOk Try.prog 32 TLS_32 := ⟨by kernel_rfl, by kernel_rfl, by kernel_rfl, by kernel_rfl, by kernel_rfl⟩
def TLS_100 : TI := ⟨2, true, [Value.slice none 0 0, Value.int IntKind.i64 0], [(0, 1, false), (1, 1, false)], none, 32, 6, none, false⟩
theorem TLS_100_ok : TypOk Try.prog 100 TLS_100 := ⟨by kernel_rfl, by kernel_rfl, by kernel_rfl, by kernel_rfl, by kernel_rfl⟩
def TLS_31 : TI := ⟨2, true, [Value.int IntKind.i64 0, Value.int IntKind.i64 0], [(0, 1, false), (1, 1, false)], none, 16, 6, none, true⟩
theorem TLS_31_ok : TypOk Try.prog 31 TLS_31 := ⟨by kernel_rfl, by kernel_rfl, by kernel_rfl, by kernel_rfl, by kernel_rfl⟩
def TLS_22 : TI := ⟨1, false, [Value.slice none 0 0], [], some 146, 24, 5, none, false⟩
theorem TLS_22_ok : TypOk Try.prog 22 TLS_22 := ⟨by kernel_rfl, by kernel_rfl, by kernel_rfl, by kernel_rfl, by kernel_rfl⟩
def TLS_95 : TI := ⟨5, true, [Value.int IntKind.i64 0, Value.slice none 0 0, Value.int IntKind.i64 0, Value.int IntKind.i64 0, Value.slice none 0 0], [(0, 1, false), (1, 4, true)], none, 72, 6, none, false⟩
theorem TLS_95_ok : TypOk Try.prog 95 TLS_95 := ⟨by kernel_rfl, by kernel_rfl, by kernel_rfl, by kernel_rfl, by kernel_rfl⟩
def TLS_53 : TI := ⟨1, false, [Value.slice none 0 0], [], some 105, 24, 5, none, false⟩
theorem TLS_53_ok : TypOk Try.prog 53 TLS_53 := ⟨by kernel_rfl, by kernel_rfl, by kernel_rfl, by kernel_rfl, by kernel_rfl⟩
def TLS_35 : TI := ⟨1, false, [Value.int IntKind.i64 0], [], none, 8, 2, none, false⟩
theorem TLS_35_ok : TypOk Try.prog 35 TLS_35 := ⟨by kernel_rfl, by kernel_rfl, by kernel_rfl, by kernel_rfl, by kernel_rfl⟩
def TLS_75 : TI := ⟨3, true, [Value.int IntKind.i64 0, Value.slice none 0 0, Value.slice none 0 0], [(0, 1, false), (1, 1, false), (2, 1, false)], none, 56, 6, none, false⟩
theorem TLS_75_ok : TypOk Try.prog 75 TLS_75 := ⟨by kernel_rfl, by kernel_rfl, by kernel_rfl, by kernel_rfl, by kernel_rfl⟩
def TLS_27 : TI := ⟨4, true, [Value.slice none 0 0, Value.int IntKind.i64 0, Value.int IntKind.i64 0, Value.slice none 0 0], [(0, 1, false), (1, 2, true), (3, 1, false)], none, 64, 6, none, false⟩
theorem TLS_27_ok : TypOk Try.prog 27 TLS_27 := ⟨by kernel_rfl, by kernel_rfl, by kernel_rfl, by kernel_rfl, by kernel_rfl⟩
def TLS_105 : TI := ⟨5, true, [Value.int IntKind.i64 0, Value.slice none 0 0, Value.int IntKind.i64 0, Value.int IntKind.i64 0, Value.slice none 0 0], [(0, 1, false), (1, 4, true)], none, 72, 6, none, false⟩
theorem TLS_105_ok : TypOk Try.prog 105 TLS_105 := ⟨by kernel_rfl, by kernel_rfl, by kernel_rfl, by kernel_rfl, by kernel_rfl⟩
def TLS_146 : TI := ⟨2, true, [Value.slice none 0 0, Value.int IntKind.i64 0], [(0, 1, false), (1, 1, false)], none, 32, 6, none, false⟩
theorem TLS_146_ok : TypOk Try.prog 146 TLS_146 := ⟨by kernel_rfl, by kernel_rfl, by kernel_rfl, by kernel_rfl, by kernel_rfl⟩
def TLS : List (Nat × TI) := [(3, TLS_3), (56, TLS_56), (34, TLS_34), (30, TLS_30), (78, TLS_78), (32, TLS_32), (100, TLS_100), (31, TLS_31), (22, TLS_22), (95, TLS_95), (53, TLS_53), (35, TLS_35), (75, TLS_75), (27, TLS_27), (105, TLS_105), (146, TLS_146)]
theorem TLS_ok : TabOk Try.prog TLS := (((((((((((((((((TabOk.nil _).cons TLS_146_ok).cons TLS_105_ok).cons TLS_27_ok).cons TLS_75_ok).cons TLS_35_ok).cons TLS_53_ok).cons TLS_95_ok).cons TLS_22_ok).cons TLS_31_ok).cons TLS_100_ok).cons TLS_32_ok).cons TLS_78_ok).cons TLS_30_ok).cons TLS_34_ok).cons TLS_56_ok).cons TLS_3_ok)

/-! the example -/
namespace Li
def kA : Ty := .mk [] 0
def kX : Tm := .mk [] 2 0 []
def kC : Tm := .mk [] 1 0 [kX]
def kB : Tm := .mk [] 0 0 []
def kP : Pr := ⟨.mk [kA] 1 0 [.mk [] 2 0 [kB]], .mk [kA] 2 0 [kB], [.mk [kA] 0]⟩
theorem kSort : sortU [0, 0] = [0] := (sortU_twice [0]).trans (by unfold sortU; rw [List.mergeSort_singleton]; rfl)
theorem kMay : may kC kX [kA] [kA] = 0 := by unfold may; rw [show metasL [kC, kX] = [0, 0] by decide +kernel, kSort]; decide +kernel
theorem kOver : over ⟨kC, kX, [kA]⟩ [kA] = (⟨.mk [] 1 0 [.mk [] 2 0 [kB]], .mk [] 2 0 [kB], [.mk [kA] 0]⟩, 0) := by unfold over; rw [if_neg (fun h => h kMay)]; kernel_rfl
theorem kClosed : closed ⟨kC, kX, [kA]⟩ [kA] = (kP, 0) := by unfold closed; rw [kOver]; kernel_rfl
end Li
theorem lexample_d : PureC Try.prog 40 [.ag [.sl 2 [] none, .v (.int .i64 1), .v (.int .i64 0), .sl 4 (eTms [Li.kX]) none, .sl 2 [] none, .v (.int .i64 2), .v (.int .i64 0), .sl 4 [] none, .sl 2 (eTys [Li.kA]) none], .sl 2 (eTys [Li.kA]) none] (.tu [.ag [.sl 2 (eTys [Li.kA]) none, .v (.int .i64 1), .v (.int .i64 0), .sl 4 (eTms [.mk [] 2 0 [Li.kB]]) none, .sl 2 (eTys [Li.kA]) none, .v (.int .i64 2), .v (.int .i64 0), .sl 4 (eTms [Li.kB]) none, .sl 2 (eTys [.mk [Li.kA] 0]) none], .v (.int .i64 0)]) := by
  have h := lclosed_d Li.kC Li.kX [Li.kA] [Li.kA] ⟨by decide, fit1 (by decide) (by decide) (fit0 _ _ (by decide) (by decide) _)⟩ ⟨by decide, fit0 _ _ (by decide) (by decide) _⟩ (by decide) (by decide) (by decide)
    (fun _ => ⟨⟨by decide, fit1 (by decide) (by decide) (fit1 (by decide) (by decide) (fit0 _ _ (by decide) (by decide) _)), fun _ => by decide⟩, ⟨by decide, fit1 (by decide) (by decide) (fit0 _ _ (by decide) (by decide) _), fun _ => by decide⟩, by decide⟩)
    (fun _ p hp => by
      rw [Li.kOver] at hp
      subst hp
      exact ⟨⟨by decide, fit1 (by decide) (by decide) (fit1 (by decide) (by decide) (fit0 _ _ (by decide) (by decide) _))⟩, ⟨by decide, fit1 (by decide) (by decide) (fit0 _ _ (by decide) (by decide) _)⟩, by decide⟩)
  rw [Li.kClosed] at h
  exact h
theorem kOf0_d : PureC Try.prog 54 [.v (.int .i64 0), .v (.slice none 0 0)] (.ag [.sl 2 [] none, .v (.int .i64 0)]) := CallC.vle (kOf_d 0 [] (by simp [Ty.sizes])) (.cons (VLe.refl _) (.cons (VLe.nil _) .nil)) (VLe.refl _)
set_option maxHeartbeats 2000000 in
theorem known22_d : PureC Try.prog 35 [] (.v (.bool true)) := by
 have ho := kOf0_d
 have hc := lexample_d
 refine calldw 0 78 [ResultVar.tmp 0] TLS_ok Try.func35 rfl Try.ntmps35 rfl fun cx hnt hn0 => ?_
 ·skip
  refine dw_seq ?_; refine dwk [] TLS_ok hnt fun K hK => ?_; refine hK _ _ ?_; clear hK K; refine dw_seq ?_; refine dwk [] TLS_ok hnt fun K hK => ?_; refine dcl (ho) ?_; refine hK _ _ ?_; clear hK K; refine dw_seq ?_; refine dwk [] TLS_ok hnt fun K hK => ?_; refine hK _ _ ?_; clear hK K; refine dw_seq ?_; refine dwk [(10, .ag (eTm Li.kX)), (11, .sl 4 (eTms [Li.kX]) none), (14, .ag (eTy Li.kA)), (15, .sl 2 (eTys [Li.kA]) none)] TLS_ok hnt fun K hK => ?_
  refine And.intro (auV) ?_; refine And.intro (VLe.untag _ _ _) ?_; refine And.intro (auV) ?_; refine And.intro (VLe.untag _ _ _) ?_; refine hK _ _ ?_; clear hK K; refine dw_seq ?_; refine dwk [(18, .ag [.sl 2 [] none, .v (.int .i64 1), .v (.int .i64 0), .sl 4 (eTms [Li.kX]) none, .sl 2 [] none, .v (.int .i64 2), .v (.int .i64 0), .sl 4 [] none, .sl 2 (eTys [Li.kA]) none]), (19, .ag (eTy Li.kA)), (20, .sl 2 (eTys [Li.kA]) none)] TLS_ok hnt fun K hK => ?_
  refine And.intro (auV) ?_; refine And.intro (auV) ?_; refine And.intro (VLe.untag _ _ _) ?_; refine dcl (hc) ?_; refine hK _ _ ?_; clear hK K; refine dw_seq ?_; refine dwk [(25, .v (.bool true)), (29, .v (.int .i64 (1))), (30, .v (.bool true)), (35, .q [.sl 2 (eTys [Li.kA]) none, .v (.int .i64 0)]), (38, .v (.int .i64 (1))), (39, .v (.bool true)), (45, .v (.int .i64 (1))), (46, .v (.bool true)), (52, .v (.int .i64 (1))), (53, .v (.bool true)), (59, .q [.sl 2 [] none, .v (.int .i64 2), .v (.int .i64 0), .sl 4 (eTms [Li.kB]) none]), (62, .v (.int .i64 (1))), (63, .v (.bool true)), (69, .q [.sl 2 [] none, .v (.int .i64 2), .v (.int .i64 0), .sl 4 (eTms [Li.kB]) none]), (72, .q [.sl 2 [] none, .v (.int .i64 0), .v (.int .i64 0), .sl 4 [] none])] TLS_ok hnt fun K hK => ?_
  refine And.intro (VLe.refl _) ?_; refine And.intro (dintE (by rfl)) ?_; refine And.intro (VLe.refl _) ?_; refine And.intro (⟨by decide, by decide⟩) ?_; refine And.intro (VLe.of_eq rfl) ?_; refine And.intro (dintE (by rfl)) ?_; refine And.intro (VLe.refl _) ?_; refine And.intro (dintE (by rfl)) ?_; refine And.intro (VLe.refl _) ?_; refine And.intro (dintE (by rfl)) ?_; refine And.intro (VLe.refl _) ?_
  refine And.intro (⟨by decide, by decide⟩) ?_; refine And.intro (VLe.of_eq rfl) ?_; refine And.intro (dintE (by rfl)) ?_; refine And.intro (VLe.refl _) ?_; refine And.intro (⟨by decide, by decide⟩) ?_; refine And.intro (VLe.of_eq rfl) ?_; refine And.intro (⟨by decide, by decide⟩) ?_; refine And.intro (VLe.of_eq rfl) ?_; refine hK _ _ ?_; clear hK K; refine dw_ret ?_
  exact reta rfl
/-! the law -/
theorem sizes_le22 {l : List Ty} {n : Nat} (h : ∀ t ∈ l, t.size ≤ n) : Ty.sizes l ≤ l.length * n := by
  induction l with
  | nil => simp [Ty.sizes]
  | cons t l ih =>
    have h1 := h t (by simp)
    have h2 := ih fun u hu => h u (by simp [hu])
    rw [Ty.sizes, List.length_cons, Nat.add_mul]; omega
end Go.Proofs.Ytdmiekaeodcehaa

namespace Go.Proofs.Ytdmiekaeodcehaa
open Go.RowKit

theorem full_etas {l : List Ty} (h : ∀ t ∈ l, ∀ k i, (Ty.eta t k i).full ≤ t.size * t.size) : Tm.fulls (Ty.etas l) ≤ Ty.sizes l * Ty.sizes l := by
  induction l with
  | nil => simp [Ty.etas, Tm.fulls]
  | cons t l ih =>
    have h1 := h t (by simp) 0 (l.length : Nat)
    have h2 := ih fun u hu => h u (by simp [hu])
    simp only [Ty.etas, Tm.fulls, Ty.sizes]
    have e : (t.size + Ty.sizes l) * (t.size + Ty.sizes l) = t.size * t.size + Ty.sizes l * Ty.sizes l + 2 * (t.size * Ty.sizes l) := by
      rw [Nat.add_mul, Nat.mul_add, Nat.mul_add, Nat.mul_comm (Ty.sizes l) t.size]; omega
    rw [e]; omega
theorem full_eta (t : Ty) : ∀ k i, (Ty.eta t k i).full ≤ t.size * t.size := by
  induction t using Ty.ind with
  | h l b ih =>
    intro k i
    have h := full_etas ih
    rw [Ty.eta_eq, Tm.full_eq, Ty.size_eq]
    have e : (Ty.sizes l + 1) * (Ty.sizes l + 1) = Ty.sizes l * Ty.sizes l + 2 * Ty.sizes l + 1 := by
      rw [Nat.add_mul, Nat.mul_add]; omega
    rw [e]; omega
theorem fit_etas {l : List Ty} (h : ∀ t ∈ l, ∀ k i, (k = 0 → 0 ≤ i ∧ i ≤ 1000000) → (k ≠ 0 → -9223372036854775808 ≤ i ∧ i ≤ 9223372036854775807) → (Ty.eta t k i).Fit) (hl : l.length ≤ 1000000) : ∀ t ∈ Ty.etas l, t.Fit := by
  induction l with
  | nil => simp [Ty.etas]
  | cons t l ih =>
    intro u hu
    simp only [Ty.etas, List.mem_cons] at hu
    simp only [List.length_cons] at hl
    rcases hu with rfl | hu
    · exact h t (by simp) 0 _ (fun _ => by omega) (fun h => absurd rfl h)
    · exact ih (fun u hu => h u (by simp [hu])) (by omega) u hu
theorem fit_eta (t : Ty) (hs : t.size ≤ 1000000) : ∀ k i, (k = 0 → 0 ≤ i ∧ i ≤ 1000000) → (k ≠ 0 → -9223372036854775808 ≤ i ∧ i ≤ 9223372036854775807) → (Ty.eta t k i).Fit := by
  induction t using Ty.ind with
  | h l b ih =>
    intro k i h1 h2
    have hl := Ty.le_sizes l
    rw [Ty.size_eq] at hs
    rw [Ty.eta_eq, Tm.fit_iff]
    refine ⟨?_, ?_, fit_etas (fun t ht k i => ih t ht (by have := Ty.size_mem ht; omega) k i) (by omega)⟩
    · by_cases hk : k = 0
      · rw [if_pos hk]; have := h1 hk; omega
      · rw [if_neg hk]; exact (h2 hk).1
    · by_cases hk : k = 0
      · rw [if_pos hk]; have := h1 hk; omega
      · rw [if_neg hk]; exact (h2 hk).2
theorem fit_Eta (t : Ty) (hs : t.size ≤ 60) (k i : Int) (hi : -9223372036854775808 ≤ i ∧ i ≤ 9223372036854775807) : (Ty.Eta t k i).Fit := by
  unfold Ty.Eta
  by_cases hc : k = 0 ∧ (i < 0 ∨ 1000 < i)
  · rw [if_pos hc]; simp [Tm.zero, Tm.fit_iff]
  · rw [if_neg hc]; exact fit_eta t (by omega) k i (fun hk => by omega) (fun _ => hi)
theorem full_Eta (t : Ty) (hs : t.size ≤ 60) (k i : Int) : (Ty.Eta t k i).full ≤ 3600 := by
  unfold Ty.Eta
  split
  · simp [Tm.zero, Tm.full, Tm.fulls, Ty.sizes]
  · have h := full_eta t k i
    have : t.size * t.size ≤ 60 * 60 := Nat.mul_le_mul hs hs
    omega
end Go.Proofs.Ytdmiekaeodcehaa

namespace Go.Proofs.Ytdmiekaeodcehaa
open Go.RowKit
namespace Li
theorem wide_list {l : List Tm} {m : Nat} (h : ∀ t ∈ l, t.full ≤ m * t.size) : Tm.fulls l ≤ m * Tm.sizes l := by
  induction l with
  | nil => simp [Tm.fulls]
  | cons t l ih =>
    have h1 := h t (by simp)
    have h2 := ih fun u hu => h u (by simp [hu])
    simp only [Tm.fulls, Tm.sizes]
    rw [Nat.mul_add]; omega
theorem full_list {l : List Tm} {m : Nat} (h : ∀ t ∈ l, t.full ≤ m) : Tm.fulls l ≤ m * l.length := by
  induction l with
  | nil => simp [Tm.fulls]
  | cons t l ih =>
    have h1 := h t (by simp)
    have h2 := ih fun u hu => h u (by simp [hu])
    simp only [Tm.fulls, List.length_cons]
    rw [Nat.mul_add]; omega
theorem wide_etas {l : List Ty} {m : Nat} (h : ∀ t ∈ l, ∀ k i, (Ty.eta t k i).full ≤ m * (Ty.eta t k i).size) : Tm.fulls (Ty.etas l) ≤ m * Tm.sizes (Ty.etas l) := by
  induction l with
  | nil => simp [Ty.etas, Tm.fulls]
  | cons t l ih =>
    have h1 := h t (by simp) 0 (l.length : Nat)
    have h2 := ih fun u hu => h u (by simp [hu])
    simp only [Ty.etas, Tm.fulls, Tm.sizes]
    rw [Nat.mul_add]; omega
theorem wide_eta {m : Nat} (t : Ty) : t.size ≤ m → ∀ k i, (Ty.eta t k i).full ≤ m * (Ty.eta t k i).size := by
  induction t using Ty.ind with
  | h l b ih =>
    intro hs k i
    rw [Ty.size_eq] at hs
    have h := wide_etas (m := m) fun t ht => ih t ht (by have := Ty.size_mem ht; omega)
    rw [Ty.eta_eq, Tm.full_eq, Tm.size_eq, Nat.mul_add]; omega
theorem wide_Eta (t : Ty) (hs : t.size ≤ 60) (k i : Int) : (Ty.Eta t k i).full ≤ 60 * (Ty.Eta t k i).size := by
  unfold Ty.Eta
  split
  · simp [Tm.zero, Tm.full, Tm.fulls, Tm.size, Tm.sizes, Ty.sizes]
  · exact wide_eta t hs k i
theorem vars_mem {B : List Ty} {n : Int} {u : Tm} (h : u ∈ vars B n) : ∃ (j : Nat) (hj : j < B.length), u = Ty.Eta B[j] 0 (n + B.length - 1 - j) := by
  obtain ⟨j, hj, rfl⟩ := List.getElem_of_mem h
  have hj2 : j < B.length := by rw [vars_len] at hj; exact hj
  exact ⟨j, hj2, vars_get B n j hj2⟩
theorem lif_wide {B : List Ty} (hB : ∀ b ∈ B, b.size ≤ 60) : ∀ (t : Tm) (n : Int), (lif B t n).full ≤ 60 * (lif B t n).size + t.full := by
  intro t
  induction t using Tm.ind with
  | h b k i a ih =>
  intro n
  have key : ∀ (l : List Tm) (m : Int), (∀ t ∈ l, ∀ n, (lif B t n).full ≤ 60 * (lif B t n).size + t.full) → Tm.fulls (lifs B l m) ≤ 60 * Tm.sizes (lifs B l m) + Tm.fulls l := by
    intro l m
    induction l with
    | nil => intro _; simp [lifs, Tm.fulls]
    | cons t l ihl =>
      intro h
      have h1 := h t (by simp) m
      have h2 := ihl fun u hu => h u (by simp [hu])
      rw [lifs]
      simp only [Tm.fulls, Tm.sizes]
      rw [Nat.mul_add]; omega
  have h1 := key a (n + b.length) ih
  have h2 : Tm.fulls (if k = 2 then vars B (n + b.length) else []) ≤ 60 * Tm.sizes (if k = 2 then vars B (n + b.length) else []) := by
    split
    · refine wide_list fun u hu => ?_
      obtain ⟨j, hj, rfl⟩ := vars_mem hu
      exact wide_Eta _ (hB _ (List.getElem_mem hj)) _ _
    · simp [Tm.fulls]
  rw [lif_eq, Tm.full_eq, Tm.size_eq, Tm.full_eq, Tm.fulls_append, Tm.sizes_append]
  rw [Nat.mul_add, Nat.mul_add]; omega
theorem lif_full {B : List Ty} (hB : ∀ b ∈ B, b.size ≤ 60) (hl : B.length ≤ 8) : ∀ (t : Tm) (n : Int), (lif B t n).full ≤ 28801 * t.full := by
  intro t
  induction t using Tm.ind with
  | h b k i a ih =>
  intro n
  have key : ∀ (l : List Tm) (m : Int), (∀ t ∈ l, ∀ n, (lif B t n).full ≤ 28801 * t.full) → Tm.fulls (lifs B l m) ≤ 28801 * Tm.fulls l := by
    intro l m
    induction l with
    | nil => intro _; simp [lifs, Tm.fulls]
    | cons t l ihl =>
      intro h
      have h1 := h t (by simp) m
      have h2 := ihl fun u hu => h u (by simp [hu])
      rw [lifs]
      simp only [Tm.fulls]
      rw [Nat.mul_add]; omega
  have h1 := key a (n + b.length) ih
  have h2 : Tm.fulls (if k = 2 then vars B (n + b.length) else []) ≤ 28800 := by
    split
    · have := full_list (l := vars B (n + b.length)) (m := 3600) fun u hu => by
        obtain ⟨j, hj, rfl⟩ := vars_mem hu
        exact full_Eta _ (hB _ (List.getElem_mem hj)) _ _
      rw [vars_len] at this; omega
    · simp [Tm.fulls]
  rw [lif_eq, Tm.full_eq, Tm.full_eq, Tm.fulls_append]
  rw [Nat.mul_add, Nat.mul_add]; omega
theorem lif_fit {B : List Ty} (hB : ∀ b ∈ B, b.size ≤ 60) (hl : B.length ≤ 1000) : ∀ (t : Tm) (n : Int), 0 ≤ n → n + t.full ≤ 1000000 → t.Fit → (lif B t n).Fit := by
  intro t
  induction t using Tm.ind with
  | h b k i a ih =>
  intro n h0 hz hf
  rw [Tm.full_eq] at hz
  have hbl := Ty.le_sizes b
  obtain ⟨f1, f2, f3⟩ := Tm.fit_iff.1 hf
  rw [lif_eq]
  refine Tm.fit_iff.2 ⟨f1, f2, fun u hu => ?_⟩
  rcases List.mem_append.1 hu with hu | hu
  · split at hu
    · obtain ⟨j, hj, rfl⟩ := vars_mem hu
      exact fit_Eta _ (hB _ (List.getElem_mem hj)) _ _ (by omega)
    · cases hu
  · rw [lifs_map] at hu
    obtain ⟨t, ht, rfl⟩ := List.mem_map.1 hu
    have hsz := Tm.full_mem ht
    exact ih t ht _ (by omega) (by omega) (f3 t ht)
theorem size_list {l : List Tm} {m : Nat} (h : ∀ t ∈ l, t.size ≤ m) : Tm.sizes l ≤ m * l.length := by
  induction l with
  | nil => simp [Tm.sizes]
  | cons t l ih =>
    have h1 := h t (by simp)
    have h2 := ih fun u hu => h u (by simp [hu])
    simp only [Tm.sizes, List.length_cons]
    rw [Nat.mul_add]; omega
theorem size_etas {l : List Ty} (h : ∀ t ∈ l, ∀ k i, (Ty.eta t k i).size = t.size) : Tm.sizes (Ty.etas l) = Ty.sizes l := by
  induction l with
  | nil => simp [Ty.etas, Tm.sizes, Ty.sizes]
  | cons t l ih =>
    have h1 := h t (by simp) 0 (l.length : Nat)
    have h2 := ih fun u hu => h u (by simp [hu])
    simp only [Ty.etas, Tm.sizes, Ty.sizes]
    omega
theorem size_eta (t : Ty) : ∀ k i, (Ty.eta t k i).size = t.size := by
  induction t using Ty.ind with
  | h l b ih =>
    intro k i
    rw [Ty.eta_eq, Tm.size_eq, Ty.size_eq, size_etas ih]
theorem size_Eta (t : Ty) (hs : t.size ≤ 60) (k i : Int) : (Ty.Eta t k i).size ≤ 60 := by
  unfold Ty.Eta
  split
  · simp [Tm.zero, Tm.size, Tm.sizes]
  · rw [size_eta]; exact hs
theorem lif_size {B : List Ty} (hB : ∀ b ∈ B, b.size ≤ 60) (hl : B.length ≤ 8) : ∀ (t : Tm) (n : Int), (lif B t n).size ≤ 481 * t.size := by
  intro t
  induction t using Tm.ind with
  | h b k i a ih =>
  intro n
  have key : ∀ (l : List Tm) (m : Int), (∀ t ∈ l, ∀ n, (lif B t n).size ≤ 481 * t.size) → Tm.sizes (lifs B l m) ≤ 481 * Tm.sizes l := by
    intro l m
    induction l with
    | nil => intro _; simp [lifs, Tm.sizes]
    | cons t l ihl =>
      intro h
      have h1 := h t (by simp) m
      have h2 := ihl fun u hu => h u (by simp [hu])
      rw [lifs]
      simp only [Tm.sizes]
      rw [Nat.mul_add]; omega
  have h1 := key a (n + b.length) ih
  have h2 : Tm.sizes (if k = 2 then vars B (n + b.length) else []) ≤ 480 := by
    split
    · have := size_list (l := vars B (n + b.length)) (m := 60) fun u hu => by
        obtain ⟨j, hj, rfl⟩ := vars_mem hu
        exact size_Eta _ (hB _ (List.getElem_mem hj)) _ _
      rw [vars_len] at this; omega
    · simp [Tm.sizes]
  rw [lif_eq, Tm.size_eq, Tm.size_eq, Tm.sizes_append]
  rw [Nat.mul_add]; omega
end Li
end Go.Proofs.Ytdmiekaeodcehaa

namespace Go.Proofs.Ytdmiekaeodcehaa
open Go.RowKit
def TRT_27 : TI := ⟨4, true, [Value.slice none 0 0, Value.int IntKind.i64 0, Value.int IntKind.i64 0, Value.slice none 0 0], [(0, 1, false), (1, 2, true), (3, 1, false)], none, 64, 6, none, false⟩
theorem TRT_27_ok : TypOk Try.prog 27 TRT_27 := ⟨by kernel_rfl, by kernel_rfl, by kernel_rfl, by kernel_rfl, by kernel_rfl⟩
def TRT_3 : TI := ⟨1, false, [Value.int IntKind.i64 0], [], none, 8, 2, none, false⟩
theorem TRT_3_ok : TypOk Try.prog 3 TRT_3 := ⟨by kernel_rfl, by kernel_rfl, by kernel_rfl, by kernel_rfl, by kernel_rfl⟩
def TRT_43 : TI := ⟨1, false, [Value.slice none 0 0], [], some 3, 24, 5, none, false⟩
theorem TRT_43_ok : TypOk Try.prog 43 TRT_43 := ⟨by kernel_rfl, by kernel_rfl, by kernel_rfl, by kernel_rfl, by kernel_rfl⟩
def TRT_22 : TI := ⟨1, false, [Value.slice none 0 0], [], some 146, 24, 5, none, false⟩
theorem TRT_22_ok : TypOk Try.prog 22 TRT_22 := ⟨by kernel_rfl, by kernel_rfl, by kernel_rfl, by kernel_rfl, by kernel_rfl⟩
def TRT_25 : TI := ⟨1, false, [Value.slice none 0 0], [], some 27, 24, 5, none, false⟩
theorem TRT_25_ok : TypOk Try.prog 25 TRT_25 := ⟨by kernel_rfl, by kernel_rfl, by kernel_rfl, by kernel_rfl, by kernel_rfl⟩
def TRT_24 : TI := ⟨2, true, [Value.int IntKind.i64 0, Value.int IntKind.i64 0], [(0, 1, false), (1, 1, false)], none, 16, 6, none, true⟩
theorem TRT_24_ok : TypOk Try.prog 24 TRT_24 := ⟨by kernel_rfl, by kernel_rfl, by kernel_rfl, by kernel_rfl, by kernel_rfl⟩
def TRT_146 : TI := ⟨2, true, [Value.slice none 0 0, Value.int IntKind.i64 0], [(0, 1, false), (1, 1, false)], none, 32, 6, none, false⟩
theorem TRT_146_ok : TypOk Try.prog 146 TRT_146 := ⟨by kernel_rfl, by kernel_rfl, by kernel_rfl, by kernel_rfl, by kernel_rfl⟩
def TRT : List (Nat × TI) := [(27, TRT_27), (3, TRT_3), (43, TRT_43), (22, TRT_22), (25, TRT_25), (24, TRT_24), (146, TRT_146)]
theorem TRT_ok : TabOk Try.prog TRT := ((((((((TabOk.nil _).cons TRT_146_ok).cons TRT_24_ok).cons TRT_25_ok).cons TRT_22_ok).cons TRT_43_ok).cons TRT_3_ok).cons TRT_27_ok)

theorem loosess_app (n : Int) : ∀ (l r : List Tm), Tm.loosess (l ++ r) n = Tm.loosess l n ++ Tm.loosess r n
  | [], r => by simp [Tm.loosess]
  | t :: l, r => by rw [List.cons_append, Tm.loosess, Tm.loosess, loosess_app n l r, List.append_assoc]
theorem loosess_take (n : Int) (a : List Tm) (j : Nat) (h : j < a.length) : Tm.loosess (a.take (j + 1)) n = Tm.loosess (a.take j) n ++ a[j].looses n := by
  rw [List.take_add_one, List.getElem?_eq_getElem h, loosess_app, Option.toList_some, Tm.loosess, Tm.loosess, List.append_nil]
theorem looses_len (t : Tm) : ∀ n : Int, (t.looses n).length ≤ t.full := by
  induction t using Tm.ind with
  | h b k i a ih =>
    intro n
    rw [Tm.looses_eq _ _ _ _ _ _ rfl, Tm.full_eq, List.length_append]
    have key : ∀ (l : List Tm), (∀ t ∈ l, t ∈ a) → ∀ n, (Tm.loosess l n).length ≤ Tm.fulls l := by
      intro l
      induction l with
      | nil => intro _ n; simp [Tm.loosess]
      | cons t l ihl =>
        intro hl n
        rw [Tm.loosess, List.length_append, Tm.fulls]
        have := ih t (hl t (by simp)) n
        have := ihl (fun u hu => hl u (by simp [hu])) n
        omega
    have := key a (fun _ h => h) (n + (b.length : Int))
    split <;> simp <;> omega
set_option maxHeartbeats 2000000 in
theorem rlooses_d : ∀ (t : Tm) (n : Int), 0 ≤ n → n + t.full ≤ 1000000 → t.Fit → PureC Try.prog 137 [.ag (eTm t), .v (.int .i64 n)] (.sl 1 (eIs (t.looses n)) none) := by
 intro t
 induction t using Tm.ind with
 | h b k i a ih =>
 intro n h0 hz hf
 obtain ⟨f1, f2, f3⟩ := Tm.fit_iff.1 hf
 rw [Tm.full_eq] at hz
 have hal := fulls_len a
 have hbl := Ty.le_sizes b
 obtain ⟨m, hm⟩ : ∃ m : Int, n + (b.length : Int) = m := ⟨_, rfl⟩
 rw [Tm.looses_eq _ _ _ _ _ _ hm, eTm_eq]
 simp only [binds_mk', kind_mk', index_mk', args_mkT]
 obtain ⟨hd, hhd⟩ : ∃ hd, (if k = 0 ∧ m ≤ i then [i - m] else []) = hd := ⟨_, rfl⟩
 have hdl : hd.length ≤ 1 := by rw [← hhd]; split <;> simp
 rw [hhd]
 refine calldw 0 49 [ResultVar.tmp 4] TRT_ok Try.func137 rfl Try.ntmps137 rfl fun cx hnt hn0 => ?_
 ·skip
  refine dw_seq ?_; refine dwk [] TRT_ok hnt fun K hK => ?_; refine hK _ _ ?_; clear hK K; refine dw_seq ?_; refine dwk [] TRT_ok hnt fun K hK => ?_; refine hK _ _ ?_; clear hK K
  refine DW.vs (VS.rowT (x := 5) (by rw [hnt]; decide) 3 1 rfl) ?_
  refine dw_seq ?_; refine dwk [(11, .v (.int .i64 (↑b.length))), (12, .v (.int .i64 (m)))] TRT_ok hnt fun K hK => ?_; refine And.intro (dintE (by rw [eTys_len])) ?_; refine And.intro auI ?_; refine hK _ _ ?_; clear hK K
  refine dw_cut (τ := [(.t 2, .p 0 0), (.t 5, .sl 1 (eIs hd) (some 3)), (.r 3, .rw 3 1 hd.length), (.t 6, .v (.int .i64 m)), (.c 0 3, .sl 4 (eTms a) none)]) (N1 := 4) ?_ ?_
  ·by_cases hk : k = 0
   ·by_cases hi : m ≤ i
    ·rw [if_pos ⟨hk, hi⟩] at hhd
     subst hhd
     refine dw_seq ?_; refine dwk [(16, .v (.bool true)), (22, .v (.bool true))] TRT_ok hnt fun K hK => ?_; refine And.intro (beqT hk) ?_; refine And.intro auT ?_; refine hK _ _ ?_; clear hK K; refine dw_cond (t := true) rfl ?_; rw [if_pos rfl]; refine dwk [(29, .v (.int .i64 (i - m)))] TRT_ok hnt fun K hK => ?_; refine And.intro auI ?_; refine And.intro (⟨rfl, by simp⟩) ?_; refine hK _ _ ?_; clear hK K
     exact cut_ok (VS.toK (by omega) (by repeat first | exact trivial | refine And.intro (And.intro (by first | rfl | simp [D.ok, D.oks, D.okss, D.okm, upto, keyOk, eIs]) (by first | exact Or.inl rfl | exact Or.inr ⟨_, rfl, (by repeat first | exact VLe.refl _ | exact VLe.nil _ | exact VLe.untag _ _ _ | refine VLe.ag ?_ | refine VLe.tu ?_ | refine VLeL.cons ?_ ?_ | exact VLeL.nil), trivial⟩ | simp [get, Key.eq, eIs])) ?_))
    ·rw [if_neg (fun h => hi h.2)] at hhd
     subst hhd
     refine dw_seq ?_; refine dwk [(16, .v (.bool true)), (22, .v (.bool false))] TRT_ok hnt fun K hK => ?_; refine And.intro (beqT hk) ?_; refine And.intro auF ?_; refine hK _ _ ?_; clear hK K; refine dw_cond (t := false) rfl ?_; rw [if_neg (by simp)]; refine dw_skip ?_
     exact cut_ok (VS.toK (by omega) (by repeat first | exact trivial | refine And.intro (And.intro (by first | rfl | simp [D.ok, D.oks, D.okss, D.okm, upto, keyOk, eIs]) (by first | exact Or.inl rfl | exact Or.inr ⟨_, rfl, (by repeat first | exact VLe.refl _ | exact VLe.nil _ | exact VLe.untag _ _ _ | refine VLe.ag ?_ | refine VLe.tu ?_ | refine VLeL.cons ?_ ?_ | exact VLeL.nil), trivial⟩ | simp [get, Key.eq, eIs])) ?_))
   ·rw [if_neg (fun h => hk h.1)] at hhd
    subst hhd
    refine dw_seq ?_; refine dwk [(16, .v (.bool false))] TRT_ok hnt fun K hK => ?_; refine And.intro (beqF hk) ?_; refine hK _ _ ?_; clear hK K; refine dw_cond (t := false) rfl ?_; rw [if_neg (by simp)]; refine dw_skip ?_
    exact cut_ok (VS.toK (by omega) (by repeat first | exact trivial | refine And.intro (And.intro (by first | rfl | simp [D.ok, D.oks, D.okss, D.okm, upto, keyOk, eIs]) (by first | exact Or.inl rfl | exact Or.inr ⟨_, rfl, (by repeat first | exact VLe.refl _ | exact VLe.nil _ | exact VLe.untag _ _ _ | refine VLe.ag ?_ | refine VLe.tu ?_ | refine VLeL.cons ?_ ?_ | exact VLeL.nil), trivial⟩ | simp [get, Key.eq, eIs])) ?_))
  ·skip
   refine dw_seq ?_; refine dw_seq ?_; refine dwk [] TRT_ok hnt fun K hK => ?_; refine hK _ _ ?_; clear hK K; refine dw_block ?_
   refine dw_loop (ι := { j : Nat // j ≤ a.length }) (fun j => [(.t 2, .p 0 0), (.t 5, .sl 1 (eIs (hd ++ Tm.loosess (a.take j.1) m)) (some 3)), (.r 3, .rw 3 1 (hd ++ Tm.loosess (a.take j.1) m).length), (.t 6, .v (.int .i64 m)), (.t 7, .v (.int .i64 ↑j.1)), (.c 0 3, .sl 4 (eTms a) none)]) 4 (fun j => a.length - j.1) (⟨0, Nat.zero_le _⟩) ((by simp only [List.take_zero, Tm.loosess, List.append_nil]; exact VS.toA)) fun j => ?_
   obtain ⟨j, hj⟩ := j
   dsimp only
   by_cases hlt : j < a.length
   ·have hmem := List.getElem_mem hlt
    have hfm := full_mem hmem
    have hih := ih a[j] hmem m (by omega) (by omega) (f3 _ hmem)
    have hst := loosess_take m a j hlt
    have hl1 := looses_len a[j] m
    have hl2 : (Tm.loosess (a.take j) m).length ≤ Tm.fulls (a.take j) := by
     have key : ∀ l : List Tm, (Tm.loosess l m).length ≤ Tm.fulls l := by
      intro l
      induction l with
      | nil => simp [Tm.loosess]
      | cons t l ihl => rw [Tm.loosess, List.length_append, Tm.fulls]; have := looses_len t m; omega
     exact key _
    have hl3 := Tm.fulls_take_le a (j + 1)
    have hl5 := Tm.fulls_take a j hlt
    rw [eTm_eq] at hih
    refine dw_seq ?_; refine dw_seq ?_; refine dwk [(35, .v (.int .i64 (↑a.length))), (36, .v (.bool true))] TRT_ok hnt fun K hK => ?_; refine And.intro (dintE (by rw [eTms_len])) ?_; refine And.intro auT ?_; refine hK _ _ ?_; clear hK K; refine dw_cond (t := true) rfl ?_; rw [if_pos rfl]; refine dw_skip ?_; refine dw_seq ?_; refine dw_block ?_; refine dwk [(43, .q [.sl 2 (eTys a[j].binds) none, .v (.int .i64 a[j].kind), .v (.int .i64 a[j].index), .sl 4 (eTms a[j].args) none]), (47, .sl 1 (eIs (hd ++ Tm.loosess (a.take (j + 1)) m)) (some 3))] TRT_ok hnt fun K hK => ?_
    refine And.intro (elo (eTms_len a)) ?_; refine And.intro (elv (eTms_getD a j) (eTm_eq _)) ?_; refine dcl (hih) ?_; refine And.intro (⟨by rw [eIs_len], by rw [eIs_len, eIs_len, List.length_append]; omega⟩) ?_; refine And.intro (VLe.of_eq (by rw [hst, ← List.append_assoc, eIs_append (hd ++ _)])) ?_; refine hK _ _ ?_; clear hK K; refine dwk [(38, .v (.int .i64 (↑(j + 1))))] TRT_ok hnt fun K hK => ?_; refine And.intro auI ?_
    refine hK _ _ ?_; clear hK K
    have hl4 : (eIs (hd ++ Tm.loosess (a.take j) m) ++ eIs (a[j].looses m)).length = (hd ++ Tm.loosess (a.take (j + 1)) m).length := by rw [← eIs_append, eIs_len, hst, List.append_assoc]
    refine ⟨⟨j + 1, by omega⟩, by first | omega | (dsimp only; omega), (by try simp only [List.length_append, List.length_take, List.length_cons, List.length_nil, Nat.zero_add, hl4]; exact VS.toA)⟩
   ·rw [List.take_of_length_le (by omega)]
    refine dw_seq ?_; refine dw_seq ?_; refine dwk [(35, .v (.int .i64 (↑a.length))), (36, .v (.bool false))] TRT_ok hnt fun K hK => ?_; refine And.intro (dintE (by rw [eTms_len])) ?_; refine And.intro auF ?_; refine hK _ _ ?_; clear hK K; refine dw_cond (t := false) rfl ?_; rw [if_neg (by simp)]; refine dw_exit ?_; refine dw_seq ?_; refine dwk [] TRT_ok hnt fun K hK => ?_; refine hK _ _ ?_; clear hK K
    refine dw_ret ?_
    exact reta rfl
theorem rLooses_d (t : Tm) (hz : t.full ≤ 1000000) (hf : t.Fit) : PureC Try.prog 91 [.ag (eTm t)] (.sl 1 (eIs (t.looses 0)) none) := by
 have h := rlooses_d t 0 (by omega) (by omega) hf
 rw [eTm_eq] at h ⊢
 refine calldw 0 5 [ResultVar.tmp 2] TRT_ok Try.func91 rfl Try.ntmps91 rfl fun cx hnt hn0 => ?_
 ·skip
  refine dw_seq ?_; refine dwk [] TRT_ok hnt fun K hK => ?_; refine hK _ _ ?_; clear hK K; refine dw_seq ?_; refine dwk [] TRT_ok hnt fun K hK => ?_; refine dcl (h) ?_; refine hK _ _ ?_; clear hK K; refine dw_ret ?_
  exact reta rfl
namespace Pn
end Pn
end Go.Proofs.Ytdmiekaeodcehaa

namespace Go.Proofs.Ytdmiekaeodcehaa
open Go.RowKit

theorem ints_cells {F : Nat → Prop} {w : World} {a : Option Addr} {n c : Nat} {l : List Int} (h : IsSl rpInt F w (.slice a n c) l) : n = l.length ∧ (l.length ≤ maxLen ∧ l.length ≤ c) ∧ ∃ (bl off : Nat),
    (0 < l.length → a = some ⟨bl, off, none⟩ ∧ F bl) ∧ ∀ j (hj : j < l.length), w.cell? ⟨bl, off + j, none⟩ = some (.int .i64 l[j]) := by
  obtain ⟨a', c', bl, off, Y, hv, hm, ha, h1, h2⟩ := h
  cases hv
  refine ⟨rfl, hm, bl, off, ha, fun j hj => ?_⟩
  have hy : Y j = [.int .i64 l[j]] := h2 j hj
  have := h1 j 0 _ hj (by rw [hy]; rfl)
  simpa [rpInt] using this

end Go.Proofs.Ytdmiekaeodcehaa

