/-
  The document's Metas, walked in the deep way. Which of two types is less: by size, by how many arguments, argument by argument, by base; and what that order promises. Which of two terms is less: the plain law. sign, cmp.Compare and cmp.Or of ints. The document's order of types. The document's order of terms. The type of a head: the program's and the document's. The type of a head: the document's. Whether a term is of a type: the plain law. A context with more binders: the program's and the document's. term.is: whether a term is of a type. The document's Is: whether a term is of a type. The document's Depth, Right, Check; term.Check. The document's answer of layer 22: lifted, Over, Closed. What the members of a gathering yield: a list of standard shapes. term.HeadType, term.TypeOf. The document's TypeOf. Whether a world may be: the program's RightWorld and the document's. The laws' worlds: World, Small; the document's RightWorld. The contracts of heads and types once more, where all of memory may be read. Checks of substitutions: what is called, as deep contracts. term's TypeOf and Check, walked in the deep way. What rule.Typed and the document's Typed call, as deep contracts. Typed and Check: rule's and the document's.
-/
import Derived.Test.YtdmiekaeodcehaaGreatRowRuleChecksp7
import Derived.Test.YtdmiekaeodcehaaGreatRowRuleChecksp1
import Derived.Deep.QuietTactic
import Derived.BigQuiet
import Derived.WalkSmall
import Derived.Test.YtdmiekaeodcehaaGreatRowRuleChecksp5
import Derived.Test.YtdmiekaeodcehaaGreatRowRuleChecksp4
import Derived.Test.YtdmiekaeodcehaaGreatRowRuleChecksp6
set_option maxRecDepth 100000
set_option maxHeartbeats 1000000
set_option linter.unusedVariables false
set_option linter.unusedSimpArgs false
namespace Go.Proofs.YtdmiekaeodcehaaGreat
open Go.RowKit
def TRX_3 : TI := ⟨1, false, [Value.int IntKind.i64 0], [], none, 8, 2, none, false⟩
theorem TRX_3_ok : TypOk Tryz.prog 3 TRX_3 := ⟨by kernel_rfl, by kernel_rfl, by kernel_rfl, by kernel_rfl, by kernel_rfl⟩
def TRX_27 : TI := ⟨4, true, [Value.slice none 0 0, Value.int IntKind.i64 0, Value.int IntKind.i64 0, Value.slice none 0 0], [(0, 1, false), (1, 2, true), (3, 1, false)], none, 64, 6, none, false⟩
theorem TRX_27_ok : TypOk Tryz.prog 27 TRX_27 := ⟨by kernel_rfl, by kernel_rfl, by kernel_rfl, by kernel_rfl, by kernel_rfl⟩
def TRX_82 : TI := ⟨1, false, [Value.slice none 0 0], [], some 3, 24, 5, none, false⟩
theorem TRX_82_ok : TypOk Tryz.prog 82 TRX_82 := ⟨by kernel_rfl, by kernel_rfl, by kernel_rfl, by kernel_rfl, by kernel_rfl⟩
def TRX_167 : TI := ⟨1, false, [Value.slice none 0 0], [], some 24, 24, 5, none, false⟩
theorem TRX_167_ok : TypOk Tryz.prog 167 TRX_167 := ⟨by kernel_rfl, by kernel_rfl, by kernel_rfl, by kernel_rfl, by kernel_rfl⟩
def TRX_24 : TI := ⟨2, true, [Value.int IntKind.i64 0, Value.int IntKind.i64 0], [(0, 1, false), (1, 1, false)], none, 16, 6, none, true⟩
theorem TRX_24_ok : TypOk Tryz.prog 24 TRX_24 := ⟨by kernel_rfl, by kernel_rfl, by kernel_rfl, by kernel_rfl, by kernel_rfl⟩
def TRX_25 : TI := ⟨1, false, [Value.slice none 0 0], [], some 27, 24, 5, none, false⟩
theorem TRX_25_ok : TypOk Tryz.prog 25 TRX_25 := ⟨by kernel_rfl, by kernel_rfl, by kernel_rfl, by kernel_rfl, by kernel_rfl⟩
def TRX_22 : TI := ⟨1, false, [Value.slice none 0 0], [], some 91, 24, 5, none, false⟩
theorem TRX_22_ok : TypOk Tryz.prog 22 TRX_22 := ⟨by kernel_rfl, by kernel_rfl, by kernel_rfl, by kernel_rfl, by kernel_rfl⟩
def TRX_91 : TI := ⟨2, true, [Value.slice none 0 0, Value.int IntKind.i64 0], [(0, 1, false), (1, 1, false)], none, 32, 6, none, false⟩
theorem TRX_91_ok : TypOk Tryz.prog 91 TRX_91 := ⟨by kernel_rfl, by kernel_rfl, by kernel_rfl, by kernel_rfl, by kernel_rfl⟩
def TRX : List (Nat × TI) := [(3, TRX_3), (27, TRX_27), (82, TRX_82), (167, TRX_167), (24, TRX_24), (25, TRX_25), (22, TRX_22), (91, TRX_91)]
theorem TRX_ok : TabOk Tryz.prog TRX := (((((((((TabOk.nil _).cons TRX_91_ok).cons TRX_22_ok).cons TRX_25_ok).cons TRX_24_ok).cons TRX_167_ok).cons TRX_82_ok).cons TRX_27_ok).cons TRX_3_ok)
def eHs (l : List (Int × Int)) : List (List D) := l.map fun h => [.v (.int .i64 h.1), .v (.int .i64 h.2)]
theorem eHs_len (l : List (Int × Int)) : (eHs l).length = l.length := List.length_map ..
theorem eHs_append (l r : List (Int × Int)) : eHs (l ++ r) = eHs l ++ eHs r := List.map_append ..
theorem eHs_getD (l : List (Int × Int)) (i : Nat) (h : i < l.length) : (eHs l).getD i [] = [.v (.int .i64 l[i].1), .v (.int .i64 l[i].2)] := by
  rw [eHs, List.getD_eq_getElem?_getD, List.getElem?_map, List.getElem?_eq_getElem h]; rfl
@[simp] theorem eHs_ok (f g : Nat → Bool) (l : List (Int × Int)) : D.okss f g (eHs l) = true := D.okss_map _ l fun _ _ => rfl
set_option maxHeartbeats 2000000 in
theorem rheads_d : ∀ (t : Tm) (n : Int), 0 ≤ n → n + t.full ≤ 1000000 → t.Fit → PureC Tryz.prog 132 [.ag (eTm t), .v (.int .i64 n)] (.sl 2 (eHs (t.heads n)) none) := by
 intro t
 induction t using Tm.ind with
 | h b k i a ih =>
 intro n h0 hz hf
 obtain ⟨f1, f2, f3⟩ := Tm.fit_iff.1 hf
 rw [Tm.full_eq] at hz
 have hal := fulls_len a
 have hbl := Ty.le_sizes b
 obtain ⟨m, hm⟩ : ∃ m : Int, n + (b.length : Int) = m := ⟨_, rfl⟩
 rw [Tm.heads_eq _ _ _ _ _ _ hm, eTm_eq]
 simp only [binds_mk', kind_mk', index_mk', args_mkT]
 obtain ⟨hd, hhd⟩ : ∃ hd, (if k ≠ 0 then [(k, i)] else if m ≤ i then [(0, i - m)] else []) = hd := ⟨_, rfl⟩
 have hdl : hd.length ≤ 1 := by rw [← hhd]; split <;> (try split) <;> simp
 rw [hhd]
 refine calldw 0 55 [ResultVar.tmp 4] TRX_ok Tryz.func132 rfl Tryz.ntmps132 rfl fun cx hnt hn0 => ?_
 ·skip
  refine dw_seq ?_; refine dwk [] TRX_ok hnt fun K hK => ?_; refine hK _ _ ?_; clear hK K; refine dw_seq ?_; refine dwk [] TRX_ok hnt fun K hK => ?_; refine hK _ _ ?_; clear hK K
  refine DW.vs (VS.rowT (x := 5) (by rw [hnt]; decide) 24 2 rfl) ?_
  refine dw_seq ?_; refine dwk [(11, .v (.int .i64 (↑b.length))), (12, .v (.int .i64 (m)))] TRX_ok hnt fun K hK => ?_; refine And.intro (dintE (by rw [eTys_len])) ?_; refine And.intro auI ?_; refine hK _ _ ?_; clear hK K
  refine dw_cut (τ := [(.t 2, .p 0 0), (.t 5, .sl 2 (eHs hd) (some 3)), (.r 3, .rw 24 2 hd.length), (.t 6, .v (.int .i64 m)), (.c 0 3, .sl 4 (eTms a) none)]) (N1 := 4) ?_ ?_
  ·by_cases hk : k = 0
   ·by_cases hi : m ≤ i
    ·rw [if_neg (by simp [hk]), if_pos hi] at hhd
     subst hhd
     refine dw_block ?_; refine dw_seq ?_; refine dwk [(17, .v (.bool false))] TRX_ok hnt fun K hK => ?_; refine And.intro (bneF hk) ?_; refine hK _ _ ?_; clear hK K; refine dw_cond (t := false) rfl ?_; rw [if_neg (by simp)]; refine dw_seq ?_; refine dwk [(28, .v (.bool true))] TRX_ok hnt fun K hK => ?_; refine And.intro auT ?_; refine hK _ _ ?_; clear hK K; refine dw_cond (t := true) rfl ?_; rw [if_pos rfl]
     refine dwk [(34, .v (.int .i64 (i - m)))] TRX_ok hnt fun K hK => ?_; refine And.intro auI ?_; refine And.intro (⟨rfl, by simp⟩) ?_; refine hK _ _ ?_; clear hK K
     exact cut_ok (VS.toK (by omega) (by repeat first | exact trivial | refine And.intro (And.intro (by first | rfl | simp [D.ok, D.oks, D.okss, D.okm, upto, keyOk, eHs]) (by first | exact Or.inl rfl | exact Or.inr ⟨_, rfl, (by repeat first | exact VLe.refl _ | exact VLe.nil _ | exact VLe.untag _ _ _ | refine VLe.ag ?_ | refine VLe.tu ?_ | refine VLeL.cons ?_ ?_ | exact VLeL.nil), trivial⟩ | simp [get, Key.eq, eHs])) ?_))
    ·rw [if_neg (by simp [hk]), if_neg hi] at hhd
     subst hhd
     refine dw_block ?_; refine dw_seq ?_; refine dwk [(17, .v (.bool false))] TRX_ok hnt fun K hK => ?_; refine And.intro (bneF hk) ?_; refine hK _ _ ?_; clear hK K; refine dw_cond (t := false) rfl ?_; rw [if_neg (by simp)]; refine dw_seq ?_; refine dwk [(28, .v (.bool false))] TRX_ok hnt fun K hK => ?_; refine And.intro auF ?_; refine hK _ _ ?_; clear hK K; refine dw_cond (t := false) rfl ?_; rw [if_neg (by simp)]
     refine dw_skip ?_
     exact cut_ok (VS.toK (by omega) (by repeat first | exact trivial | refine And.intro (And.intro (by first | rfl | simp [D.ok, D.oks, D.okss, D.okm, upto, keyOk, eHs]) (by first | exact Or.inl rfl | exact Or.inr ⟨_, rfl, (by repeat first | exact VLe.refl _ | exact VLe.nil _ | exact VLe.untag _ _ _ | refine VLe.ag ?_ | refine VLe.tu ?_ | refine VLeL.cons ?_ ?_ | exact VLeL.nil), trivial⟩ | simp [get, Key.eq, eHs])) ?_))
   ·rw [if_pos hk] at hhd
    subst hhd
    refine dw_block ?_; refine dw_seq ?_; refine dwk [(17, .v (.bool true))] TRX_ok hnt fun K hK => ?_; refine And.intro (bneT hk) ?_; refine hK _ _ ?_; clear hK K; refine dw_cond (t := true) rfl ?_; rw [if_pos rfl]; refine dwk [] TRX_ok hnt fun K hK => ?_; refine And.intro (⟨rfl, by simp⟩) ?_; refine hK _ _ ?_; clear hK K
    exact cut_ok (VS.toK (by omega) (by repeat first | exact trivial | refine And.intro (And.intro (by first | rfl | simp [D.ok, D.oks, D.okss, D.okm, upto, keyOk, eHs]) (by first | exact Or.inl rfl | exact Or.inr ⟨_, rfl, (by repeat first | exact VLe.refl _ | exact VLe.nil _ | exact VLe.untag _ _ _ | refine VLe.ag ?_ | refine VLe.tu ?_ | refine VLeL.cons ?_ ?_ | exact VLeL.nil), trivial⟩ | simp [get, Key.eq, eHs])) ?_))
  ·skip
   refine dw_seq ?_; refine dw_seq ?_; refine dwk [] TRX_ok hnt fun K hK => ?_; refine hK _ _ ?_; clear hK K; refine dw_block ?_
   refine dw_loop (ι := { j : Nat // j ≤ a.length }) (fun j => [(.t 2, .p 0 0), (.t 5, .sl 2 (eHs (hd ++ Tm.headss (a.take j.1) m)) (some 3)), (.r 3, .rw 24 2 (hd ++ Tm.headss (a.take j.1) m).length), (.t 6, .v (.int .i64 m)), (.t 7, .v (.int .i64 ↑j.1)), (.c 0 3, .sl 4 (eTms a) none)]) 4 (fun j => a.length - j.1) (⟨0, Nat.zero_le _⟩) ((by simp only [List.take_zero, Tm.headss, List.append_nil]; exact VS.toA)) fun j => ?_
   obtain ⟨j, hj⟩ := j
   dsimp only
   by_cases hlt : j < a.length
   ·have hmem := List.getElem_mem hlt
    have hfm := full_mem hmem
    have hih := ih a[j] hmem m (by omega) (by omega) (f3 _ hmem)
    have hst := Tm.headss_take a m j hlt
    have hl1 := Tm.heads_len a[j] m
    have hl2 := Tm.headss_len (a.take j) m
    have hl3 := Tm.fulls_take_le a (j + 1)
    have hl5 := Tm.fulls_take a j hlt
    rw [eTm_eq] at hih
    refine dw_seq ?_; refine dw_seq ?_; refine dwk [(41, .v (.int .i64 (↑a.length))), (42, .v (.bool true))] TRX_ok hnt fun K hK => ?_; refine And.intro (dintE (by rw [eTms_len])) ?_; refine And.intro auT ?_; refine hK _ _ ?_; clear hK K; refine dw_cond (t := true) rfl ?_; rw [if_pos rfl]; refine dw_skip ?_; refine dw_seq ?_; refine dw_block ?_; refine dwk [(49, .q [.sl 2 (eTys a[j].binds) none, .v (.int .i64 a[j].kind), .v (.int .i64 a[j].index), .sl 4 (eTms a[j].args) none]), (53, .sl 2 (eHs (hd ++ Tm.headss (a.take (j + 1)) m)) (some 3))] TRX_ok hnt fun K hK => ?_
    refine And.intro (elo (eTms_len a)) ?_; refine And.intro (elv (eTms_getD a j) (eTm_eq _)) ?_; refine dcl (hih) ?_; refine And.intro (⟨by rw [eHs_len], by rw [eHs_len, eHs_len, List.length_append]; omega⟩) ?_; refine And.intro (VLe.of_eq (by rw [hst, ← List.append_assoc, eHs_append (hd ++ _)])) ?_; refine hK _ _ ?_; clear hK K; refine dwk [(44, .v (.int .i64 (↑(j + 1))))] TRX_ok hnt fun K hK => ?_; refine And.intro auI ?_
    refine hK _ _ ?_; clear hK K
    have hl4 : (eHs (hd ++ Tm.headss (a.take j) m) ++ eHs (a[j].heads m)).length = (hd ++ Tm.headss (a.take (j + 1)) m).length := by rw [← eHs_append, eHs_len, hst, List.append_assoc]
    refine ⟨⟨j + 1, by omega⟩, by first | omega | (dsimp only; omega), (by try simp only [List.length_append, List.length_take, List.length_cons, List.length_nil, Nat.zero_add, hl4]; exact VS.toA)⟩
   ·rw [List.take_of_length_le (by omega)]
    refine dw_seq ?_; refine dw_seq ?_; refine dwk [(41, .v (.int .i64 (↑a.length))), (42, .v (.bool false))] TRX_ok hnt fun K hK => ?_; refine And.intro (dintE (by rw [eTms_len])) ?_; refine And.intro auF ?_; refine hK _ _ ?_; clear hK K; refine dw_cond (t := false) rfl ?_; rw [if_neg (by simp)]; refine dw_exit ?_; refine dw_seq ?_; refine dwk [] TRX_ok hnt fun K hK => ?_; refine hK _ _ ?_; clear hK K
    refine dw_ret ?_
    exact reta rfl
theorem rHeads_d (t : Tm) (hz : t.full ≤ 1000000) (hf : t.Fit) : PureC Tryz.prog 113 [.ag (eTm t)] (.sl 2 (eHs (t.heads 0)) none) := by
 have h := rheads_d t 0 (by omega) (by omega) hf
 rw [eTm_eq] at h ⊢
 refine calldw 0 5 [ResultVar.tmp 2] TRX_ok Tryz.func113 rfl Tryz.ntmps113 rfl fun cx hnt hn0 => ?_
 ·skip
  refine dw_seq ?_; refine dwk [] TRX_ok hnt fun K hK => ?_; refine hK _ _ ?_; clear hK K; refine dw_seq ?_; refine dwk [] TRX_ok hnt fun K hK => ?_; refine dcl (h) ?_; refine hK _ _ ?_; clear hK K; refine dw_ret ?_
  exact reta rfl
theorem eIs_take (o : List Int) (a : Nat) : (eIs o).take a = eIs (o.take a) := by unfold eIs; rw [List.map_take]
theorem eIs_drop (o : List Int) (a : Nat) : ((eIs o).take (eIs o).length).drop a = eIs (o.drop a) := by rw [List.take_length]; unfold eIs; rw [List.map_drop]
theorem metasH_len (l : List (Int × Int)) : (metasH l).length ≤ l.length := List.length_filterMap_le _ _
set_option maxHeartbeats 4000000 in
theorem rMetas_d (l : List Tm) (hl : l.length ≤ 9) (hz : ∀ t ∈ l, t.full ≤ 90000) (hf : ∀ t ∈ l, t.Fit) : PureC Tryz.prog 71 [.sl 4 (eTms l) none] (.sl 1 (eIs (sortU (metasT l))) none) := by
 have hml := metasT_len l 90000 hz
 refine calldw 0 85 [ResultVar.tmp 2] TRX_ok Tryz.func71 rfl Tryz.ntmps71 rfl fun cx hnt hn0 => ?_
 ·skip
  refine dw_seq ?_; refine dwk [] TRX_ok hnt fun K hK => ?_; refine hK _ _ ?_; clear hK K; refine dw_seq ?_; refine dwk [(3, .sl 1 (eIs []) none)] TRX_ok hnt fun K hK => ?_; refine And.intro (VLe.nil _) ?_; refine hK _ _ ?_; clear hK K; refine dw_seq ?_; refine dw_seq ?_; refine dwk [] TRX_ok hnt fun K hK => ?_; refine hK _ _ ?_; clear hK K; refine dw_block ?_
  refine dw_loop (ι := { q : Nat × List Int // q.1 ≤ l.length ∧ Rises q.2 (metasT (l.take q.1)) }) (fun q => [(.t 0, .sl 4 (eTms l) none), (.t 3, .sl 1 (eIs q.1.2) none), (.t 4, .v (.int .i64 ↑q.1.1))]) 3 (fun q => l.length - q.1.1) (⟨(0, []), Nat.zero_le _, by simpa [metasT] using rises_nil⟩) (VS.toA) fun q => ?_
  obtain ⟨⟨i, o⟩, hi, hr⟩ := q
  dsimp only at hi hr ⊢
  by_cases hlt : i < l.length
  ·have hmem := List.getElem_mem hlt
   have hH := rHeads_d l[i] (by have := hz _ hmem; omega) (hf _ hmem)
   have hhl := Tm.heads_len l[i] 0
   have hzi := hz _ hmem
   have hmt := metasT_take l i hlt
   have hS0 := metasT_len (l.take i) 90000 fun t ht => hz t (List.mem_of_mem_take ht)
   rw [List.length_take] at hS0
   obtain ⟨hs, hhs⟩ : ∃ hs, l[i].heads 0 = hs := ⟨_, rfl⟩
   obtain ⟨S, hS⟩ : ∃ S, metasT (l.take i) = S := ⟨_, rfl⟩
   rw [hhs] at hH hhl hmt
   rw [hS] at hr hmt hS0
   have hS1 : S.length ≤ 810000 := by
    have : min i l.length * 90000 ≤ 9 * 90000 := Nat.mul_le_mul_right _ (by omega)
    omega
   rw [eTm_eq] at hH
   refine dw_seq ?_; refine dw_seq ?_; refine dwk [(11, .v (.int .i64 (↑l.length))), (12, .v (.bool true))] TRX_ok hnt fun K hK => ?_; refine And.intro (dintE (by rw [eTms_len])) ?_; refine And.intro auT ?_; refine hK _ _ ?_; clear hK K; refine dw_cond (t := true) rfl ?_; rw [if_pos rfl]; refine dw_skip ?_; refine dw_seq ?_; refine dw_block ?_; refine dw_seq ?_; refine dwk [(17, .q [.sl 2 (eTys l[i].binds) none, .v (.int .i64 l[i].kind), .v (.int .i64 l[i].index), .sl 4 (eTms l[i].args) none])] TRX_ok hnt fun K hK => ?_
   refine And.intro (elo (eTms_len l)) ?_; refine And.intro (elv (eTms_getD l i) (eTm_eq _)) ?_; refine dcl (hH) ?_; refine hK _ _ ?_; clear hK K; refine dw_seq ?_; refine dwk [] TRX_ok hnt fun K hK => ?_; refine hK _ _ ?_; clear hK K; refine dw_block ?_
   refine dw_loop (ι := { q : Nat × List Int // q.1 ≤ hs.length ∧ Rises q.2 (S ++ metasH (hs.take q.1)) }) (fun q => [(.t 0, .sl 4 (eTms l) none), (.t 3, .sl 1 (eIs q.1.2) none), (.t 4, .v (.int .i64 ↑i)), (.t 5, .sl 2 (eHs hs) none), (.t 6, .v (.int .i64 ↑q.1.1))]) 4 (fun q => hs.length - q.1.1) (⟨(0, o), Nat.zero_le _, by simpa [metasH] using hr⟩) (VS.toA) fun r => ?_
   obtain ⟨⟨k, o⟩, hk, hr⟩ := r
   dsimp only at hk hr ⊢
   by_cases hlk : k < hs.length
   ·have hgk := eHs_getD hs k hlk
    have hmk := metasH_take hs k hlk
    have hol := hr.2.2
    have hMl := metasH_len (hs.take k)
    rw [List.length_append] at hol
    rw [List.length_take] at hMl
    obtain ⟨⟨hk1, x⟩, hx⟩ : ∃ h, hs[k] = h := ⟨_, rfl⟩
    rw [hx] at hgk hmk
    dsimp only at hgk hmk
    by_cases h2 : hk1 = 2
    ·rw [if_pos h2] at hmk; refine dw_seq ?_; refine dw_seq ?_; refine dwk [(22, .v (.int .i64 (↑hs.length))), (23, .v (.bool true))] TRX_ok hnt fun K hK => ?_; refine And.intro (dintE (by rw [eHs_len])) ?_; refine And.intro auT ?_; refine hK _ _ ?_; clear hK K; refine dw_cond (t := true) rfl ?_; rw [if_pos rfl]; refine dw_skip ?_; refine dw_seq ?_; refine dw_block ?_; refine dw_seq ?_; refine dw_seq ?_
     refine dwk [(28, .q [.v (.int .i64 hk1), .v (.int .i64 x)]), (31, .v (.bool false))] TRX_ok hnt fun K hK => ?_; refine And.intro (⟨by omega, by rw [eHs_len]; omega⟩) ?_; refine And.intro (VLe.of_eq (by rw [Int.toNat_natCast, hgk])) ?_; refine And.intro (bneF h2) ?_; refine hK _ _ ?_; clear hK K; refine dw_cond (t := false) rfl ?_; rw [if_neg (by simp)]; refine dw_skip ?_; refine dw_seq ?_; refine dwk [] TRX_ok hnt fun K hK => ?_
     refine hK _ _ ?_; clear hK K; refine dw_seq ?_; refine dw_block ?_
     refine dw_loop (ι := { a : Nat // a ≤ o.length ∧ ∀ q (h : q < o.length), q < a → o[q] < x }) (fun a => [(.t 0, .sl 4 (eTms l) none), (.t 3, .sl 1 (eIs o) none), (.t 4, .v (.int .i64 ↑i)), (.t 5, .sl 2 (eHs hs) none), (.t 6, .v (.int .i64 ↑k)), (.t 7, .v (.int .i64 ↑a.1))]) 5 (fun a => o.length - a.1) (⟨0, Nat.zero_le _, fun q h1 h2 => by omega⟩) (VS.toA) fun a => ?_
     obtain ⟨a, ha, hax⟩ := a
     dsimp only
     by_cases hla : a < o.length
     ·by_cases hxa : o[a] < x
      ·skip
       refine dw_seq ?_; refine dw_seq ?_; refine dwkD [(34, .v (.int .i64 (↑o.length))), (35, .v (.bool true)), (39, .q [.v (.int .i64 (o[a]))]), (43, .q [.v (.int .i64 hk1), .v (.int .i64 x)]), (46, .v (.bool true))] TRX_ok hnt fun K hK => ?_; refine And.intro (dintE (by rw [eIs_len])) ?_; refine And.intro auT ?_; refine And.intro (elo (eIs_len o)) ?_; refine And.intro (elv (eIs_getD o a) rfl) ?_; refine And.intro (⟨by omega, by rw [eHs_len]; omega⟩) ?_
       refine And.intro (VLe.of_eq (by rw [Int.toNat_natCast, hgk])) ?_; refine And.intro auT ?_; refine hK _ _ (by kernel_rfl) ?_; clear hK K; refine dw_cond (t := true) rfl ?_; rw [if_pos rfl]; refine dw_skip ?_; refine dw_block ?_; refine dwk [(49, .v (.int .i64 (↑(a + 1))))] TRX_ok hnt fun K hK => ?_; refine And.intro auI ?_; refine hK _ _ ?_; clear hK K
       refine ⟨⟨a + 1, hla, fun q h1 h2 => if e : q = a then by subst e; exact hxa else hax q h1 (by omega)⟩, by first | omega | (dsimp only; omega), VS.toA⟩
      ·by_cases hex : o[a] = x
       ·have hsk := hr.skip (x := x) (by rw [← hex]; exact List.getElem_mem hla)
        refine dw_seq ?_; refine dw_seq ?_; refine dwkD [(34, .v (.int .i64 (↑o.length))), (35, .v (.bool true)), (39, .q [.v (.int .i64 (o[a]))]), (43, .q [.v (.int .i64 hk1), .v (.int .i64 x)]), (46, .v (.bool false))] TRX_ok hnt fun K hK => ?_; refine And.intro (dintE (by rw [eIs_len])) ?_; refine And.intro auT ?_; refine And.intro (elo (eIs_len o)) ?_; refine And.intro (elv (eIs_getD o a) rfl) ?_; refine And.intro (⟨by omega, by rw [eHs_len]; omega⟩) ?_
        refine And.intro (VLe.of_eq (by rw [Int.toNat_natCast, hgk])) ?_; refine And.intro auF ?_; refine hK _ _ (by kernel_rfl) ?_; clear hK K; refine dw_cond (t := false) rfl ?_; rw [if_neg (by simp)]; refine dw_exit ?_; refine dw_seq ?_; refine dw_seq ?_; refine dwkD [(52, .v (.int .i64 (↑o.length))), (53, .v (.bool true)), (57, .q [.v (.int .i64 (o[a]))]), (61, .q [.v (.int .i64 hk1), .v (.int .i64 x)]), (64, .v (.bool true))] TRX_ok hnt fun K hK => ?_
        refine And.intro (dintE (by rw [eIs_len])) ?_; refine And.intro auT ?_; refine And.intro (elo (eIs_len o)) ?_; refine And.intro (elv (eIs_getD o a) rfl) ?_; refine And.intro (⟨by omega, by rw [eHs_len]; omega⟩) ?_; refine And.intro (VLe.of_eq (by rw [Int.toNat_natCast, hgk])) ?_; refine And.intro (beqT hex) ?_; refine hK _ _ (by kernel_rfl) ?_; clear hK K; refine dw_cond (t := true) rfl ?_; rw [if_pos rfl]
        refine dw_exit ?_; refine dwk [(25, .v (.int .i64 (↑(k + 1))))] TRX_ok hnt fun K hK => ?_; refine And.intro auI ?_; refine hK _ _ ?_; clear hK K
        refine ⟨⟨(k + 1, o), hlk, by rw [hmk, ← List.append_assoc]; exact hsk⟩, by first | omega | (dsimp only; omega), VS.toA⟩
       ·have hput := hr.put (x := x) (a := a) ha (fun q h => hax q (by omega) h) (fun h => ⟨hxa, hex⟩)
        refine dw_seq ?_; refine dw_seq ?_; refine dwkD [(34, .v (.int .i64 (↑o.length))), (35, .v (.bool true)), (39, .q [.v (.int .i64 (o[a]))]), (43, .q [.v (.int .i64 hk1), .v (.int .i64 x)]), (46, .v (.bool false))] TRX_ok hnt fun K hK => ?_; refine And.intro (dintE (by rw [eIs_len])) ?_; refine And.intro auT ?_; refine And.intro (elo (eIs_len o)) ?_; refine And.intro (elv (eIs_getD o a) rfl) ?_; refine And.intro (⟨by omega, by rw [eHs_len]; omega⟩) ?_
        refine And.intro (VLe.of_eq (by rw [Int.toNat_natCast, hgk])) ?_; refine And.intro auF ?_; refine hK _ _ (by kernel_rfl) ?_; clear hK K; refine dw_cond (t := false) rfl ?_; rw [if_neg (by simp)]; refine dw_exit ?_; refine dw_seq ?_; refine dw_seq ?_; refine dwkD [(52, .v (.int .i64 (↑o.length))), (53, .v (.bool true)), (57, .q [.v (.int .i64 (o[a]))]), (61, .q [.v (.int .i64 hk1), .v (.int .i64 x)]), (64, .v (.bool false))] TRX_ok hnt fun K hK => ?_
        refine And.intro (dintE (by rw [eIs_len])) ?_; refine And.intro auT ?_; refine And.intro (elo (eIs_len o)) ?_; refine And.intro (elv (eIs_getD o a) rfl) ?_; refine And.intro (⟨by omega, by rw [eHs_len]; omega⟩) ?_; refine And.intro (VLe.of_eq (by rw [Int.toNat_natCast, hgk])) ?_; refine And.intro (beqF hex) ?_; refine hK _ _ (by kernel_rfl) ?_; clear hK K; refine dw_cond (t := false) rfl ?_; rw [if_neg (by simp)]
        refine dw_skip ?_; refine dw_seq ?_; refine dwk [(69, .sl 1 (eIs (o.take a)) none)] TRX_ok hnt fun K hK => ?_; refine And.intro (⟨by omega, by rw [eIs_len]; omega⟩) ?_; refine And.intro (VLe.of_eq (congrArg (D.sl 1 · none) (eIs_take o a))) ?_; refine And.intro (⟨rfl, by simp [eIs_len]; omega⟩) ?_; refine hK _ _ ?_; clear hK K; refine dw_seq ?_; refine dwk [(74, .q [.v (.int .i64 hk1), .v (.int .i64 x)])] TRX_ok hnt fun K hK => ?_
        refine And.intro (⟨by omega, by rw [eHs_len]; omega⟩) ?_; refine And.intro (VLe.of_eq (by rw [Int.toNat_natCast, hgk])) ?_; refine And.intro (⟨by simp [eIs_len], by simp [eIs_len]; omega⟩) ?_; refine hK _ _ ?_; clear hK K; refine dwk [(82, .sl 1 (eIs (o.drop a)) none), (83, .sl 1 (eIs (o.take a ++ [x] ++ o.drop a)) none)] TRX_ok hnt fun K hK => ?_; refine And.intro (⟨by omega, by rw [eIs_len]; omega⟩) ?_
        refine And.intro (VLe.of_eq (congrArg (D.sl 1 · none) (eIs_drop o a))) ?_; refine And.intro (⟨by simp [eIs_len], by simp [eIs_len]; omega⟩) ?_; refine And.intro ((by rw [eIs_append, eIs_append]; exact VLe.untag _ _ _)) ?_; refine hK _ _ ?_; clear hK K; refine dwk [(25, .v (.int .i64 (↑(k + 1))))] TRX_ok hnt fun K hK => ?_; refine And.intro auI ?_; refine hK _ _ ?_; clear hK K
        refine ⟨⟨(k + 1, o.take a ++ [x] ++ o.drop a), hlk, by rw [hmk, ← List.append_assoc]; exact hput⟩, by first | omega | (dsimp only; omega), VS.toA⟩
     ·have hput := hr.put (x := x) (a := a) ha (fun q h => hax q (by omega) h) (fun h => absurd h hla)
      refine dw_seq ?_; refine dw_seq ?_; refine dwkD [(34, .v (.int .i64 (↑o.length))), (35, .v (.bool false))] TRX_ok hnt fun K hK => ?_; refine And.intro (dintE (by rw [eIs_len])) ?_; refine And.intro auF ?_; refine hK _ _ (by kernel_rfl) ?_; clear hK K; refine dw_cond (t := false) rfl ?_; rw [if_neg (by simp)]; refine dw_exit ?_; refine dw_seq ?_; refine dw_seq ?_; refine dwkD [(52, .v (.int .i64 (↑o.length))), (53, .v (.bool false))] TRX_ok hnt fun K hK => ?_
      refine And.intro (dintE (by rw [eIs_len])) ?_; refine And.intro auF ?_; refine hK _ _ (by kernel_rfl) ?_; clear hK K; refine dw_cond (t := false) rfl ?_; rw [if_neg (by simp)]; refine dw_skip ?_; refine dw_seq ?_; refine dwk [(69, .sl 1 (eIs (o.take a)) none)] TRX_ok hnt fun K hK => ?_; refine And.intro (⟨by omega, by rw [eIs_len]; omega⟩) ?_; refine And.intro (VLe.of_eq (congrArg (D.sl 1 · none) (eIs_take o a))) ?_
      refine And.intro (⟨rfl, by simp [eIs_len]; omega⟩) ?_; refine hK _ _ ?_; clear hK K; refine dw_seq ?_; refine dwk [(74, .q [.v (.int .i64 hk1), .v (.int .i64 x)])] TRX_ok hnt fun K hK => ?_; refine And.intro (⟨by omega, by rw [eHs_len]; omega⟩) ?_; refine And.intro (VLe.of_eq (by rw [Int.toNat_natCast, hgk])) ?_; refine And.intro (⟨by simp [eIs_len], by simp [eIs_len]; omega⟩) ?_; refine hK _ _ ?_; clear hK K
      refine dwk [(82, .sl 1 (eIs (o.drop a)) none), (83, .sl 1 (eIs (o.take a ++ [x] ++ o.drop a)) none)] TRX_ok hnt fun K hK => ?_; refine And.intro (⟨by omega, by rw [eIs_len]; omega⟩) ?_; refine And.intro (VLe.of_eq (congrArg (D.sl 1 · none) (eIs_drop o a))) ?_; refine And.intro (⟨by simp [eIs_len], by simp [eIs_len]; omega⟩) ?_; refine And.intro ((by rw [eIs_append, eIs_append]; exact VLe.untag _ _ _)) ?_
      refine hK _ _ ?_; clear hK K; refine dwk [(25, .v (.int .i64 (↑(k + 1))))] TRX_ok hnt fun K hK => ?_; refine And.intro auI ?_; refine hK _ _ ?_; clear hK K
      refine ⟨⟨(k + 1, o.take a ++ [x] ++ o.drop a), hlk, by rw [hmk, ← List.append_assoc]; exact hput⟩, by first | omega | (dsimp only; omega), VS.toA⟩
    ·rw [if_neg h2, List.append_nil] at hmk; refine dw_seq ?_; refine dw_seq ?_; refine dwk [(22, .v (.int .i64 (↑hs.length))), (23, .v (.bool true))] TRX_ok hnt fun K hK => ?_; refine And.intro (dintE (by rw [eHs_len])) ?_; refine And.intro auT ?_; refine hK _ _ ?_; clear hK K; refine dw_cond (t := true) rfl ?_; rw [if_pos rfl]; refine dw_skip ?_; refine dw_seq ?_; refine dw_block ?_; refine dw_seq ?_
     refine dw_seq ?_; refine dwk [(28, .q [.v (.int .i64 hk1), .v (.int .i64 x)]), (31, .v (.bool true))] TRX_ok hnt fun K hK => ?_; refine And.intro (⟨by omega, by rw [eHs_len]; omega⟩) ?_; refine And.intro (VLe.of_eq (by rw [Int.toNat_natCast, hgk])) ?_; refine And.intro (bneT h2) ?_; refine hK _ _ ?_; clear hK K; refine dw_cond (t := true) rfl ?_; rw [if_pos rfl]; refine dw_exit ?_; refine dwk [(25, .v (.int .i64 (↑(k + 1))))] TRX_ok hnt fun K hK => ?_
     refine And.intro auI ?_; refine hK _ _ ?_; clear hK K
     refine ⟨⟨(k + 1, o), hlk, by rw [hmk]; exact hr⟩, by first | omega | (dsimp only; omega), VS.toA⟩
   ·rw [List.take_of_length_le (by omega)] at hr
    refine dw_seq ?_; refine dw_seq ?_; refine dwk [(22, .v (.int .i64 (↑hs.length))), (23, .v (.bool false))] TRX_ok hnt fun K hK => ?_; refine And.intro (dintE (by rw [eHs_len])) ?_; refine And.intro auF ?_; refine hK _ _ ?_; clear hK K; refine dw_cond (t := false) rfl ?_; rw [if_neg (by simp)]; refine dw_exit ?_; refine dwk [(14, .v (.int .i64 (↑(i + 1))))] TRX_ok hnt fun K hK => ?_; refine And.intro auI ?_
    refine hK _ _ ?_; clear hK K
    refine ⟨⟨(i + 1, o), hlt, by rw [hmt]; exact hr⟩, by first | omega | (dsimp only; omega), VS.toA⟩
  ·rw [List.take_of_length_le (by omega)] at hr
   rw [← hr.eq]
   refine dw_seq ?_; refine dw_seq ?_; refine dwk [(11, .v (.int .i64 (↑l.length))), (12, .v (.bool false))] TRX_ok hnt fun K hK => ?_; refine And.intro (dintE (by rw [eTms_len])) ?_; refine And.intro auF ?_; refine hK _ _ ?_; clear hK K; refine dw_cond (t := false) rfl ?_; rw [if_neg (by simp)]; refine dw_exit ?_; refine dw_seq ?_; refine dwk [] TRX_ok hnt fun K hK => ?_; refine hK _ _ ?_; clear hK K
   refine dw_ret ?_
   exact reta rfl
end Go.Proofs.YtdmiekaeodcehaaGreat

namespace Go.Proofs.YtdmiekaeodcehaaGreat
open Go.RowKit

def sgn (x y : Int) : Int := if x < y then -1 else if y < x then 1 else 0
def orl (a b : Int) : Int := if a = 0 then b else a
@[simp] theorem orl_zero (b : Int) : orl 0 b = b := by simp [orl]
@[simp] theorem orl_zero_right (a : Int) : orl a 0 = a := by unfold orl; split <;> simp_all
namespace Ty
mutual
def cmp : Ty → Ty → Int
  | .mk l b, .mk l' b' => orl (orl (orl (sgn (Ty.sizes l + 1 : Nat) (Ty.sizes l' + 1 : Nat)) (sgn (l.length : Nat) (l'.length : Nat))) (cmps l l')) (sgn b b')
def cmps : List Ty → List Ty → Int
  | [], _ => 0
  | _ :: _, [] => 0
  | t :: l, u :: l' => orl (cmp t u) (cmps l l')
end
@[simp] theorem cmps_nil (l : List Ty) : cmps [] l = 0 := by rw [cmps]

end Ty
end Go.Proofs.YtdmiekaeodcehaaGreat

namespace Go.Proofs.YtdmiekaeodcehaaGreat
open Go.RowKit

namespace Tm
def cmpB (l l' : List Ty) : Int := orl (sgn (l.length : Nat) (l'.length : Nat)) (Ty.cmps l l')
mutual
def cmp : Tm → Tm → Int
  | .mk b k i a, .mk b' k' i' a' => orl (sgn (Tm.sizes a + 1 : Nat) (Tm.sizes a' + 1 : Nat)) (orl (cmpB b b') (orl (sgn k k') (orl (sgn i i') (orl (sgn (a.length : Nat) (a'.length : Nat)) (cmps a a')))))
def cmps : List Tm → List Tm → Int
  | [], _ => 0
  | _ :: _, [] => 0
  | t :: l, u :: l' => orl (cmp t u) (cmps l l')
end
@[simp] theorem cmps_nil (l : List Tm) : cmps [] l = 0 := by rw [cmps]
end Tm
end Go.Proofs.YtdmiekaeodcehaaGreat

namespace Go.Proofs.YtdmiekaeodcehaaGreat
open Go.RowKit

end Go.Proofs.YtdmiekaeodcehaaGreat

namespace Go.Proofs.YtdmiekaeodcehaaGreat
open Go.RowKit

namespace Ty
end Ty

end Go.Proofs.YtdmiekaeodcehaaGreat

namespace Go.Proofs.YtdmiekaeodcehaaGreat
open Go.RowKit

set_option maxRecDepth 100000 in
theorem size6_r : ∀ t : Tm, ∀ {F : Nat → Prop} {w0 : World} {b k i a : Value} (_ : IsTm F w0 b k i a t) (w : World), t.size ≤ 1000000 → Keep F w0 w → Calls Tryz.prog 81 #[.agg #[b, k, i, a]] w (RetI t.size w) := Tm.ind fun binds k0 i0 args ih => by
  intro F w0 b k i a ht w hsz hw
  obtain ⟨pa, pc, qa, qc, rfl, rfl, rfl, rfl⟩ := ht.shape
  simp only [Tm.binds, Tm.kind, Tm.index, Tm.args] at ht ⊢
  obtain ⟨_, _, _, hsl⟩ := ht.inv
  simp only [Tm.args] at hsl
  obtain ⟨_, hm, bl, off, PA, A, PN, PC, N', C, Kd, Ix, ha, h1, h2, h3, h4, h5⟩ := sl_cells6 hsl
  clear ht hsl hm
  have hlen : args.length ≤ 1000000 := by have := Tm.len_sizes args; rw [Tm.size_eq] at hsz; omega
  have Hsz : Hid (∀ i (h : i < args.length), args[i].size ≤ 1000000 ∧ Tm.sizes (args.take i) + args[i].size ≤ 1000000) := fun i h => by
    have := Tm.sizes_take args i h; have := Tm.sizes_take_le args (i + 1); rw [Tm.size_eq] at hsz; omega
  have Hend : Hid ((Tm.mk binds k0 i0 args).size = Tm.sizes args + 1) := Tm.size_eq _ _ _ _
  have Hih := Lib.hid ih; clear ih hsz
  go_enter Tryz.func81, Tryz.ntmps81
  go_wp2_with fail
  go_loopw [3, 4] (fun x i wr => ∃ k : Nat, i = .int .i64 k ∧ x = .int .i64 ((Tm.sizes (args.take k) : Int) + 1) ∧ k ≤ args.length ∧ Below w.heap.size w wr ∧ Blk wr w.heap.size #[.slice pa binds.length pc, .int .i64 k0, .int .i64 i0, .slice qa args.length qc] 27) (fun _ i _ => args.length - (intOf i).toNat)
  case atStart => exact ⟨0, rfl, rfl, by omega, (Below.refl _ _).alloc (Nat.le_refl _) _, Blk.new _ _ _ rfl⟩
  case round =>
    obtain ⟨k, rfl, rfl, hk, hb, hbox⟩ := hrel
    have c0 : wr.cell? ⟨w.heap.size, 3, none⟩ = some (.slice qa args.length qc) := hbox.cell rfl
    have hlt0 := hbox.lt
    by_cases hlt : k < args.length
    · obtain ⟨rfl, hF⟩ := ha (by omega)
      have e1 := (hw.below hb) _ _ _ hF (h1 k hlt)
      have e2 := (hw.below hb) _ _ _ hF (h2 k hlt)
      have e3 := (hw.below hb) _ _ _ hF (h3 k hlt)
      have e4 := (hw.below hb) _ _ _ hF (h4 k hlt)
      have hs : Tm.sizes (args.take k) ≤ 1000000 ∧ args[k].size ≤ 1000000 := by have := Hsz.out k hlt; omega
      go_wp2_with fail
      refine (Hih.out _ (List.getElem_mem hlt) (h5 k hlt) _ (Hsz.out k hlt).1 (hw.below hb)).mono ?_
      rintro e w1 ⟨rfl, hb1⟩
      go_wp2_with fail
      go_roundw
      case rel => exact ⟨k + 1, by go_num, by rw [Tm.sizes_take _ _ hlt]; go_num, by omega, hb.trans (hb1.mono (by omega)), hbox.below hb1⟩
      case measure => simp [intOf]; omega
    · go_wp2_with fail
      go_ret
      refine ⟨?_, hb⟩
      rw [Hend.out, List.take_of_length_le (by omega)]; rfl

end Go.Proofs.YtdmiekaeodcehaaGreat

namespace Go.Proofs.YtdmiekaeodcehaaGreat
open Go.RowKit

def headTy (C M X : List Ty) (k i : Int) : Option Ty :=
  if i < 0 then none else if k = 0 then X.reverse[i.toNat]? else if k = 1 then C[i.toNat]? else if k = 2 then M[i.toNat]? else none
theorem headTy_neg {C M X : List Ty} {k i : Int} (h : i < 0) : headTy C M X k i = none := by rw [headTy, if_pos h]
theorem headTy_0 {C M X : List Ty} (i : Nat) : headTy C M X 0 i = X.reverse[i]? := by rw [headTy, if_neg (by omega), if_pos rfl]; rfl
theorem headTy_1 {C M X : List Ty} (i : Nat) : headTy C M X 1 i = C[i]? := by rw [headTy, if_neg (by omega), if_neg (by decide), if_pos rfl]; rfl
theorem headTy_2 {C M X : List Ty} (i : Nat) : headTy C M X 2 i = M[i]? := by rw [headTy, if_neg (by omega), if_neg (by decide), if_neg (by decide), if_pos rfl]; rfl
theorem headTy_o {C M X : List Ty} {k i : Int} (h0 : k ≠ 0) (h1 : k ≠ 1) (h2 : k ≠ 2) : headTy C M X k i = none := by
  rw [headTy, if_neg h0, if_neg h1, if_neg h2]; split <;> rfl

def tyZ : Ty := .mk [] 0
theorem sl_at {G F : Nat → Prop} {w : World} {a : Option Addr} {n c : Nat} {l : List Ty} (h : IsSl2 rpTy G F w (.slice a n c) l) (j : Nat) (hj : j < l.length) : ∃ bl off A N C B, a = some ⟨bl, off, none⟩ ∧ G bl ∧
    w.cell? ⟨bl, off + j * 2, none⟩ = some (.slice A N C) ∧ w.cell? ⟨bl, off + j * 2 + 1, none⟩ = some (.int .i64 B) ∧ IsTy F w (.slice A N C) (.int .i64 B) l[j] := by
  obtain ⟨a', c', bl, off, X, hv, _, ha, h1, h2⟩ := h
  cases hv
  obtain ⟨ha, hG⟩ := ha (by omega)
  obtain ⟨s, b, hx, ht⟩ := h2 j hj
  obtain ⟨sa, sc, rfl, rfl⟩ := ht.shape
  exact ⟨bl, off, _, _, _, _, ha, hG, h1 j 0 _ hj (by rw [hx]; rfl), h1 j 1 _ hj (by rw [hx]; rfl), ht⟩

end Go.Proofs.YtdmiekaeodcehaaGreat

namespace Go.Proofs.YtdmiekaeodcehaaGreat
open Go.RowKit

end Go.Proofs.YtdmiekaeodcehaaGreat

namespace Go.Proofs.YtdmiekaeodcehaaGreat
open Go.RowKit

mutual
def IsOf (C M : List Ty) : Tm → List Ty → Ty → Prop
  | .mk b k i a, X, u => b = u.args ∧ ∃ h, headTy C M (X ++ b) k i = some h ∧ h.base = u.base ∧ IsOfs C M a (X ++ b) h.args
def IsOfs (C M : List Ty) : List Tm → List Ty → List Ty → Prop
  | [], _, [] => True
  | [], _, _ :: _ => False
  | _ :: _, _, [] => False
  | t :: l, X, u :: l' => IsOf C M t X u ∧ IsOfs C M l X l'
end
theorem isOf_mk {C M : List Ty} {b : List Ty} {k i : Int} {a : List Tm} {X : List Ty} {u : Ty} : IsOf C M (.mk b k i a) X u ↔ b = u.args ∧ ∃ h, headTy C M (X ++ b) k i = some h ∧ h.base = u.base ∧ IsOfs C M a (X ++ b) h.args := by rw [IsOf]
theorem isOfs_iff {C M : List Ty} {X : List Ty} : ∀ {l : List Tm} {l' : List Ty}, IsOfs C M l X l' ↔ l'.length = l.length ∧ ∀ i (h : i < l.length) (h' : i < l'.length), IsOf C M l[i] X l'[i]
  | [], [] => by simp [IsOfs]
  | [], _ :: _ => by simp [IsOfs]
  | _ :: _, [] => by simp [IsOfs]
  | t :: l, u :: l' => by
    rw [IsOfs, isOfs_iff]
    constructor
    · rintro ⟨h1, h2, h3⟩
      refine ⟨by simp [h2], fun i h h' => ?_⟩
      cases i with
      | zero => exact h1
      | succ i => exact h3 i (by simpa using h) (by simpa using h')
    · rintro ⟨h1, h2⟩
      exact ⟨h2 0 (by simp) (by simp), by simpa using h1, fun i h h' => h2 (i + 1) (by simpa using h) (by simpa using h')⟩
end Go.Proofs.YtdmiekaeodcehaaGreat

namespace Go.Proofs.YtdmiekaeodcehaaGreat
open Go.RowKit

theorem IsSl.bel {α : Type} {r : Rp α} {F : Nat → Prop} {w w' : World} {v : Value} {l : List α} (h : IsSl r F w v l) (hb : Below w.heap.size w w') : IsSl r F w' v l := h.keep ((Keep.refl _ _).below hb)
end Go.Proofs.YtdmiekaeodcehaaGreat

namespace Go.Proofs.YtdmiekaeodcehaaGreat
open Go.RowKit

end Go.Proofs.YtdmiekaeodcehaaGreat

namespace Go.Proofs.YtdmiekaeodcehaaGreat
open Go.RowKit

end Go.Proofs.YtdmiekaeodcehaaGreat

namespace Go.Proofs.YtdmiekaeodcehaaGreat
open Go.RowKit

set_option maxRecDepth 100000 in
theorem depth6_r : ∀ t : Tm, ∀ {F : Nat → Prop} {w0 : World} {b k i a : Value} (_ : IsTm F w0 b k i a t) (w : World), t.size ≤ 1000000 → Keep F w0 w → Calls Tryz.prog 105 #[.agg #[b, k, i, a]] w (RetI t.depth w) := Tm.ind fun binds k0 i0 args ih => by
  intro F w0 b k i a ht w hsz hw
  obtain ⟨pa, pc, qa, qc, rfl, rfl, rfl, rfl⟩ := ht.shape
  simp only [Tm.binds, Tm.kind, Tm.index, Tm.args] at ht ⊢
  obtain ⟨_, _, _, hsl⟩ := ht.inv
  simp only [Tm.args] at hsl
  obtain ⟨_, hm, bl, off, PA, A, PN, PC, N', C, Kd, Ix, ha, h1, h2, h3, h4, h5⟩ := sl_cells6 hsl
  clear ht hsl hm
  have hlen : args.length ≤ 1000000 := by have := Tm.len_sizes args; rw [Tm.size_eq] at hsz; omega
  have Hsz : Hid (∀ i (h : i < args.length), args[i].size ≤ 1000000 ∧ args[i].depth ≤ 1000000 ∧ Tm.depths (args.take i) ≤ 1000000) := fun i h => by
    have := Tm.size_mem (List.getElem_mem h); rw [Tm.size_eq] at hsz
    have := Tm.depth_le_size args[i]
    have := Tm.depths_take_le args i
    have := Tm.depth_le_size (.mk binds k0 i0 args)
    rw [Tm.depth_eq, Tm.size_eq] at this
    omega
  have Hend : Hid ((Tm.mk binds k0 i0 args).depth = Tm.depths args + 1) := Tm.depth_eq _ _ _ _
  have Hend2 : Hid (Tm.depths args ≤ 1000000) := by show _ ≤ _; have := Tm.depth_le_size (.mk binds k0 i0 args); rw [Tm.depth_eq] at this; omega
  have Hih := Lib.hid ih; clear ih hsz
  go_enter Tryz.func105, Tryz.ntmps105
  go_wp2_with fail
  go_loopw [3, 4, 5] (fun x i _ wr => ∃ k : Nat, i = .int .i64 k ∧ x = .int .i64 (Tm.depths (args.take k) : Int) ∧ k ≤ args.length ∧ Below w.heap.size w wr ∧ Blk wr w.heap.size #[.slice pa binds.length pc, .int .i64 k0, .int .i64 i0, .slice qa args.length qc] 27) (fun _ i _ _ => args.length - (intOf i).toNat)
  case atStart => exact ⟨0, rfl, rfl, by omega, (Below.refl _ _).alloc (Nat.le_refl _) _, Blk.new _ _ _ rfl⟩
  case round =>
    obtain ⟨k, rfl, rfl, hk, hb, hbox⟩ := hrel
    have c0 : wr.cell? ⟨w.heap.size, 3, none⟩ = some (.slice qa args.length qc) := hbox.cell rfl
    have hlt0 := hbox.lt
    by_cases hlt : k < args.length
    · obtain ⟨rfl, hF⟩ := ha (by omega)
      have e1 := (hw.below hb) _ _ _ hF (h1 k hlt)
      have e2 := (hw.below hb) _ _ _ hF (h2 k hlt)
      have e3 := (hw.below hb) _ _ _ hF (h3 k hlt)
      have e4 := (hw.below hb) _ _ _ hF (h4 k hlt)
      have Ht := Lib.hid (Tm.depths_take args k hlt)
      go_wp2_with fail
      refine (Hih.out _ (List.getElem_mem hlt) (h5 k hlt) _ (Hsz.out k hlt).1 (hw.below hb)).mono ?_
      rintro e w1 ⟨rfl, hb1⟩
      by_cases hg : (args[k].depth : Int) > (Tm.depths (args.take k) : Int)
      · go_wp2_with fail
        go_roundw
        case rel => exact ⟨k + 1, by go_num, by rw [Ht.out, Nat.max_eq_right (by omega)], by omega, hb.trans (hb1.mono (by omega)), hbox.below hb1⟩
        case measure => simp [intOf]; omega
      · go_wp2_with fail
        go_roundw
        case rel => exact ⟨k + 1, by go_num, by rw [Ht.out, Nat.max_eq_left (by omega)], by omega, hb.trans (hb1.mono (by omega)), hbox.below hb1⟩
        case measure => simp [intOf]; omega
    · have Hd : Hid (Tm.depths (args.take k) = Tm.depths args) := by show _ = _; rw [List.take_of_length_le (by omega)]
      have hd2 : (Tm.depths (args.take k) : Int) ≤ 1000000 := by have := Hd.out; have := Hend2.out; omega
      go_wp2_with fail
      go_ret
      refine ⟨?_, hb⟩
      rw [Hend.out, ← Hd.out]; rfl

set_option maxRecDepth 100000 in
theorem Right_r {F : Nat → Prop} {w : World} {b k i a : Value} {t : Tm} (ht : IsTm F w b k i a t) (hz : t.size ≤ 1000000) : Calls Tryz.prog 62 #[.agg #[b, k, i, a]] w (RetB (t.size ≤ 5000 ∧ t.depth ≤ 60) w) := by
  have Hs := Lib.hid fun (w' : World) (hb : Below w.heap.size w w') => size6_r t ht w' hz ((Keep.refl _ _).below hb)
  have Hd := Lib.hid fun (w' : World) (hb : Below w.heap.size w w') => depth6_r t ht w' hz ((Keep.refl _ _).below hb)
  obtain ⟨t_pa, t_pc, t_qa, t_qc, rfl, rfl, rfl, rfl⟩ := ht.shape
  obtain ⟨t_n, ht_n⟩ : ∃ x, t.binds.length = x := ⟨_, rfl⟩
  obtain ⟨t_m, ht_m⟩ : ∃ x, t.args.length = x := ⟨_, rfl⟩
  obtain ⟨t_k, ht_k⟩ : ∃ x, t.kind = x := ⟨_, rfl⟩
  obtain ⟨t_i, ht_i⟩ : ∃ x, t.index = x := ⟨_, rfl⟩
  rw [ht_n, ht_m, ht_k, ht_i] at ht ⊢
  have Et_n := Lib.hid ht_n
  have Et_m := Lib.hid ht_m
  have Et_k := Lib.hid ht_k
  have Et_i := Lib.hid ht_i
  clear ht_n ht_m ht_k ht_i
  clear ht
  obtain ⟨z, hzz⟩ : ∃ z, t.size = z := ⟨_, rfl⟩
  obtain ⟨d, hdd⟩ : ∃ d, t.depth = d := ⟨_, rfl⟩
  rw [hzz] at Hs ⊢
  rw [hdd] at Hd ⊢
  rw [Et_n.out, Et_m.out, Et_k.out, Et_i.out] at Hs Hd
  clear hzz hdd hz
  go_enter Tryz.func62, Tryz.ntmps62
  go_wp2_with fail
  have hb1 : Below w.heap.size w (w.alloc (.cells #[.slice t_pa t_n t_pc, .int .i64 t_k, .int .i64 t_i, .slice t_qa t_m t_qc] 27)) := (Below.refl _ _).alloc (Nat.le_refl _) _
  have x1 : Blk (w.alloc (.cells #[.slice t_pa t_n t_pc, .int .i64 t_k, .int .i64 t_i, .slice t_qa t_m t_qc] 27)) w.heap.size #[.slice t_pa t_n t_pc, .int .i64 t_k, .int .i64 t_i, .slice t_qa t_m t_qc] 27 := Blk.new _ _ _ rfl
  refine (Hs.out _ hb1).mono ?_
  rintro e w1 ⟨rfl, hb2⟩
  have B1 := hb1.trans (hb2.mono hb1.size)
  have x2 := x1.below hb2
  clear hb1 hb2 x1
  by_cases h : z ≤ 5000
  · have h' : (z : Int) ≤ 5000 := by omega
    have c0 : w1.cell? ⟨w.heap.size, 0, none⟩ = some (.slice t_pa t_n t_pc) := x2.cell rfl
    have c1 : w1.cell? ⟨w.heap.size, 1, none⟩ = some (.int .i64 t_k) := x2.cell rfl
    have c2 : w1.cell? ⟨w.heap.size, 2, none⟩ = some (.int .i64 t_i) := x2.cell rfl
    have c3 : w1.cell? ⟨w.heap.size, 3, none⟩ = some (.slice t_qa t_m t_qc) := x2.cell rfl
    have l0 := x2.lt
    go_wp2_with fail
    refine (Hd.out _ B1).mono ?_
    rintro e w2 ⟨rfl, hb3⟩
    go_wp2_with fail
    go_ret
    exact ⟨_, by simp; omega, rfl, B1.trans (hb3.mono B1.size)⟩
  · have h' : ¬ (z : Int) ≤ 5000 := by omega
    have h2 : decide ((z : Int) ≤ 5000) = false := by simpa using h'
    go_wp2_with fail
    go_ret
    exact ⟨_, by simp; omega, rfl, B1⟩

def checkCode (C M : List Ty) (t : Tm) (X : List Ty) (u : Ty) (c : Int) : Prop := (¬ (t.size ≤ 5000 ∧ t.depth ≤ 60) ∧ c = 2) ∨ ((t.size ≤ 5000 ∧ t.depth ≤ 60) ∧ ¬ IsOf C M t X u ∧ c = 5) ∨ ((t.size ≤ 5000 ∧ t.depth ≤ 60) ∧ IsOf C M t X u ∧ c = 0)
end Go.Proofs.YtdmiekaeodcehaaGreat

namespace Go.Proofs.YtdmiekaeodcehaaGreat
open Go.RowKit
theorem rRight_d (t : Tm) (hz : t.size ≤ 1000000) : PureC Tryz.prog 62 [.ag (eTm t)] (.v (.bool (Li.rt t))) := by
  refine pure_below (by kernel_rfl) fun m Im w vs hv => ?_
  match vs, hv with
  | [x], hv =>
    obtain ⟨b, k, i, a, rfl, ht⟩ := agTm hv.1
    refine (Right_r ht hz).mono ?_
    rintro e w' ⟨b, hb, rfl, h2⟩
    have : b = Li.rt t := by
      unfold Li.rt
      by_cases hp : t.size ≤ 5000 ∧ t.depth ≤ 60
      · rw [hb.2 hp]; simp [hp]
      · have : b = false := by
          cases b with
          | false => rfl
          | true => exact absurd (hb.1 rfl) hp
        rw [this]; simp [hp]
    subst this
    exact ⟨_, rfl, h2, fun Im' _ hI => .v _⟩
theorem metasT_L (l : List Tm) (h : ∀ t ∈ l, t.Fit) : metasT l = metasL l := by
  unfold metasT metasL
  induction l with
  | nil => rfl
  | cons t l ih =>
    rw [List.flatMap_cons, List.flatMap_cons, ih fun u hu => h u (by simp [hu]), metasH_pre t (h t (by simp))]
theorem rmetas_d (l : List Tm) (hl : l.length ≤ 9) (hz : ∀ t ∈ l, t.full ≤ 90000) (hf : ∀ t ∈ l, t.Fit) : PureC Tryz.prog 71 [.sl 4 (eTms l) none] (.sl 1 (eIs (sortU (metasL l))) none) := by
  have h := rMetas_d l hl hz hf
  rw [metasT_L l hf] at h
  exact h
namespace Li
def bad (M : List Ty) (x : Int) : Bool := decide (x < 0 ∨ (M.length : Int) ≤ x)
end Li
end Go.Proofs.YtdmiekaeodcehaaGreat

namespace Go.Proofs.YtdmiekaeodcehaaGreat
open Go.RowKit

end Go.Proofs.YtdmiekaeodcehaaGreat

namespace Go.Proofs.YtdmiekaeodcehaaGreat
open Go.RowKit

end Go.Proofs.YtdmiekaeodcehaaGreat

namespace Go.Proofs.YtdmiekaeodcehaaGreat
open Go.RowKit

end Go.Proofs.YtdmiekaeodcehaaGreat

namespace Go.Proofs.YtdmiekaeodcehaaGreat
open Go.RowKit

def RightTy (bases : Int) (t : Ty) : Prop := t.size ≤ 1000 ∧ t.depth ≤ 60 ∧ Ty.Low bases t

set_option maxRecDepth 100000 in
theorem rightWorld1_k {F : Nat → Prop} {w : World} {s d : Value} {t : Ty} {b : Int} {B : Nat} (ht : IsTy F w s d t) (hz : t.size ≤ 400000) (hB : w.cell? ⟨B, 0, none⟩ = some (.int .i64 b)) :
    Calls Tryz.prog 98 #[.agg #[s, d], .pointer (some ⟨B, 0, none⟩)] w (RetB (¬ RightTy b t) w) := by
  have Hr := Lib.hid fun (w' : World) (hb : Below w.heap.size w w') => right_k (ht.bel hb) b (by omega)
  obtain ⟨a, c, rfl, rfl⟩ := ht.shape
  clear ht
  obtain ⟨n1, hn1⟩ : ∃ n, t.args.length = n := ⟨_, rfl⟩
  obtain ⟨n2, hn2⟩ : ∃ n, t.base = n := ⟨_, rfl⟩
  rw [hn1, hn2] at Hr ⊢
  clear hn1 hn2
  have hl := Keep.lt hB
  go_enter Tryz.func98, Tryz.ntmps98
  go_wp2_with fail
  have hb1 : Below w.heap.size w (w.alloc (.cells #[.slice a n1 c, .int .i64 n2] 75)) := (Below.refl _ _).alloc (Nat.le_refl _) _
  refine (Hr.out _ hb1).mono ?_
  intro e w2 h
  obtain ⟨r, Hq, rfl, hb2⟩ := of_retB' h
  clear h
  go_wp2_with fail
  go_ret
  exact ⟨_, by have := Hq.out; unfold RightTy; cases r <;> simp_all, rfl, hb1.trans (hb2.mono hb1.size)⟩

set_option maxRecDepth 100000 in
theorem indexFunc_k {G F : Nat → Prop} {w : World} {v : Value} {l : List Ty} {b : Int} {B : Nat} (h : IsSl2 rpTy G F w v l) (hz : ∀ t ∈ l, t.size ≤ 400000) (hB : w.cell? ⟨B, 0, none⟩ = some (.int .i64 b)) :
    Calls Tryz.prog 123 #[v, .func (.func 98) #[] #[.pointer (some ⟨B, 0, none⟩)]] w fun e w' => ∃ i : Int, Hid (0 ≤ i ↔ ∃ t ∈ l, ¬ RightTy b t) ∧ e = .returned (.int .i64 i) ∧ Below w.heap.size w w' := by
  obtain ⟨a, c, rfl⟩ := h.shape
  have Hat := Lib.hid (sl_at h)
  have hl : (l.length : Int) ≤ 9223372036854775807 := by obtain ⟨_, _, _, _, _, _, hm, _⟩ := h; unfold maxLen at hm; omega
  clear h
  have Hz := Lib.hid hz; clear hz
  go_enter Tryz.func123, Tryz.ntmps123
  go_wp2_with fail
  go_loopw [5, 8] (fun _ i wr => ∃ k : Nat, i = .int .i64 k ∧ k ≤ l.length ∧ Hid (∀ m (h : m < l.length), m < k → RightTy b l[m]) ∧ Below w.heap.size w wr) (fun _ i _ => l.length - (intOf i).toNat)
  case atStart => exact ⟨0, rfl, by omega, fun m _ h => absurd h (by omega), Below.refl _ _⟩
  case round =>
    obtain ⟨k, rfl, hk, hrel, hb⟩ := hrel
    by_cases hlt : k < l.length
    · obtain ⟨bl, off, A, N, C, Bb, rfl, _, e1, e2, hT⟩ := Hat.out k hlt
      have hkx : Keep (fun _ => True) w wr := (Keep.refl _ _).below hb
      have e1 := hkx _ _ _ trivial e1
      have e2 := hkx _ _ _ trivial e2
      have HT := Lib.hid (hT.bel hb); clear hT
      have i1 : (k : Int) < (l.length : Int) := by omega
      have HB := Lib.hid (hkx _ _ _ trivial hB)
      clear hkx
      go_wp2_with fail
      refine (rightWorld1_k HT.out (Hz.out _ (List.getElem_mem hlt)) HB.out).mono ?_
      intro e w2 h
      obtain ⟨r, Hq, rfl, hb2⟩ := of_retB' h
      clear h e1 e2
      cases r
      · have Hq2 := Lib.hid (no_of Hq.out)
        go_wp2_with fail
        go_roundw
        case rel => exact ⟨k + 1, by go_num, by omega, fun m h hm => by
          by_cases hmk : m < k
          · exact hrel.out m h hmk
          · obtain rfl : m = k := by omega
            exact Classical.not_not.1 Hq2.out, hb.trans (hb2.mono hb.size)⟩
        case measure => simp [intOf]; omega
      · have Hq2 := Lib.hid (yes_of Hq.out)
        go_wp2_with fail
        go_ret
        exact ⟨_, ⟨fun _ => ⟨_, List.getElem_mem hlt, Hq2.out⟩, fun _ => by omega⟩, rfl, hb.trans (hb2.mono hb.size)⟩
    · go_wp2_with fail
      go_ret
      refine ⟨_, ⟨fun h => absurd h (by omega), fun ⟨t, ht, hn⟩ => ?_⟩, rfl, hb⟩
      obtain ⟨m, hm, rfl⟩ := List.getElem_of_mem ht
      exact absurd (hrel.out m hm (by omega)) hn

set_option maxRecDepth 100000 in
theorem containsFunc_k {G F : Nat → Prop} {w : World} {v : Value} {l : List Ty} {b : Int} {B : Nat} (h : IsSl2 rpTy G F w v l) (hz : ∀ t ∈ l, t.size ≤ 400000) (hB : w.cell? ⟨B, 0, none⟩ = some (.int .i64 b)) :
    Calls Tryz.prog 97 #[v, .func (.func 98) #[] #[.pointer (some ⟨B, 0, none⟩)]] w (RetB (∃ t ∈ l, ¬ RightTy b t) w) := by
  have Hi := Lib.hid (indexFunc_k h hz hB)
  obtain ⟨a, c, rfl⟩ := h.shape
  clear h hz hB
  go_enter Tryz.func97, Tryz.ntmps97
  go_wp2_with fail
  refine Hi.out.mono ?_
  rintro e w1 ⟨i, hi, rfl, hb⟩
  go_wp2_with fail
  go_ret
  exact ⟨_, by rw [← hi.out]; simp, rfl, hb⟩

def RightWd (b : Int) (C M : List Ty) : Prop := C.length + M.length ≤ 1000 ∧ ∀ t ∈ C ++ M, RightTy b t

set_option maxRecDepth 100000 in
set_option maxHeartbeats 1000000 in
theorem RightWorld_k {F : Nat → Prop} {w : World} {b : Int} {cv mv : Value} {C M : List Ty} (hc : IsSl rpTy F w cv C) (hm : IsSl rpTy F w mv M) (hz : ∀ t ∈ C ++ M, t.size ≤ 400000) :
    Calls Tryz.prog 55 #[.agg #[.int .i64 b, cv, mv]] w (RetB (RightWd b C M) w) := by
  obtain ⟨ca, cc, rfl⟩ := hc.shape
  obtain ⟨ma, mc, rfl⟩ := hm.shape
  have hlc : (C.length : Int) ≤ 9223372036854775807 := by obtain ⟨_, _, _, _, _, _, h, _⟩ := hc; unfold maxLen at h; omega
  have hlm : (M.length : Int) ≤ 9223372036854775807 := by obtain ⟨_, _, _, _, _, _, h, _⟩ := hm; unfold maxLen at h; omega
  have Hc := Lib.hid hc; have Hm := Lib.hid hm; have Hz := Lib.hid hz
  clear hc hm hz
  by_cases g1 : (1000 : Int) < (C.length : Int)
  · skip
    go_enter Tryz.func55, Tryz.ntmps55
    go_wp2_with fail
    go_ret
    exact ⟨false, by unfold RightWd; simp; omega, rfl, (Below.refl _ _).alloc (Nat.le_refl _) _⟩
  have hq : IntKind.i64.wrap (1000 - (C.length : Int)) = 1000 - (C.length : Int) := IntWalk.i64_in _ (by omega)
  by_cases g2 : 1000 - (C.length : Int) < (M.length : Int)
  · skip
    go_enter Tryz.func55, Tryz.ntmps55
    go_wp2_with fail
    go_ret
    exact ⟨false, by unfold RightWd; simp; omega, rfl, (Below.refl _ _).alloc (Nat.le_refl _) _⟩
  go_enter Tryz.func55, Tryz.ntmps55
  go_wp2_with fail
  obtain ⟨w2, hw2⟩ : ∃ w2, (w.alloc (.cells #[.int .i64 b, .slice ca C.length cc, .slice ma M.length mc] 48)).alloc (.cells #[.slice ca C.length cc, .slice ma M.length mc] 32) = w2 := ⟨_, rfl⟩
  have B2 : Below w.heap.size w w2 := by rw [← hw2]; exact ((Below.refl _ _).alloc (Nat.le_refl _) _).alloc (by simp) _
  have x0 : Blk w2 w.heap.size #[.int .i64 b, .slice ca C.length cc, .slice ma M.length mc] 48 := by rw [← hw2]; exact (Blk.new _ _ _ rfl).alloc _
  have x1 : Blk w2 (w.heap.size + 1) #[.slice ca C.length cc, .slice ma M.length mc] 32 := by rw [← hw2]; exact Blk.new _ _ _ (by simp)
  rw [hw2]
  clear hw2
  refine (concat_any2 x1 (IsSl2.of (Hc.out.bel B2)) (IsSl2.of (Hm.out.bel B2)) (by omega)).mono ?_
  rintro e w3 ⟨a3, c3, rfl, hT, hb3⟩
  have HT := Lib.hid hT; clear hT
  have x0' := x0.below hb3
  have B3 := B2.trans (hb3.mono B2.size)
  obtain ⟨Y, hY⟩ : ∃ Y, C ++ M = Y := ⟨_, rfl⟩
  have HY := Lib.hid hY
  rw [hY] at HT Hz ⊢
  clear hY
  go_wp2_with fail
  refine (containsFunc_k HT.out Hz.out (x0'.cell rfl)).mono ?_
  intro e w4 h
  obtain ⟨r, Hq, rfl, hb4⟩ := of_retB' h
  clear h
  go_wp2_with fail
  go_ret
  refine ⟨_, ?_, rfl, B3.trans (hb4.mono B3.size)⟩
  have h2 : (r = true ↔ ∃ t ∈ Y, ¬ RightTy b t) := Hq.out
  have h3 : C.length + M.length ≤ 1000 := by omega
  unfold RightWd
  rw [HY.out]
  cases r
  · simp only [Bool.not_false, true_iff]
    refine ⟨h3, fun t ht => Classical.not_not.1 fun hn => ?_⟩
    exact absurd (h2.2 ⟨t, ht, hn⟩) (by simp)
  · simp only [Bool.not_true, Bool.false_eq_true, false_iff]
    rintro ⟨_, h⟩
    obtain ⟨t, ht, hn⟩ := h2.1 rfl
    exact hn (h t ht)
end Go.Proofs.YtdmiekaeodcehaaGreat

namespace Go.Proofs.YtdmiekaeodcehaaGreat
open Go.RowKit

set_option maxRecDepth 100000 in
set_option maxHeartbeats 2000000 in
theorem RightWorld_r {F : Nat → Prop} {w : World} {b : Int} {cv mv : Value} {C M : List Ty} (hc : IsSl rpTy F w cv C) (hm : IsSl rpTy F w mv M) :
    Calls Tryz.prog 61 #[.agg #[.int .i64 b, cv, mv]] w (RetB (RightWd b C M) w) := by
  obtain ⟨ca, cc, rfl⟩ := hc.shape
  obtain ⟨ma, mc, rfl⟩ := hm.shape
  have hlc : (C.length : Int) ≤ 9223372036854775807 := by obtain ⟨_, _, _, _, _, _, h, _⟩ := hc; unfold maxLen at h; omega
  have hlm : (M.length : Int) ≤ 9223372036854775807 := by obtain ⟨_, _, _, _, _, _, h, _⟩ := hm; unfold maxLen at h; omega
  have Hc := Lib.hid (sl_at (IsSl2.of hc)); have Hm := Lib.hid (sl_at (IsSl2.of hm))
  clear hc hm
  by_cases g1 : (1000 : Int) < (C.length : Int)
  · skip
    go_enter Tryz.func61, Tryz.ntmps61
    go_wp2_with fail
    go_ret
    exact ⟨false, by unfold RightWd; simp; omega, rfl, (Below.refl _ _).alloc (Nat.le_refl _) _⟩
  have hq : IntKind.i64.wrap (1000 - (C.length : Int)) = 1000 - (C.length : Int) := IntWalk.i64_in _ (by omega)
  by_cases g2 : 1000 - (C.length : Int) < (M.length : Int)
  · skip
    go_enter Tryz.func61, Tryz.ntmps61
    go_wp2_with fail
    go_ret
    exact ⟨false, by unfold RightWd; simp; omega, rfl, (Below.refl _ _).alloc (Nat.le_refl _) _⟩
  go_enter Tryz.func61, Tryz.ntmps61
  go_wp2_with fail
  have hlen : Hid (C.length + M.length ≤ 1000) := by show _ ≤ _; omega
  clear g1 g2 hq
  obtain ⟨w1, hw1⟩ : ∃ w1, w.alloc (.cells #[.int .i64 b, .slice ca C.length cc, .slice ma M.length mc] 54) = w1 := ⟨_, rfl⟩
  have B1 : Below w.heap.size w w1 := by rw [← hw1]; exact (Below.refl _ _).alloc (Nat.le_refl _) _
  have x0 : Blk w1 w.heap.size #[.int .i64 b, .slice ca C.length cc, .slice ma M.length mc] 54 := by rw [← hw1]; exact Blk.new _ _ _ rfl
  rw [hw1]
  clear hw1
  go_loopw [3] (fun i wr => ∃ k : Nat, i = .int .i64 k ∧ k ≤ C.length ∧ Hid (∀ m (h : m < C.length), m < k → RightTy b C[m]) ∧ Below w.heap.size w wr ∧ Blk wr w.heap.size #[.int .i64 b, .slice ca C.length cc, .slice ma M.length mc] 54) (fun i _ => C.length - (intOf i).toNat)
  case atStart => exact ⟨0, rfl, by omega, fun m _ h => absurd h (by omega), B1, x0⟩
  case round =>
    clear B1 x0
    obtain ⟨k, rfl, hk, hrel1, hb, x0_wr⟩ := hrel
    have Hb := Lib.hid hb; clear hb
    by_cases hlt : k < C.length
    · obtain ⟨bl, off, A, N, Cc, Bb, rfl, _, e1, e2, hT⟩ := Hc.out k hlt
      have hkx : Keep (fun _ => True) w wr := (Keep.refl _ _).below Hb.out
      have e1 := hkx _ _ _ trivial e1
      have e2 := hkx _ _ _ trivial e2
      have HT := Lib.hid (hT.bel Hb.out); clear hT
      have i0 : (0 : Int) ≤ (k : Int) := Int.natCast_nonneg _
      have i1 : (k : Int) < (C.length : Int) := by omega
      clear hkx
      have cx00 : wr.cell? ⟨w.heap.size, 0, none⟩ = some (.int .i64 b) := x0_wr.cell rfl
      have cx01 : wr.cell? ⟨w.heap.size, 1, none⟩ = some (.slice (some ⟨bl, off, none⟩) C.length cc) := x0_wr.cell rfl
      have cx02 : wr.cell? ⟨w.heap.size, 2, none⟩ = some (.slice ma M.length mc) := x0_wr.cell rfl
      have lx0 := x0_wr.lt
      go_wp2_with fail
      clear cx00 cx01 cx02 lx0
      refine wp_region_noPanic (wp_region_need (S := fun w' => w'.cell? ⟨w.heap.size, 0, none⟩ = some (.int .i64 b) ∧ w'.cell? ⟨w.heap.size, 1, none⟩ = some (.slice (some ⟨bl, off, none⟩) C.length cc) ∧ w'.cell? ⟨bl, off + k * 2, none⟩ = some (.slice A N Cc) ∧ w'.cell? ⟨bl, off + k * 2 + 1, none⟩ = some (.int .i64 Bb)) (by kernel_rfl) ?_)
      have hS : (wr.drew).cell? ⟨w.heap.size, 0, none⟩ = some (.int .i64 b) ∧ (wr.drew).cell? ⟨w.heap.size, 1, none⟩ = some (.slice (some ⟨bl, off, none⟩) C.length cc) ∧ (wr.drew).cell? ⟨bl, off + k * 2, none⟩ = some (.slice A N Cc) ∧ (wr.drew).cell? ⟨bl, off + k * 2 + 1, none⟩ = some (.int .i64 Bb) := ⟨x0_wr.drew.cell rfl, x0_wr.drew.cell rfl, e1, e2⟩
      refine wpN_take (i := 0) (v := ?v1) rfl (by kernel_rfl) (fun _ _ _ h => h) hS (Or.inl ⟨by rfl, ?hy1⟩) ?hr1
      case hy1 => (intro wS hSw; (try dsimp only at hSw); go_simp; (try with_reducible rfl))
      try simp only [Act.put, List.setIfInBounds_toArray, List.set_cons_zero, List.set_cons_succ, List.getElem_toArray, List.getElem_cons_zero, List.getElem_cons_succ]
      refine wpN_take (i := 1) (v := ?v2) rfl (by kernel_rfl) (fun _ _ _ h => h) hS (Or.inl ⟨by rfl, ?hy2⟩) ?hr2
      case hy2 => (intro wS hSw; (try dsimp only at hSw); go_simp; (try with_reducible rfl))
      try simp only [Act.put, List.setIfInBounds_toArray, List.set_cons_zero, List.set_cons_succ, List.getElem_toArray, List.getElem_cons_zero, List.getElem_cons_succ]
      refine wpN_take (i := 2) (v := ?v3) rfl (by kernel_rfl) (fun _ _ _ h => h) hS (Or.inl ⟨by rfl, ?hy3⟩) ?hr3
      case hy3 => (intro wS hSw; (try dsimp only at hSw); go_simp; (try with_reducible rfl))
      try simp only [Act.put, List.setIfInBounds_toArray, List.set_cons_zero, List.set_cons_succ, List.getElem_toArray, List.getElem_cons_zero, List.getElem_cons_succ]
      refine wpN_take (i := 3) (v := ?v4) rfl (by kernel_rfl) (fun _ _ _ h => h) hS (Or.inl ⟨by rfl, ?hy4⟩) ?hr4
      case hy4 => (intro wS hSw; (try dsimp only at hSw); go_simp; (try with_reducible rfl))
      try simp only [Act.put, List.setIfInBounds_toArray, List.set_cons_zero, List.set_cons_succ, List.getElem_toArray, List.getElem_cons_zero, List.getElem_cons_succ]
      refine wpN_take (i := 4) (v := ?v5) rfl (by kernel_rfl) (fun _ _ _ h => h) hS (Or.inl ⟨by rfl, ?hy5⟩) ?hr5
      case hy5 => (intro wS hSw; (try dsimp only at hSw); go_simp; (try with_reducible rfl))
      try simp only [Act.put, List.setIfInBounds_toArray, List.set_cons_zero, List.set_cons_succ, List.getElem_toArray, List.getElem_cons_zero, List.getElem_cons_succ]
      refine wpN_take (i := 5) (v := ?v6) rfl (by kernel_rfl) (fun _ _ _ h => h) hS (Or.inl ⟨by rfl, ?hy6⟩) ?hr6
      case hy6 => (intro wS hSw; (try dsimp only at hSw); go_simp; (try with_reducible rfl))
      try simp only [Act.put, List.setIfInBounds_toArray, List.set_cons_zero, List.set_cons_succ, List.getElem_toArray, List.getElem_cons_zero, List.getElem_cons_succ]
      refine wpN_take (i := 6) (v := ?v7) rfl (by kernel_rfl) (fun _ _ _ h => h) hS (Or.inl ⟨by rfl, ?hy7⟩) ?hr7
      case hy7 => (intro wS hSw; (try dsimp only at hSw); go_simp; (try with_reducible rfl))
      try simp only [Act.put, List.setIfInBounds_toArray, List.set_cons_zero, List.set_cons_succ, List.getElem_toArray, List.getElem_cons_zero, List.getElem_cons_succ]
      refine wpN_step (i := 7) (by kernel_rfl) rfl (fun K hK => ?_)
      go_simp
      refine (right_r (HT.out.bel (Below.refl _ _).drew) b).mono ?_
      intro e v h
      obtain ⟨r, Hr, rfl, hbx0⟩ := of_retB' h
      clear h
      have hbx : Below wr.heap.size wr v := (Below.refl _ _).drew.trans hbx0
      have hkx : Keep (fun _ => True) wr v := (Keep.refl _ _).below hbx
      have x0_v := x0_wr.below hbx
      have Hbv := Lib.hid (Hb.out.trans (hbx.mono Hb.out.size))
      have hS : (v).cell? ⟨w.heap.size, 0, none⟩ = some (.int .i64 b) ∧ (v).cell? ⟨w.heap.size, 1, none⟩ = some (.slice (some ⟨bl, off, none⟩) C.length cc) ∧ (v).cell? ⟨bl, off + k * 2, none⟩ = some (.slice A N Cc) ∧ (v).cell? ⟨bl, off + k * 2 + 1, none⟩ = some (.int .i64 Bb) := ⟨x0_v.cell rfl, x0_v.cell rfl, hkx _ _ _ trivial e1, hkx _ _ _ trivial e2⟩
      clear hkx hbx hbx0 e1 e2 x0_wr
      refine hK.out _ _ (fun _ => hS) ?_
      clear hK K
      try simp only [Act.put, List.setIfInBounds_toArray, List.set_cons_zero, List.set_cons_succ, List.getElem_toArray, List.getElem_cons_zero, List.getElem_cons_succ]
      refine wpN_take (i := 8) (v := ?v8) rfl (by kernel_rfl) (fun _ _ _ h => h) hS (Or.inl ⟨by rfl, ?hy8⟩) ?hr8
      case hy8 => (intro wS hSw; (try dsimp only at hSw); go_simp; (try with_reducible rfl))
      try simp only [Act.put, List.setIfInBounds_toArray, List.set_cons_zero, List.set_cons_succ, List.getElem_toArray, List.getElem_cons_zero, List.getElem_cons_succ]
      refine wpN_done (by kernel_rfl) ?_
      refine NoPanic.normal ?_
      clear hS
      cases r
      · have hn := Lib.hid (no_of Hr.out)
        go_wp2_with fail
        go_ret
        exact ⟨false, by
          simp only [Bool.false_eq_true, false_iff]
          rintro ⟨_, h⟩
          exact hn.out (h _ (List.mem_append_left _ (List.getElem_mem hlt))), rfl, Hbv.out⟩
      · have Hy := Lib.hid (yes_of Hr.out)
        go_wp2_with fail
        go_roundw
        case rel => exact ⟨k + 1, by go_num, by omega, fun m h hm => by
          by_cases hmk : m < k
          · exact hrel1.out m h hmk
          · obtain rfl : m = k := by omega
            exact Hy.out, Hbv.out, x0_v⟩
        case measure => simp [intOf]; omega
    · have Hall : Hid (∀ m (h : m < C.length), RightTy b C[m]) := fun m h => hrel1.out m h (by omega)
      have cx00 : wr.cell? ⟨w.heap.size, 0, none⟩ = some (.int .i64 b) := x0_wr.cell rfl
      have cx01 : wr.cell? ⟨w.heap.size, 1, none⟩ = some (.slice ca C.length cc) := x0_wr.cell rfl
      have cx02 : wr.cell? ⟨w.heap.size, 2, none⟩ = some (.slice ma M.length mc) := x0_wr.cell rfl
      have lx0 := x0_wr.lt
      go_wp2_with fail
      clear cx00 cx01 cx02 lx0
      go_loopw [4] (fun i wr => ∃ k : Nat, i = .int .i64 k ∧ k ≤ M.length ∧ Hid (∀ m (h : m < M.length), m < k → RightTy b M[m]) ∧ Below w.heap.size w wr ∧ Blk wr w.heap.size #[.int .i64 b, .slice ca C.length cc, .slice ma M.length mc] 54) (fun i _ => M.length - (intOf i).toNat)
      case atStart => exact ⟨0, rfl, by omega, fun m _ h => absurd h (by omega), Hb.out, x0_wr⟩
      case round =>
        clear Hb x0_wr hrel1 hk hlt
        obtain ⟨k, rfl, hk, hrel, hb, x0_wr⟩ := hrel
        have Hb := Lib.hid hb; clear hb
        by_cases hlt : k < M.length
        · obtain ⟨bl, off, A, N, Cc, Bb, rfl, _, e1, e2, hT⟩ := Hm.out k hlt
          have hkx : Keep (fun _ => True) w wr := (Keep.refl _ _).below Hb.out
          have e1 := hkx _ _ _ trivial e1
          have e2 := hkx _ _ _ trivial e2
          have HT := Lib.hid (hT.bel Hb.out); clear hT
          have i0 : (0 : Int) ≤ (k : Int) := Int.natCast_nonneg _
          have i1 : (k : Int) < (M.length : Int) := by omega
          clear hkx
          have cx00 : wr.cell? ⟨w.heap.size, 0, none⟩ = some (.int .i64 b) := x0_wr.cell rfl
          have cx01 : wr.cell? ⟨w.heap.size, 1, none⟩ = some (.slice ca C.length cc) := x0_wr.cell rfl
          have cx02 : wr.cell? ⟨w.heap.size, 2, none⟩ = some (.slice (some ⟨bl, off, none⟩) M.length mc) := x0_wr.cell rfl
          have lx0 := x0_wr.lt
          go_wp2_with fail
          clear cx00 cx01 cx02 lx0
          refine wp_region_noPanic (wp_region_need (S := fun w' => w'.cell? ⟨w.heap.size, 0, none⟩ = some (.int .i64 b) ∧ w'.cell? ⟨w.heap.size, 2, none⟩ = some (.slice (some ⟨bl, off, none⟩) M.length mc) ∧ w'.cell? ⟨bl, off + k * 2, none⟩ = some (.slice A N Cc) ∧ w'.cell? ⟨bl, off + k * 2 + 1, none⟩ = some (.int .i64 Bb)) (by kernel_rfl) ?_)
          have hS : (wr.drew).cell? ⟨w.heap.size, 0, none⟩ = some (.int .i64 b) ∧ (wr.drew).cell? ⟨w.heap.size, 2, none⟩ = some (.slice (some ⟨bl, off, none⟩) M.length mc) ∧ (wr.drew).cell? ⟨bl, off + k * 2, none⟩ = some (.slice A N Cc) ∧ (wr.drew).cell? ⟨bl, off + k * 2 + 1, none⟩ = some (.int .i64 Bb) := ⟨x0_wr.drew.cell rfl, x0_wr.drew.cell rfl, e1, e2⟩
          refine wpN_take (i := 0) (v := ?v9) rfl (by kernel_rfl) (fun _ _ _ h => h) hS (Or.inl ⟨by rfl, ?hy9⟩) ?hr9
          case hy9 => (intro wS hSw; (try dsimp only at hSw); go_simp; (try with_reducible rfl))
          try simp only [Act.put, List.setIfInBounds_toArray, List.set_cons_zero, List.set_cons_succ, List.getElem_toArray, List.getElem_cons_zero, List.getElem_cons_succ]
          refine wpN_take (i := 1) (v := ?v10) rfl (by kernel_rfl) (fun _ _ _ h => h) hS (Or.inl ⟨by rfl, ?hy10⟩) ?hr10
          case hy10 => (intro wS hSw; (try dsimp only at hSw); go_simp; (try with_reducible rfl))
          try simp only [Act.put, List.setIfInBounds_toArray, List.set_cons_zero, List.set_cons_succ, List.getElem_toArray, List.getElem_cons_zero, List.getElem_cons_succ]
          refine wpN_take (i := 2) (v := ?v11) rfl (by kernel_rfl) (fun _ _ _ h => h) hS (Or.inl ⟨by rfl, ?hy11⟩) ?hr11
          case hy11 => (intro wS hSw; (try dsimp only at hSw); go_simp; (try with_reducible rfl))
          try simp only [Act.put, List.setIfInBounds_toArray, List.set_cons_zero, List.set_cons_succ, List.getElem_toArray, List.getElem_cons_zero, List.getElem_cons_succ]
          refine wpN_take (i := 3) (v := ?v12) rfl (by kernel_rfl) (fun _ _ _ h => h) hS (Or.inl ⟨by rfl, ?hy12⟩) ?hr12
          case hy12 => (intro wS hSw; (try dsimp only at hSw); go_simp; (try with_reducible rfl))
          try simp only [Act.put, List.setIfInBounds_toArray, List.set_cons_zero, List.set_cons_succ, List.getElem_toArray, List.getElem_cons_zero, List.getElem_cons_succ]
          refine wpN_take (i := 4) (v := ?v13) rfl (by kernel_rfl) (fun _ _ _ h => h) hS (Or.inl ⟨by rfl, ?hy13⟩) ?hr13
          case hy13 => (intro wS hSw; (try dsimp only at hSw); go_simp; (try with_reducible rfl))
          try simp only [Act.put, List.setIfInBounds_toArray, List.set_cons_zero, List.set_cons_succ, List.getElem_toArray, List.getElem_cons_zero, List.getElem_cons_succ]
          refine wpN_take (i := 5) (v := ?v14) rfl (by kernel_rfl) (fun _ _ _ h => h) hS (Or.inl ⟨by rfl, ?hy14⟩) ?hr14
          case hy14 => (intro wS hSw; (try dsimp only at hSw); go_simp; (try with_reducible rfl))
          try simp only [Act.put, List.setIfInBounds_toArray, List.set_cons_zero, List.set_cons_succ, List.getElem_toArray, List.getElem_cons_zero, List.getElem_cons_succ]
          refine wpN_take (i := 6) (v := ?v15) rfl (by kernel_rfl) (fun _ _ _ h => h) hS (Or.inl ⟨by rfl, ?hy15⟩) ?hr15
          case hy15 => (intro wS hSw; (try dsimp only at hSw); go_simp; (try with_reducible rfl))
          try simp only [Act.put, List.setIfInBounds_toArray, List.set_cons_zero, List.set_cons_succ, List.getElem_toArray, List.getElem_cons_zero, List.getElem_cons_succ]
          refine wpN_step (i := 7) (by kernel_rfl) rfl (fun K hK => ?_)
          go_simp
          refine (right_r (HT.out.bel (Below.refl _ _).drew) b).mono ?_
          intro e v h
          obtain ⟨r, Hr, rfl, hbx0⟩ := of_retB' h
          clear h
          have hbx : Below wr.heap.size wr v := (Below.refl _ _).drew.trans hbx0
          have hkx : Keep (fun _ => True) wr v := (Keep.refl _ _).below hbx
          have x0_v := x0_wr.below hbx
          have Hbv := Lib.hid (Hb.out.trans (hbx.mono Hb.out.size))
          have hS : (v).cell? ⟨w.heap.size, 0, none⟩ = some (.int .i64 b) ∧ (v).cell? ⟨w.heap.size, 2, none⟩ = some (.slice (some ⟨bl, off, none⟩) M.length mc) ∧ (v).cell? ⟨bl, off + k * 2, none⟩ = some (.slice A N Cc) ∧ (v).cell? ⟨bl, off + k * 2 + 1, none⟩ = some (.int .i64 Bb) := ⟨x0_v.cell rfl, x0_v.cell rfl, hkx _ _ _ trivial e1, hkx _ _ _ trivial e2⟩
          clear hkx hbx hbx0 e1 e2 x0_wr
          refine hK.out _ _ (fun _ => hS) ?_
          clear hK K
          try simp only [Act.put, List.setIfInBounds_toArray, List.set_cons_zero, List.set_cons_succ, List.getElem_toArray, List.getElem_cons_zero, List.getElem_cons_succ]
          refine wpN_take (i := 8) (v := ?v16) rfl (by kernel_rfl) (fun _ _ _ h => h) hS (Or.inl ⟨by rfl, ?hy16⟩) ?hr16
          case hy16 => (intro wS hSw; (try dsimp only at hSw); go_simp; (try with_reducible rfl))
          try simp only [Act.put, List.setIfInBounds_toArray, List.set_cons_zero, List.set_cons_succ, List.getElem_toArray, List.getElem_cons_zero, List.getElem_cons_succ]
          refine wpN_done (by kernel_rfl) ?_
          refine NoPanic.normal ?_
          clear hS
          cases r
          · have hn := Lib.hid (no_of Hr.out)
            go_wp2_with fail
            go_ret
            exact ⟨false, by
              simp only [Bool.false_eq_true, false_iff]
              rintro ⟨_, h⟩
              exact hn.out (h _ (List.mem_append_right _ (List.getElem_mem hlt))), rfl, Hbv.out⟩
          · have Hy := Lib.hid (yes_of Hr.out)
            go_wp2_with fail
            go_roundw
            case rel => exact ⟨k + 1, by go_num, by omega, fun m h hm => by
              by_cases hmk : m < k
              · exact hrel.out m h hmk
              · obtain rfl : m = k := by omega
                exact Hy.out, Hbv.out, x0_v⟩
            case measure => simp [intOf]; omega
        · have Hall2 : Hid (∀ m (h : m < M.length), RightTy b M[m]) := fun m h => hrel.out m h (by omega)
          have cx00 : wr.cell? ⟨w.heap.size, 0, none⟩ = some (.int .i64 b) := x0_wr.cell rfl
          have cx01 : wr.cell? ⟨w.heap.size, 1, none⟩ = some (.slice ca C.length cc) := x0_wr.cell rfl
          have cx02 : wr.cell? ⟨w.heap.size, 2, none⟩ = some (.slice ma M.length mc) := x0_wr.cell rfl
          have lx0 := x0_wr.lt
          go_wp2_with fail
          go_ret
          exact ⟨true, by
            simp only [true_iff]
            refine ⟨hlen.out, fun t ht => ?_⟩
            rcases List.mem_append.1 ht with ht | ht
            · obtain ⟨m, hm, rfl⟩ := List.getElem_of_mem ht
              exact Hall.out m hm
            · obtain ⟨m, hm, rfl⟩ := List.getElem_of_mem ht
              exact Hall2.out m hm, rfl, Hb.out⟩

end Go.Proofs.YtdmiekaeodcehaaGreat

namespace Go.Proofs.YtdmiekaeodcehaaGreat
open Go.RowKit

section
variable {w : World} {b : Int} {cv mv xv tb tk ti ta s ub : Value} {C M X : List Ty} {t : Tm} {u : Ty}
end
end Go.Proofs.YtdmiekaeodcehaaGreat

namespace Go.Proofs.YtdmiekaeodcehaaGreat
open Go.RowKit

theorem isTrue {F : Nat → Prop} {w : World} {v : Value} {l : List Ty} (h : IsSl rpTy F w v l) : IsSl rpTy (fun _ => True) w v l := h.weaken (by decide) fun _ _ _ => trivial
theorem slTy9 {m : Mp} {Im : Nat → Nat → Prop} {w : World} {v : Value} {l : List Ty} (h : Rel m Im w v (.sl 2 (eTys l) none)) : IsSl rpTy (fun _ => True) w v l :=
  isTrue (sl_of_rel (r := rpTy) (e := eTy) eTy_len (fun x t hx _ => ty_of_rel t hx) (by decide) (by rw [eTys_map] at h; exact h))
theorem agWorld {m : Mp} {Im : Nat → Nat → Prop} {w : World} {x : Value} {b : Int} {C M : List Ty} (h : Rel m Im w x (.ag [.v (.int .i64 b), .sl 2 (eTys C) none, .sl 2 (eTys M) none])) : ∃ cv mv, x = .agg #[.int .i64 b, cv, mv] ∧ IsSl rpTy (fun _ => True) w cv C ∧ IsSl rpTy (fun _ => True) w mv M := by
  obtain ⟨cs, rfl, hr⟩ := rel_ag.1 h
  match cs, hr with
  | [x, y, z], hr =>
    have := rel_v.1 hr.1; subst this
    exact ⟨y, z, rfl, slTy9 hr.2.1, slTy9 hr.2.2.1⟩
theorem tyZ_eq : eTy tyZ = [.sl 2 [] none, .v (.int .i64 0)] := rfl
end Go.Proofs.YtdmiekaeodcehaaGreat

namespace Go.Proofs.YtdmiekaeodcehaaGreat
open Go.RowKit
def TRT6_75 : TI := ⟨2, true, [Value.slice none 0 0, Value.int IntKind.i64 0], [(0, 1, false), (1, 1, false)], none, 32, 6, none, false⟩
theorem TRT6_75_ok : TypOk Tryz.prog 75 TRT6_75 := ⟨by kernel_rfl, by kernel_rfl, by kernel_rfl, by kernel_rfl, by kernel_rfl⟩
def TRT6_32 : TI := ⟨1, false, [Value.slice none 0 0], [], some 75, 24, 5, none, false⟩
theorem TRT6_32_ok : TypOk Tryz.prog 32 TRT6_32 := ⟨by kernel_rfl, by kernel_rfl, by kernel_rfl, by kernel_rfl, by kernel_rfl⟩
def TRT6_3 : TI := ⟨1, false, [Value.int IntKind.i64 0], [], none, 8, 2, none, false⟩
theorem TRT6_3_ok : TypOk Tryz.prog 3 TRT6_3 := ⟨by kernel_rfl, by kernel_rfl, by kernel_rfl, by kernel_rfl, by kernel_rfl⟩
def TRT6_36 : TI := ⟨4, true, [Value.slice none 0 0, Value.int IntKind.i64 0, Value.int IntKind.i64 0, Value.slice none 0 0], [(0, 1, false), (1, 2, true), (3, 1, false)], none, 64, 6, none, false⟩
theorem TRT6_36_ok : TypOk Tryz.prog 36 TRT6_36 := ⟨by kernel_rfl, by kernel_rfl, by kernel_rfl, by kernel_rfl, by kernel_rfl⟩
def TRT6_48 : TI := ⟨3, true, [Value.int IntKind.i64 0, Value.slice none 0 0, Value.slice none 0 0], [(0, 1, false), (1, 1, false), (2, 1, false)], none, 56, 6, none, false⟩
theorem TRT6_48_ok : TypOk Tryz.prog 48 TRT6_48 := ⟨by kernel_rfl, by kernel_rfl, by kernel_rfl, by kernel_rfl, by kernel_rfl⟩
def TRT6_33 : TI := ⟨2, true, [Value.int IntKind.i64 0, Value.int IntKind.i64 0], [(0, 1, false), (1, 1, false)], none, 16, 6, none, true⟩
theorem TRT6_33_ok : TypOk Tryz.prog 33 TRT6_33 := ⟨by kernel_rfl, by kernel_rfl, by kernel_rfl, by kernel_rfl, by kernel_rfl⟩
def TRT6_34 : TI := ⟨1, false, [Value.slice none 0 0], [], some 36, 24, 5, none, false⟩
theorem TRT6_34_ok : TypOk Tryz.prog 34 TRT6_34 := ⟨by kernel_rfl, by kernel_rfl, by kernel_rfl, by kernel_rfl, by kernel_rfl⟩
def TRT6_175 : TI := ⟨1, false, [Value.slice none 0 0], [], some 32, 24, 5, none, false⟩
theorem TRT6_175_ok : TypOk Tryz.prog 175 TRT6_175 := ⟨by kernel_rfl, by kernel_rfl, by kernel_rfl, by kernel_rfl, by kernel_rfl⟩
def TRT6_98 : TI := ⟨1, false, [Value.nilFunc], [], none, 8, 8, none, false⟩
theorem TRT6_98_ok : TypOk Tryz.prog 98 TRT6_98 := ⟨by kernel_rfl, by kernel_rfl, by kernel_rfl, by kernel_rfl, by kernel_rfl⟩
def TRT6 : List (Nat × TI) := [(75, TRT6_75), (32, TRT6_32), (3, TRT6_3), (36, TRT6_36), (48, TRT6_48), (33, TRT6_33), (34, TRT6_34), (175, TRT6_175), (98, TRT6_98)]
theorem TRT6_ok : TabOk Tryz.prog TRT6 := ((((((((((TabOk.nil _).cons TRT6_98_ok).cons TRT6_175_ok).cons TRT6_34_ok).cons TRT6_33_ok).cons TRT6_48_ok).cons TRT6_36_ok).cons TRT6_3_ok).cons TRT6_32_ok).cons TRT6_75_ok)
def tyOf (C M : List Ty) (t : Tm) : Option Ty := (headTy C M ([] ++ t.binds) t.kind t.index).map fun h => .mk t.binds h.base
theorem isOf_no {C M X : List Ty} {b : List Ty} {k i : Int} {a : List Tm} {u : Ty} (h : ∀ x, headTy C M (X ++ b) k i = some x → b = u.args → x.base = u.base → x.args.length = a.length → False) : ¬ IsOf C M (.mk b k i a) X u := fun hi => by
  obtain ⟨h1, x, h2, h3, h4⟩ := isOf_mk.1 hi
  exact h x h2 h1 h3 (isOfs_iff.1 h4).1
theorem within_d (l r : List Ty) (h : l.length + r.length ≤ 800000) : PureC Tryz.prog 102 [.sl 2 (eTys l) none, .sl 2 (eTys r) none] (.sl 2 (eTys (l ++ r)) none) := by
 have hcat := concat_d [l, r] (by simp [lens]; omega) (by simp)
 simp only [List.flatten_cons, List.flatten_nil, List.append_nil] at hcat
 refine calldw 0 9 [ResultVar.tmp 4] TRT6_ok Tryz.func102 rfl Tryz.ntmps102 rfl fun cx hnt hn0 => ?_
 ·skip
  refine dw_seq ?_; refine dwk [] TRT6_ok hnt fun K hK => ?_; refine hK _ _ ?_; clear hK K; refine dw_seq ?_; refine dwk [(7, .sl 1 (eTyss [l, r]) none)] TRT6_ok hnt fun K hK => ?_; refine And.intro (VLe.untag _ _ _) ?_; refine dcl (hcat) ?_; refine hK _ _ ?_; clear hK K; refine dw_ret ?_
  exact reta rfl
set_option maxHeartbeats 2000000 in
theorem theadA_d (b : Int) (C M X : List Ty) (k i : Int) (hi : i ≤ 9223372036854775807) (hC : C.length ≤ 1000000) (hM : M.length ≤ 1000000) (hX : X.length ≤ 1000000) : PureC Tryz.prog 101 [.ag [.v (.int .i64 b), .sl 2 (eTys C) none, .sl 2 (eTys M) none], .sl 2 (eTys X) none, .ag [.v (.int .i64 k), .v (.int .i64 i)]] (.tu [.ag (eTy ((headTy C M X k i).getD tyZ)), .v (.bool (headTy C M X k i).isSome)]) := by
 by_cases k1 : k = 1
 ·skip
  subst k1
  by_cases hn : i < 0
  ·rw [headTy_neg hn]
   simp only [Option.getD_none, Option.isSome_none]
   rw [tyZ_eq]
   refine calldw 0 51 [ResultVar.cell 6 75, ResultVar.tmp 7] TRT6_ok Tryz.func101 rfl Tryz.ntmps101 rfl fun cx hnt hn0 => ?_
   ·skip
    refine dw_seq ?_; refine dwk [] TRT6_ok hnt fun K hK => ?_; refine hK _ _ ?_; clear hK K; refine dw_seq ?_; refine dwk [] TRT6_ok hnt fun K hK => ?_; refine hK _ _ ?_; clear hK K; refine dw_seq ?_; refine dwk [] TRT6_ok hnt fun K hK => ?_; refine hK _ _ ?_; clear hK K; refine dw_seq ?_; refine dw_seq ?_; refine dwk [] TRT6_ok hnt fun K hK => ?_; refine hK _ _ ?_; clear hK K; refine dw_block ?_; refine dw_seq ?_
    refine dwk [(21, .v (.bool true))] TRT6_ok hnt fun K hK => ?_; refine And.intro (VLe.refl _) ?_; refine hK _ _ ?_; clear hK K; refine dw_cond (t := true) rfl ?_; rw [if_pos rfl]; refine dwkD [] TRT6_ok hnt fun K hK => ?_; refine hK _ _ (by kernel_rfl) ?_; clear hK K; refine dw_seq ?_; refine dw_seq ?_; refine dwk [(39, .v (.bool true))] TRT6_ok hnt fun K hK => ?_; refine And.intro auT ?_; refine hK _ _ ?_; clear hK K
    refine dw_cond (t := true) rfl ?_; rw [if_pos rfl]; refine dw_seq ?_; refine dwk [] TRT6_ok hnt fun K hK => ?_; refine hK _ _ ?_; clear hK K; refine dw_ret ?_
    exact reta rfl
  ·obtain ⟨n, rfl⟩ := Int.eq_ofNat_of_zero_le (Int.not_lt.1 hn)
   rw [headTy_1]
   by_cases hl : n < C.length
   ·rw [List.getElem?_eq_getElem hl]
    simp only [Option.getD_some, Option.isSome_some]
    rw [eTy_eq]
    refine calldw 0 51 [ResultVar.cell 6 75, ResultVar.tmp 7] TRT6_ok Tryz.func101 rfl Tryz.ntmps101 rfl fun cx hnt hn0 => ?_
    ·skip
     refine dw_seq ?_; refine dwk [] TRT6_ok hnt fun K hK => ?_; refine hK _ _ ?_; clear hK K; refine dw_seq ?_; refine dwk [] TRT6_ok hnt fun K hK => ?_; refine hK _ _ ?_; clear hK K; refine dw_seq ?_; refine dwk [] TRT6_ok hnt fun K hK => ?_; refine hK _ _ ?_; clear hK K; refine dw_seq ?_; refine dw_seq ?_; refine dwk [] TRT6_ok hnt fun K hK => ?_; refine hK _ _ ?_; clear hK K; refine dw_block ?_; refine dw_seq ?_
     refine dwk [(21, .v (.bool true))] TRT6_ok hnt fun K hK => ?_; refine And.intro (VLe.refl _) ?_; refine hK _ _ ?_; clear hK K; refine dw_cond (t := true) rfl ?_; rw [if_pos rfl]; refine dwkD [] TRT6_ok hnt fun K hK => ?_; refine hK _ _ (by kernel_rfl) ?_; clear hK K; refine dw_seq ?_; refine dw_seq ?_; refine dwk [(39, .v (.bool false)), (43, .v (.int .i64 (↑C.length))), (44, .v (.bool false))] TRT6_ok hnt fun K hK => ?_
     refine And.intro auF ?_; refine And.intro (dintE (by rw [eTys_len])) ?_; refine And.intro auF ?_; refine hK _ _ ?_; clear hK K; refine dw_cond (t := false) rfl ?_; rw [if_neg (by simp)]; refine dw_skip ?_; refine dw_seq ?_; refine dwk [(49, .q [.sl 2 (eTys C[n].args) none, .v (.int .i64 C[n].base)])] TRT6_ok hnt fun K hK => ?_; refine And.intro (elo (eTys_len C)) ?_; refine And.intro (elv (eTys_getD C n) (eTy_eq _)) ?_
     refine hK _ _ ?_; clear hK K; refine dw_ret ?_
     exact reta rfl
   ·rw [List.getElem?_eq_none (by omega)]
    simp only [Option.getD_none, Option.isSome_none]
    rw [tyZ_eq]
    refine calldw 0 51 [ResultVar.cell 6 75, ResultVar.tmp 7] TRT6_ok Tryz.func101 rfl Tryz.ntmps101 rfl fun cx hnt hn0 => ?_
    ·skip
     refine dw_seq ?_; refine dwk [] TRT6_ok hnt fun K hK => ?_; refine hK _ _ ?_; clear hK K; refine dw_seq ?_; refine dwk [] TRT6_ok hnt fun K hK => ?_; refine hK _ _ ?_; clear hK K; refine dw_seq ?_; refine dwk [] TRT6_ok hnt fun K hK => ?_; refine hK _ _ ?_; clear hK K; refine dw_seq ?_; refine dw_seq ?_; refine dwk [] TRT6_ok hnt fun K hK => ?_; refine hK _ _ ?_; clear hK K; refine dw_block ?_; refine dw_seq ?_
     refine dwk [(21, .v (.bool true))] TRT6_ok hnt fun K hK => ?_; refine And.intro (VLe.refl _) ?_; refine hK _ _ ?_; clear hK K; refine dw_cond (t := true) rfl ?_; rw [if_pos rfl]; refine dwkD [] TRT6_ok hnt fun K hK => ?_; refine hK _ _ (by kernel_rfl) ?_; clear hK K; refine dw_seq ?_; refine dw_seq ?_; refine dwk [(39, .v (.bool false)), (43, .v (.int .i64 (↑C.length))), (44, .v (.bool true))] TRT6_ok hnt fun K hK => ?_
     refine And.intro auF ?_; refine And.intro (dintE (by rw [eTys_len])) ?_; refine And.intro auT ?_; refine hK _ _ ?_; clear hK K; refine dw_cond (t := true) rfl ?_; rw [if_pos rfl]; refine dw_seq ?_; refine dwk [] TRT6_ok hnt fun K hK => ?_; refine hK _ _ ?_; clear hK K; refine dw_ret ?_
     exact reta rfl
 by_cases k2 : k = 2
 ·skip
  subst k2
  by_cases hn : i < 0
  ·rw [headTy_neg hn]
   simp only [Option.getD_none, Option.isSome_none]
   rw [tyZ_eq]
   refine calldw 0 51 [ResultVar.cell 6 75, ResultVar.tmp 7] TRT6_ok Tryz.func101 rfl Tryz.ntmps101 rfl fun cx hnt hn0 => ?_
   ·skip
    refine dw_seq ?_; refine dwk [] TRT6_ok hnt fun K hK => ?_; refine hK _ _ ?_; clear hK K; refine dw_seq ?_; refine dwk [] TRT6_ok hnt fun K hK => ?_; refine hK _ _ ?_; clear hK K; refine dw_seq ?_; refine dwk [] TRT6_ok hnt fun K hK => ?_; refine hK _ _ ?_; clear hK K; refine dw_seq ?_; refine dw_seq ?_; refine dwk [] TRT6_ok hnt fun K hK => ?_; refine hK _ _ ?_; clear hK K; refine dw_block ?_; refine dw_seq ?_
    refine dwk [(21, .v (.bool false))] TRT6_ok hnt fun K hK => ?_; refine And.intro (VLe.refl _) ?_; refine hK _ _ ?_; clear hK K; refine dw_cond (t := false) rfl ?_; rw [if_neg (by simp)]; refine dw_seq ?_; refine dwk [(27, .v (.bool true))] TRT6_ok hnt fun K hK => ?_; refine And.intro (VLe.refl _) ?_; refine hK _ _ ?_; clear hK K; refine dw_cond (t := true) rfl ?_; rw [if_pos rfl]; refine dwkD [] TRT6_ok hnt fun K hK => ?_
    refine hK _ _ (by kernel_rfl) ?_; clear hK K; refine dw_seq ?_; refine dw_seq ?_; refine dwk [(39, .v (.bool true))] TRT6_ok hnt fun K hK => ?_; refine And.intro auT ?_; refine hK _ _ ?_; clear hK K; refine dw_cond (t := true) rfl ?_; rw [if_pos rfl]; refine dw_seq ?_; refine dwk [] TRT6_ok hnt fun K hK => ?_; refine hK _ _ ?_; clear hK K; refine dw_ret ?_
    exact reta rfl
  ·obtain ⟨n, rfl⟩ := Int.eq_ofNat_of_zero_le (Int.not_lt.1 hn)
   rw [headTy_2]
   by_cases hl : n < M.length
   ·rw [List.getElem?_eq_getElem hl]
    simp only [Option.getD_some, Option.isSome_some]
    rw [eTy_eq]
    refine calldw 0 51 [ResultVar.cell 6 75, ResultVar.tmp 7] TRT6_ok Tryz.func101 rfl Tryz.ntmps101 rfl fun cx hnt hn0 => ?_
    ·skip
     refine dw_seq ?_; refine dwk [] TRT6_ok hnt fun K hK => ?_; refine hK _ _ ?_; clear hK K; refine dw_seq ?_; refine dwk [] TRT6_ok hnt fun K hK => ?_; refine hK _ _ ?_; clear hK K; refine dw_seq ?_; refine dwk [] TRT6_ok hnt fun K hK => ?_; refine hK _ _ ?_; clear hK K; refine dw_seq ?_; refine dw_seq ?_; refine dwk [] TRT6_ok hnt fun K hK => ?_; refine hK _ _ ?_; clear hK K; refine dw_block ?_; refine dw_seq ?_
     refine dwk [(21, .v (.bool false))] TRT6_ok hnt fun K hK => ?_; refine And.intro (VLe.refl _) ?_; refine hK _ _ ?_; clear hK K; refine dw_cond (t := false) rfl ?_; rw [if_neg (by simp)]; refine dw_seq ?_; refine dwk [(27, .v (.bool true))] TRT6_ok hnt fun K hK => ?_; refine And.intro (VLe.refl _) ?_; refine hK _ _ ?_; clear hK K; refine dw_cond (t := true) rfl ?_; rw [if_pos rfl]; refine dwkD [] TRT6_ok hnt fun K hK => ?_
     refine hK _ _ (by kernel_rfl) ?_; clear hK K; refine dw_seq ?_; refine dw_seq ?_; refine dwk [(39, .v (.bool false)), (43, .v (.int .i64 (↑M.length))), (44, .v (.bool false))] TRT6_ok hnt fun K hK => ?_; refine And.intro auF ?_; refine And.intro (dintE (by rw [eTys_len])) ?_; refine And.intro auF ?_; refine hK _ _ ?_; clear hK K; refine dw_cond (t := false) rfl ?_; rw [if_neg (by simp)]; refine dw_skip ?_
     refine dw_seq ?_; refine dwk [(49, .q [.sl 2 (eTys M[n].args) none, .v (.int .i64 M[n].base)])] TRT6_ok hnt fun K hK => ?_; refine And.intro (elo (eTys_len M)) ?_; refine And.intro (elv (eTys_getD M n) (eTy_eq _)) ?_; refine hK _ _ ?_; clear hK K; refine dw_ret ?_
     exact reta rfl
   ·rw [List.getElem?_eq_none (by omega)]
    simp only [Option.getD_none, Option.isSome_none]
    rw [tyZ_eq]
    refine calldw 0 51 [ResultVar.cell 6 75, ResultVar.tmp 7] TRT6_ok Tryz.func101 rfl Tryz.ntmps101 rfl fun cx hnt hn0 => ?_
    ·skip
     refine dw_seq ?_; refine dwk [] TRT6_ok hnt fun K hK => ?_; refine hK _ _ ?_; clear hK K; refine dw_seq ?_; refine dwk [] TRT6_ok hnt fun K hK => ?_; refine hK _ _ ?_; clear hK K; refine dw_seq ?_; refine dwk [] TRT6_ok hnt fun K hK => ?_; refine hK _ _ ?_; clear hK K; refine dw_seq ?_; refine dw_seq ?_; refine dwk [] TRT6_ok hnt fun K hK => ?_; refine hK _ _ ?_; clear hK K; refine dw_block ?_; refine dw_seq ?_
     refine dwk [(21, .v (.bool false))] TRT6_ok hnt fun K hK => ?_; refine And.intro (VLe.refl _) ?_; refine hK _ _ ?_; clear hK K; refine dw_cond (t := false) rfl ?_; rw [if_neg (by simp)]; refine dw_seq ?_; refine dwk [(27, .v (.bool true))] TRT6_ok hnt fun K hK => ?_; refine And.intro (VLe.refl _) ?_; refine hK _ _ ?_; clear hK K; refine dw_cond (t := true) rfl ?_; rw [if_pos rfl]; refine dwkD [] TRT6_ok hnt fun K hK => ?_
     refine hK _ _ (by kernel_rfl) ?_; clear hK K; refine dw_seq ?_; refine dw_seq ?_; refine dwk [(39, .v (.bool false)), (43, .v (.int .i64 (↑M.length))), (44, .v (.bool true))] TRT6_ok hnt fun K hK => ?_; refine And.intro auF ?_; refine And.intro (dintE (by rw [eTys_len])) ?_; refine And.intro auT ?_; refine hK _ _ ?_; clear hK K; refine dw_cond (t := true) rfl ?_; rw [if_pos rfl]; refine dw_seq ?_; refine dwk [] TRT6_ok hnt fun K hK => ?_
     refine hK _ _ ?_; clear hK K; refine dw_ret ?_
     exact reta rfl
 by_cases k0 : k = 0
 ·subst k0
  by_cases hn : i < 0
  ·rw [headTy_neg hn]
   simp only [Option.getD_none, Option.isSome_none]
   rw [tyZ_eq]
   refine calldw 0 51 [ResultVar.cell 6 75, ResultVar.tmp 7] TRT6_ok Tryz.func101 rfl Tryz.ntmps101 rfl fun cx hnt hn0 => ?_
   ·skip
    refine dw_seq ?_; refine dwk [] TRT6_ok hnt fun K hK => ?_; refine hK _ _ ?_; clear hK K; refine dw_seq ?_; refine dwk [] TRT6_ok hnt fun K hK => ?_; refine hK _ _ ?_; clear hK K; refine dw_seq ?_; refine dwk [] TRT6_ok hnt fun K hK => ?_; refine hK _ _ ?_; clear hK K; refine dw_seq ?_; refine dw_seq ?_; refine dwk [] TRT6_ok hnt fun K hK => ?_; refine hK _ _ ?_; clear hK K; refine dw_block ?_; refine dw_seq ?_
    refine dwk [(21, .v (.bool false))] TRT6_ok hnt fun K hK => ?_; refine And.intro (VLe.refl _) ?_; refine hK _ _ ?_; clear hK K; refine dw_cond (t := false) rfl ?_; rw [if_neg (by simp)]; refine dw_seq ?_; refine dwk [(27, .v (.bool false))] TRT6_ok hnt fun K hK => ?_; refine And.intro (VLe.refl _) ?_; refine hK _ _ ?_; clear hK K; refine dw_cond (t := false) rfl ?_; rw [if_neg (by simp)]; refine dw_seq ?_
    refine dwk [(33, .v (.bool true))] TRT6_ok hnt fun K hK => ?_; refine And.intro (VLe.refl _) ?_; refine hK _ _ ?_; clear hK K; refine dw_cond (t := true) rfl ?_; rw [if_pos rfl]; refine dw_seq ?_; refine dwk [(36, .v (.bool true))] TRT6_ok hnt fun K hK => ?_; refine And.intro auT ?_; refine hK _ _ ?_; clear hK K; refine dw_cond (t := true) rfl ?_; rw [if_pos rfl]; refine dw_seq ?_; refine dwk [] TRT6_ok hnt fun K hK => ?_
    refine hK _ _ ?_; clear hK K; refine dw_ret ?_
    exact reta rfl
  ·obtain ⟨n, rfl⟩ := Int.eq_ofNat_of_zero_le (Int.not_lt.1 hn)
   rw [headTy_0]
   by_cases hl : n < X.length
   ·have hx : X.length - 1 - n < X.length := by omega
    rw [List.getElem?_reverse (by omega), List.getElem?_eq_getElem hx]
    simp only [Option.getD_some, Option.isSome_some]
    rw [eTy_eq]
    have hg : (eTys X).getD ((X.length : Int) - 1 - (n : Int)).toNat [] = [.sl 2 (eTys (X[X.length - 1 - n]).args) none, .v (.int .i64 (X[X.length - 1 - n]).base)] := by rw [show ((X.length : Int) - 1 - (n : Int)).toNat = X.length - 1 - n by omega, eTys_getD X _ hx, eTy_eq]
    refine calldw 0 51 [ResultVar.cell 6 75, ResultVar.tmp 7] TRT6_ok Tryz.func101 rfl Tryz.ntmps101 rfl fun cx hnt hn0 => ?_
    ·skip
     refine dw_seq ?_; refine dwk [] TRT6_ok hnt fun K hK => ?_; refine hK _ _ ?_; clear hK K; refine dw_seq ?_; refine dwk [] TRT6_ok hnt fun K hK => ?_; refine hK _ _ ?_; clear hK K; refine dw_seq ?_; refine dwk [(12, .v (.int .i64 (↑X.length))), (13, .v (.int .i64 ((↑X.length - 1)))), (16, .v (.int .i64 ((↑X.length - 1 - ↑n))))] TRT6_ok hnt fun K hK => ?_; refine And.intro (dintE (by rw [eTys_len])) ?_
     refine And.intro auI ?_; refine And.intro auI ?_; refine hK _ _ ?_; clear hK K; refine dw_seq ?_; refine dw_seq ?_; refine dwk [] TRT6_ok hnt fun K hK => ?_; refine hK _ _ ?_; clear hK K; refine dw_block ?_; refine dw_seq ?_; refine dwk [(21, .v (.bool false))] TRT6_ok hnt fun K hK => ?_; refine And.intro (VLe.refl _) ?_; refine hK _ _ ?_; clear hK K; refine dw_cond (t := false) rfl ?_; rw [if_neg (by simp)]
     refine dw_seq ?_; refine dwk [(27, .v (.bool false))] TRT6_ok hnt fun K hK => ?_; refine And.intro (VLe.refl _) ?_; refine hK _ _ ?_; clear hK K; refine dw_cond (t := false) rfl ?_; rw [if_neg (by simp)]; refine dw_seq ?_; refine dwk [(33, .v (.bool true))] TRT6_ok hnt fun K hK => ?_; refine And.intro (VLe.refl _) ?_; refine hK _ _ ?_; clear hK K; refine dw_cond (t := true) rfl ?_; rw [if_pos rfl]
     refine dw_seq ?_; refine dwk [(36, .v (.bool false))] TRT6_ok hnt fun K hK => ?_; refine And.intro auF ?_; refine hK _ _ ?_; clear hK K; refine dw_cond (t := false) rfl ?_; rw [if_neg (by simp)]; refine dw_skip ?_; refine dw_seq ?_; refine dw_seq ?_; refine dwk [(39, .v (.bool false)), (43, .v (.int .i64 (↑X.length))), (44, .v (.bool false))] TRT6_ok hnt fun K hK => ?_; refine And.intro auF ?_; refine And.intro (dintE (by rw [eTys_len])) ?_
     refine And.intro auF ?_; refine hK _ _ ?_; clear hK K; refine dw_cond (t := false) rfl ?_; rw [if_neg (by simp)]; refine dw_skip ?_; refine dw_seq ?_; refine dwk [(49, .q [.sl 2 (eTys (X[X.length - 1 - n]).args) none, .v (.int .i64 (X[X.length - 1 - n]).base)])] TRT6_ok hnt fun K hK => ?_; refine And.intro (⟨by omega, by rw [eTys_len]; omega⟩) ?_; refine And.intro (VLe.of_eq (by rw [hg])) ?_; refine hK _ _ ?_; clear hK K
     refine dw_ret ?_
     exact reta rfl
   ·rw [List.getElem?_eq_none (by simp; omega)]
    simp only [Option.getD_none, Option.isSome_none]
    rw [tyZ_eq]
    refine calldw 0 51 [ResultVar.cell 6 75, ResultVar.tmp 7] TRT6_ok Tryz.func101 rfl Tryz.ntmps101 rfl fun cx hnt hn0 => ?_
    ·skip
     refine dw_seq ?_; refine dwk [] TRT6_ok hnt fun K hK => ?_; refine hK _ _ ?_; clear hK K; refine dw_seq ?_; refine dwk [] TRT6_ok hnt fun K hK => ?_; refine hK _ _ ?_; clear hK K; refine dw_seq ?_; refine dwk [(12, .v (.int .i64 (↑X.length))), (13, .v (.int .i64 ((↑X.length - 1)))), (16, .v (.int .i64 ((↑X.length - 1 - ↑n))))] TRT6_ok hnt fun K hK => ?_; refine And.intro (dintE (by rw [eTys_len])) ?_
     refine And.intro auI ?_; refine And.intro auI ?_; refine hK _ _ ?_; clear hK K; refine dw_seq ?_; refine dw_seq ?_; refine dwk [] TRT6_ok hnt fun K hK => ?_; refine hK _ _ ?_; clear hK K; refine dw_block ?_; refine dw_seq ?_; refine dwk [(21, .v (.bool false))] TRT6_ok hnt fun K hK => ?_; refine And.intro (VLe.refl _) ?_; refine hK _ _ ?_; clear hK K; refine dw_cond (t := false) rfl ?_; rw [if_neg (by simp)]
     refine dw_seq ?_; refine dwk [(27, .v (.bool false))] TRT6_ok hnt fun K hK => ?_; refine And.intro (VLe.refl _) ?_; refine hK _ _ ?_; clear hK K; refine dw_cond (t := false) rfl ?_; rw [if_neg (by simp)]; refine dw_seq ?_; refine dwk [(33, .v (.bool true))] TRT6_ok hnt fun K hK => ?_; refine And.intro (VLe.refl _) ?_; refine hK _ _ ?_; clear hK K; refine dw_cond (t := true) rfl ?_; rw [if_pos rfl]
     refine dw_seq ?_; refine dwk [(36, .v (.bool false))] TRT6_ok hnt fun K hK => ?_; refine And.intro auF ?_; refine hK _ _ ?_; clear hK K; refine dw_cond (t := false) rfl ?_; rw [if_neg (by simp)]; refine dw_skip ?_; refine dw_seq ?_; refine dw_seq ?_; refine dwk [(39, .v (.bool true))] TRT6_ok hnt fun K hK => ?_; refine And.intro auT ?_; refine hK _ _ ?_; clear hK K; refine dw_cond (t := true) rfl ?_
     rw [if_pos rfl]; refine dw_seq ?_; refine dwk [] TRT6_ok hnt fun K hK => ?_; refine hK _ _ ?_; clear hK K; refine dw_ret ?_
     exact reta rfl
 ·rw [headTy_o k0 k1 k2]
  simp only [Option.getD_none, Option.isSome_none]
  rw [tyZ_eq]
  refine calldw 0 51 [ResultVar.cell 6 75, ResultVar.tmp 7] TRT6_ok Tryz.func101 rfl Tryz.ntmps101 rfl fun cx hnt hn0 => ?_
  ·skip
   refine dw_seq ?_; refine dwk [] TRT6_ok hnt fun K hK => ?_; refine hK _ _ ?_; clear hK K; refine dw_seq ?_; refine dwk [] TRT6_ok hnt fun K hK => ?_; refine hK _ _ ?_; clear hK K; refine dw_seq ?_; refine dwk [] TRT6_ok hnt fun K hK => ?_; refine hK _ _ ?_; clear hK K; refine dw_seq ?_; refine dw_seq ?_; refine dwk [] TRT6_ok hnt fun K hK => ?_; refine hK _ _ ?_; clear hK K; refine dw_block ?_; refine dw_seq ?_
   refine dwk [(21, .v (.bool false))] TRT6_ok hnt fun K hK => ?_; refine And.intro (beqF k1) ?_; refine hK _ _ ?_; clear hK K; refine dw_cond (t := false) rfl ?_; rw [if_neg (by simp)]; refine dw_seq ?_; refine dwk [(27, .v (.bool false))] TRT6_ok hnt fun K hK => ?_; refine And.intro (beqF k2) ?_; refine hK _ _ ?_; clear hK K; refine dw_cond (t := false) rfl ?_; rw [if_neg (by simp)]; refine dw_seq ?_
   refine dwk [(33, .v (.bool false))] TRT6_ok hnt fun K hK => ?_; refine And.intro (beqF k0) ?_; refine hK _ _ ?_; clear hK K; refine dw_cond (t := false) rfl ?_; rw [if_neg (by simp)]; refine dw_seq ?_; refine dwk [] TRT6_ok hnt fun K hK => ?_; refine hK _ _ ?_; clear hK K; refine dw_ret ?_
   exact reta rfl
theorem ttype_d (b : Int) (C M : List Ty) (t : Tm) (hi : t.index ≤ 9223372036854775807) (hC : C.length ≤ 1000000) (hM : M.length ≤ 1000000) (hz : t.full ≤ 40000) :
  PureC Tryz.prog 57 [.ag [.v (.int .i64 b), .sl 2 (eTys C) none, .sl 2 (eTys M) none], .v (.slice none 0 0), .ag (eTm t)] (.tu [.ag (eTy ((tyOf C M t).getD tyZ)), .v (.int .i64 (if (tyOf C M t).isSome then 0 else 10))]) := by
 have hbl := Ty.le_sizes t.binds
 have hfl := full_args t
 have hbe : PureC Tryz.prog 102 [.v (.slice none 0 0), .sl 2 (eTys t.binds) none] (.sl 2 (eTys ([] ++ t.binds)) none) := CallC.vle (within_d [] t.binds (by simp; omega)) (.cons (VLe.nil _) (.cons (VLe.refl _) .nil)) (VLe.refl _)
 have hh := theadA_d b C M ([] ++ t.binds) t.kind t.index hi hC hM (by simp; omega)
 unfold tyOf
 obtain ⟨o, ho⟩ : ∃ o, headTy C M ([] ++ t.binds) t.kind t.index = o := ⟨_, rfl⟩
 obtain ⟨X, hX⟩ : ∃ X, [] ++ t.binds = X := ⟨_, rfl⟩
 rw [hX] at hh hbe ho ⊢
 rw [ho] at hh ⊢
 rw [eTm_eq]
 cases o with
 | none =>
  simp only [Option.map_none, Option.getD_none, Option.isSome_none, Bool.false_eq_true, if_false] at hh ⊢
  rw [tyZ_eq] at hh ⊢
  refine calldw 0 29 [ResultVar.cell 6 75, ResultVar.tmp 7] TRT6_ok Tryz.func57 rfl Tryz.ntmps57 rfl fun cx hnt hn0 => ?_
  ·skip
   refine dw_seq ?_; refine dwk [] TRT6_ok hnt fun K hK => ?_; refine hK _ _ ?_; clear hK K; refine dw_seq ?_; refine dwkD [] TRT6_ok hnt fun K hK => ?_; refine dcl (hbe) ?_; refine dcl (hh) ?_; refine hK _ _ (by kernel_rfl) ?_; clear hK K; refine dw_seq ?_; refine dw_seq ?_; refine dwk [] TRT6_ok hnt fun K hK => ?_; refine hK _ _ ?_; clear hK K; refine dw_cond (t := true) rfl ?_; rw [if_pos rfl]; refine dw_seq ?_
   refine dwk [] TRT6_ok hnt fun K hK => ?_; refine hK _ _ ?_; clear hK K; refine dw_ret ?_
   exact reta rfl
 | some h =>
  simp only [Option.map_some, Option.getD_some, Option.isSome_some, if_true] at hh ⊢
  have hk := kOf_d h.base t.binds (by omega)
  rw [eTy_eq] at hh hk ⊢
  simp only [args_mk', base_mk'] at hk ⊢
  refine calldw 0 29 [ResultVar.cell 6 75, ResultVar.tmp 7] TRT6_ok Tryz.func57 rfl Tryz.ntmps57 rfl fun cx hnt hn0 => ?_
  ·skip
   refine dw_seq ?_; refine dwk [] TRT6_ok hnt fun K hK => ?_; refine hK _ _ ?_; clear hK K; refine dw_seq ?_; refine dwkD [] TRT6_ok hnt fun K hK => ?_; refine dcl (hbe) ?_; refine dcl (hh) ?_; refine hK _ _ (by kernel_rfl) ?_; clear hK K; refine dw_seq ?_; refine dw_seq ?_; refine dwk [] TRT6_ok hnt fun K hK => ?_; refine hK _ _ ?_; clear hK K; refine dw_cond (t := false) rfl ?_; rw [if_neg (by simp)]
   refine dw_skip ?_; refine dw_seq ?_; refine dwk [] TRT6_ok hnt fun K hK => ?_; refine dcl (hk) ?_; refine hK _ _ ?_; clear hK K; refine dw_ret ?_
   exact reta rfl
set_option maxHeartbeats 4000000 in
theorem tisX_d (b : Int) (C M : List Ty) (hC : C.length ≤ 1000000) (hM : M.length ≤ 1000000) : ∀ (t : Tm) (X : List Ty) (u : Ty) (c : Bool), (c = true ↔ IsOf C M t X u) → X.length + t.full ≤ 700000 → t.Fit →
  PureC Tryz.prog 103 [.ag [.v (.int .i64 b), .sl 2 (eTys C) none, .sl 2 (eTys M) none], .sl 2 (eTys X) none, .ag (eTm t), .ag (eTy u)] (.v (.bool c)) := by
 intro t
 induction t using Tm.ind with
 | h bs k i a ih =>
 intro X u c hc hz hf
 obtain ⟨_, f2, f3⟩ := Tm.fit_iff.1 hf
 rw [Tm.full_eq] at hz
 have hal := cFulls_len a
 have hbl := Ty.le_sizes bs
 have hbe := within_d X bs (by omega)
 have hh := theadA_d b C M (X ++ bs) k i f2 hC hM (by simp; omega)
 obtain ⟨o, ho⟩ : ∃ o, headTy C M (X ++ bs) k i = o := ⟨_, rfl⟩
 obtain ⟨Y, hY⟩ : ∃ Y, X ++ bs = Y := ⟨_, rfl⟩
 have hYl : Y.length = X.length + bs.length := by rw [← hY]; simp
 have hty := eqTys_d bs u.args 52 rfl
 have no : ∀ (h : ∀ x, headTy C M (X ++ bs) k i = some x → bs = u.args → x.base = u.base → x.args.length = a.length → False), c = false := fun h => by
  rw [Bool.eq_false_iff]; exact fun hc1 => isOf_no h (hc.1 hc1)
 rw [ho] at hh no
 rw [eTm_eq, eTy_eq]
 simp only [bindsT, kindT, indexT, argsTm]
 rw [hY] at hbe hh
 by_cases hb : bs = u.args
 ·rw [decide_eq_true hb] at hty
  cases o with
  | none =>
   simp only [Option.getD_none, Option.isSome_none] at hh
   rw [tyZ_eq] at hh
   rw [no (fun x h => by cases h)]
   refine calldw 0 69 [ResultVar.tmp 8] TRT6_ok Tryz.func103 rfl Tryz.ntmps103 rfl fun cx hnt hn0 => ?_
   ·skip
    refine dw_seq ?_; refine dwk [] TRT6_ok hnt fun K hK => ?_; refine hK _ _ ?_; clear hK K; refine dw_seq ?_; refine dw_seq ?_; refine dwk [] TRT6_ok hnt fun K hK => ?_; refine dcl (hty) ?_; refine hK _ _ ?_; clear hK K; refine dw_cond (t := false) rfl ?_; rw [if_neg (by simp)]; refine dw_skip ?_; refine dw_seq ?_; refine dwk [] TRT6_ok hnt fun K hK => ?_; refine dcl (hbe) ?_; refine hK _ _ ?_; clear hK K
    refine dw_seq ?_; refine dwk [] TRT6_ok hnt fun K hK => ?_; refine dcl (hh) ?_; refine hK _ _ ?_; clear hK K; refine dw_seq ?_; refine dw_seq ?_; refine dwk [] TRT6_ok hnt fun K hK => ?_; refine hK _ _ ?_; clear hK K; refine dw_cond (t := true) rfl ?_; rw [if_pos rfl]; refine dw_seq ?_; refine dwk [] TRT6_ok hnt fun K hK => ?_; refine hK _ _ ?_; clear hK K; refine dw_ret ?_
    exact reta rfl
  | some h =>
  simp only [Option.getD_some, Option.isSome_some] at hh
  rw [eTy_eq] at hh
  by_cases hbs : h.base = u.base
  ·by_cases hln : h.args.length = a.length
   ·have hIff : c = true ↔ ∀ j (h1 : j < a.length) (h2 : j < h.args.length), IsOf C M a[j] Y h.args[j] := by
     rw [hc, isOf_mk, hY]
     constructor
     ·rintro ⟨_, x, h2, _, h4⟩ j j1 j2
      rw [← hY, ho] at h2; cases h2
      exact (isOfs_iff.1 h4).2 j j1 j2
     ·intro hall
      exact ⟨hb, h, by rw [← hY, ho], hbs, isOfs_iff.2 ⟨hln, hall⟩⟩
    have hI : ∀ j (h1 : j < a.length) (h2 : j < h.args.length) (d : Bool), (d = true ↔ IsOf C M a[j] Y h.args[j]) → PureC Tryz.prog 103 [.ag [.v (.int .i64 b), .sl 2 (eTys C) none, .sl 2 (eTys M) none], .sl 2 (eTys Y) none, .ag (eTm a[j]), .ag (eTy h.args[j])] (.v (.bool d)) := fun j h1 h2 d hd => ih _ (List.getElem_mem h1) Y _ d hd (by have := Tm.full_mem (List.getElem_mem h1); omega) (f3 _ (List.getElem_mem h1))
    clear ih no hc
    refine calldw 0 69 [ResultVar.tmp 8] TRT6_ok Tryz.func103 rfl Tryz.ntmps103 rfl fun cx hnt hn0 => ?_
    ·skip
     refine dw_seq ?_; refine dwk [] TRT6_ok hnt fun K hK => ?_; refine hK _ _ ?_; clear hK K; refine dw_seq ?_; refine dw_seq ?_; refine dwk [] TRT6_ok hnt fun K hK => ?_; refine dcl (hty) ?_; refine hK _ _ ?_; clear hK K; refine dw_cond (t := false) rfl ?_; rw [if_neg (by simp)]; refine dw_skip ?_; refine dw_seq ?_; refine dwk [] TRT6_ok hnt fun K hK => ?_; refine dcl (hbe) ?_; refine hK _ _ ?_; clear hK K
     refine dw_seq ?_; refine dwk [] TRT6_ok hnt fun K hK => ?_; refine dcl (hh) ?_; refine hK _ _ ?_; clear hK K; refine dw_seq ?_; refine dw_seq ?_; refine dwk [(39, .v (.bool false)), (44, .v (.int .i64 (↑h.args.length))), (47, .v (.int .i64 (↑a.length))), (48, .v (.bool false))] TRT6_ok hnt fun K hK => ?_; refine And.intro (bneF hbs) ?_; refine And.intro (dintE (by rw [eTys_len])) ?_; refine And.intro (dintE (by rw [eTms_len])) ?_
     refine And.intro (bneF (by omega)) ?_; refine hK _ _ ?_; clear hK K; refine dw_cond (t := false) rfl ?_; rw [if_neg (by simp)]; refine dw_skip ?_; refine dw_seq ?_; refine dw_seq ?_; refine dwk [(52, .v (.int .i64 (↑a.length)))] TRT6_ok hnt fun K hK => ?_; refine And.intro (dintE (by rw [eTms_len])) ?_; refine hK _ _ ?_; clear hK K; refine dw_block ?_
     refine dw_loop (ι := { j : Nat // ∀ i (h1 : i < a.length) (h2 : i < h.args.length), i < j → IsOf C M a[i] Y h.args[i] }) (fun j => [(.t 4, .p 0 0), (.t 6, .p 1 0), (.t 7, .p 2 0), (.t 9, .sl 2 (eTys Y) none), (.t 10, .p 23 0), (.t 51, .sl 4 (eTms a) none), (.t 52, .v (.int .i64 ↑a.length)), (.t 53, .v (.int .i64 ↑j.1)), (.c 0 0, .v (.int .i64 b)), (.c 0 1, .sl 2 (eTys C) none), (.c 0 2, .sl 2 (eTys M) none), (.c 23 0, .sl 2 (eTys h.args) none), (.c 23 1, .v (.int .i64 h.base))]) 24 (fun j => a.length - j.1) (⟨0, fun i h1 h2 h3 => by omega⟩) (VS.toA) fun j => ?_
     obtain ⟨j, hj⟩ := j
     dsimp only
     by_cases hlt : j < a.length
     ·have hlt2 : j < h.args.length := by omega
      by_cases hio : IsOf C M a[j] Y h.args[j]
      ·have hi := hI j hlt hlt2 true (by simp [hio])
       rw [eTm_eq, eTy_eq] at hi
       refine dw_seq ?_; refine dwk [(54, .v (.bool true))] TRT6_ok hnt fun K hK => ?_; refine And.intro auT ?_; refine hK _ _ ?_; clear hK K; refine dw_seq ?_; refine dw_cond (t := true) rfl ?_; rw [if_pos rfl]; refine dw_skip ?_; refine dw_seq ?_; refine dw_block ?_; refine dw_seq ?_; refine dwk [(56, .q [.sl 2 (eTys a[j].binds) none, .v (.int .i64 a[j].kind), .v (.int .i64 a[j].index), .sl 4 (eTms a[j].args) none])] TRT6_ok hnt fun K hK => ?_
       refine And.intro (elo (eTms_len a)) ?_; refine And.intro (elv (eTms_getD a j) (eTm_eq _)) ?_; refine hK _ _ ?_; clear hK K; refine dw_seq ?_; refine dwkD [(64, .q [.sl 2 (eTys h.args[j].args) none, .v (.int .i64 h.args[j].base)])] TRT6_ok hnt fun K hK => ?_; refine And.intro (elo (eTys_len h.args)) ?_; refine And.intro (elv (eTys_getD h.args j) (eTy_eq _)) ?_; refine dcl (hi) ?_; refine hK _ _ (by kernel_rfl) ?_; clear hK K
       refine dw_cond (t := false) rfl ?_; rw [if_neg (by simp)]; refine dw_skip ?_; refine dwk [(68, .v (.int .i64 (↑(j + 1))))] TRT6_ok hnt fun K hK => ?_; refine And.intro auI ?_; refine hK _ _ ?_; clear hK K
       refine ⟨⟨j + 1, fun q h1 h2 h3 => if e : q = j then by subst e; exact hio else hj q h1 h2 (by omega)⟩, by first | omega | (dsimp only; omega), VS.toA⟩
      ·have hi := hI j hlt hlt2 false (by simp [hio])
       rw [eTm_eq, eTy_eq] at hi
       have hcf : c = false := by rw [Bool.eq_false_iff]; exact fun h1 => hio (hIff.1 h1 j hlt hlt2)
       rw [hcf]
       refine dw_seq ?_; refine dwk [(54, .v (.bool true))] TRT6_ok hnt fun K hK => ?_; refine And.intro auT ?_; refine hK _ _ ?_; clear hK K; refine dw_seq ?_; refine dw_cond (t := true) rfl ?_; rw [if_pos rfl]; refine dw_skip ?_; refine dw_seq ?_; refine dw_block ?_; refine dw_seq ?_; refine dwk [(56, .q [.sl 2 (eTys a[j].binds) none, .v (.int .i64 a[j].kind), .v (.int .i64 a[j].index), .sl 4 (eTms a[j].args) none])] TRT6_ok hnt fun K hK => ?_
       refine And.intro (elo (eTms_len a)) ?_; refine And.intro (elv (eTms_getD a j) (eTm_eq _)) ?_; refine hK _ _ ?_; clear hK K; refine dw_seq ?_; refine dwkD [(64, .q [.sl 2 (eTys h.args[j].args) none, .v (.int .i64 h.args[j].base)])] TRT6_ok hnt fun K hK => ?_; refine And.intro (elo (eTys_len h.args)) ?_; refine And.intro (elv (eTys_getD h.args j) (eTy_eq _)) ?_; refine dcl (hi) ?_; refine hK _ _ (by kernel_rfl) ?_; clear hK K
       refine dw_cond (t := true) rfl ?_; rw [if_pos rfl]; refine dw_seq ?_; refine dwk [] TRT6_ok hnt fun K hK => ?_; refine hK _ _ ?_; clear hK K; refine dw_ret ?_
       exact reta rfl
     ·rw [hIff.2 fun q h1 h2 => hj q h1 h2 (by omega)]
      refine dw_seq ?_; refine dwk [(54, .v (.bool false))] TRT6_ok hnt fun K hK => ?_; refine And.intro auF ?_; refine hK _ _ ?_; clear hK K; refine dw_seq ?_; refine dw_cond (t := false) rfl ?_; rw [if_neg (by simp)]; refine dw_exit ?_; refine dw_seq ?_; refine dwk [] TRT6_ok hnt fun K hK => ?_; refine hK _ _ ?_; clear hK K; refine dw_ret ?_
      exact reta rfl
   ·rw [no (fun x h1 _ _ h4 => by cases h1; exact hln h4)]
    refine calldw 0 69 [ResultVar.tmp 8] TRT6_ok Tryz.func103 rfl Tryz.ntmps103 rfl fun cx hnt hn0 => ?_
    ·skip
     refine dw_seq ?_; refine dwk [] TRT6_ok hnt fun K hK => ?_; refine hK _ _ ?_; clear hK K; refine dw_seq ?_; refine dw_seq ?_; refine dwk [] TRT6_ok hnt fun K hK => ?_; refine dcl (hty) ?_; refine hK _ _ ?_; clear hK K; refine dw_cond (t := false) rfl ?_; rw [if_neg (by simp)]; refine dw_skip ?_; refine dw_seq ?_; refine dwk [] TRT6_ok hnt fun K hK => ?_; refine dcl (hbe) ?_; refine hK _ _ ?_; clear hK K
     refine dw_seq ?_; refine dwk [] TRT6_ok hnt fun K hK => ?_; refine dcl (hh) ?_; refine hK _ _ ?_; clear hK K; refine dw_seq ?_; refine dw_seq ?_; refine dwk [(39, .v (.bool false)), (44, .v (.int .i64 (↑h.args.length))), (47, .v (.int .i64 (↑a.length))), (48, .v (.bool true))] TRT6_ok hnt fun K hK => ?_; refine And.intro (bneF hbs) ?_; refine And.intro (dintE (by rw [eTys_len])) ?_; refine And.intro (dintE (by rw [eTms_len])) ?_
     refine And.intro (bneT (by omega)) ?_; refine hK _ _ ?_; clear hK K; refine dw_cond (t := true) rfl ?_; rw [if_pos rfl]; refine dw_seq ?_; refine dwk [] TRT6_ok hnt fun K hK => ?_; refine hK _ _ ?_; clear hK K; refine dw_ret ?_
     exact reta rfl
  ·rw [no (fun x h1 _ h3 _ => by cases h1; exact hbs h3)]
   refine calldw 0 69 [ResultVar.tmp 8] TRT6_ok Tryz.func103 rfl Tryz.ntmps103 rfl fun cx hnt hn0 => ?_
   ·skip
    refine dw_seq ?_; refine dwk [] TRT6_ok hnt fun K hK => ?_; refine hK _ _ ?_; clear hK K; refine dw_seq ?_; refine dw_seq ?_; refine dwk [] TRT6_ok hnt fun K hK => ?_; refine dcl (hty) ?_; refine hK _ _ ?_; clear hK K; refine dw_cond (t := false) rfl ?_; rw [if_neg (by simp)]; refine dw_skip ?_; refine dw_seq ?_; refine dwk [] TRT6_ok hnt fun K hK => ?_; refine dcl (hbe) ?_; refine hK _ _ ?_; clear hK K
    refine dw_seq ?_; refine dwk [] TRT6_ok hnt fun K hK => ?_; refine dcl (hh) ?_; refine hK _ _ ?_; clear hK K; refine dw_seq ?_; refine dw_seq ?_; refine dwk [(39, .v (.bool true))] TRT6_ok hnt fun K hK => ?_; refine And.intro (bneT hbs) ?_; refine hK _ _ ?_; clear hK K; refine dw_cond (t := true) rfl ?_; rw [if_pos rfl]; refine dw_seq ?_; refine dwk [] TRT6_ok hnt fun K hK => ?_; refine hK _ _ ?_; clear hK K
    refine dw_ret ?_
    exact reta rfl
 ·rw [decide_eq_false hb] at hty
  rw [no (fun x _ h2 _ _ => hb h2)]
  refine calldw 0 69 [ResultVar.tmp 8] TRT6_ok Tryz.func103 rfl Tryz.ntmps103 rfl fun cx hnt hn0 => ?_
  ·skip
   refine dw_seq ?_; refine dwk [] TRT6_ok hnt fun K hK => ?_; refine hK _ _ ?_; clear hK K; refine dw_seq ?_; refine dw_seq ?_; refine dwk [] TRT6_ok hnt fun K hK => ?_; refine dcl (hty) ?_; refine hK _ _ ?_; clear hK K; refine dw_cond (t := true) rfl ?_; rw [if_pos rfl]; refine dw_seq ?_; refine dwk [] TRT6_ok hnt fun K hK => ?_; refine hK _ _ ?_; clear hK K; refine dw_ret ?_
   exact reta rfl
theorem tcheckX_d (b : Int) (C M X : List Ty) (t : Tm) (u : Ty) (c : Int) (hC : C.length ≤ 1000000) (hM : M.length ≤ 1000000) (hc : checkCode C M t X u c) (hz : X.length + t.full ≤ 700000) (hf : t.Fit) :
  PureC Tryz.prog 59 [.ag [.v (.int .i64 b), .sl 2 (eTys C) none, .sl 2 (eTys M) none], .sl 2 (eTys X) none, .ag (eTm t), .ag (eTy u)] (.v (.int .i64 c)) := by
 have hr := right_d t (by omega)
 have hi := fun d hd => tisX_d b C M hC hM t X u d hd hz hf
 rw [eTm_eq, eTy_eq] at hi
 rw [eTm_eq] at hr
 rw [eTm_eq, eTy_eq]
 rcases hc with ⟨h1, rfl⟩ | ⟨h1, h2, rfl⟩ | ⟨h1, h2, rfl⟩
 ·rw [decide_eq_false h1] at hr
  refine calldw 0 20 [ResultVar.tmp 8] TRT6_ok Tryz.func59 rfl Tryz.ntmps59 rfl fun cx hnt hn0 => ?_
  ·skip
   refine dw_seq ?_; refine dwk [] TRT6_ok hnt fun K hK => ?_; refine hK _ _ ?_; clear hK K; refine dw_seq ?_; refine dw_block ?_; refine dw_seq ?_; refine dwk [] TRT6_ok hnt fun K hK => ?_; refine dcl (hr) ?_; refine hK _ _ ?_; clear hK K; refine dw_cond (t := true) rfl ?_; rw [if_pos rfl]; refine dw_seq ?_; refine dwk [] TRT6_ok hnt fun K hK => ?_; refine hK _ _ ?_; clear hK K; refine dw_ret ?_
   exact reta rfl
 ·rw [decide_eq_true h1] at hr
  have hi := hi false (by simp [h2])
  refine calldw 0 20 [ResultVar.tmp 8] TRT6_ok Tryz.func59 rfl Tryz.ntmps59 rfl fun cx hnt hn0 => ?_
  ·skip
   refine dw_seq ?_; refine dwk [] TRT6_ok hnt fun K hK => ?_; refine hK _ _ ?_; clear hK K; refine dw_seq ?_; refine dw_block ?_; refine dw_seq ?_; refine dwk [] TRT6_ok hnt fun K hK => ?_; refine dcl (hr) ?_; refine hK _ _ ?_; clear hK K; refine dw_cond (t := false) rfl ?_; rw [if_neg (by simp)]; refine dw_seq ?_; refine dwk [] TRT6_ok hnt fun K hK => ?_; refine dcl (hi) ?_; refine hK _ _ ?_; clear hK K
   refine dw_cond (t := true) rfl ?_; rw [if_pos rfl]; refine dw_seq ?_; refine dwk [] TRT6_ok hnt fun K hK => ?_; refine hK _ _ ?_; clear hK K; refine dw_ret ?_
   exact reta rfl
 ·rw [decide_eq_true h1] at hr
  have hi := hi true (by simp [h2])
  refine calldw 0 20 [ResultVar.tmp 8] TRT6_ok Tryz.func59 rfl Tryz.ntmps59 rfl fun cx hnt hn0 => ?_
  ·skip
   refine dw_seq ?_; refine dwk [] TRT6_ok hnt fun K hK => ?_; refine hK _ _ ?_; clear hK K; refine dw_seq ?_; refine dw_block ?_; refine dw_seq ?_; refine dwk [] TRT6_ok hnt fun K hK => ?_; refine dcl (hr) ?_; refine hK _ _ ?_; clear hK K; refine dw_cond (t := false) rfl ?_; rw [if_neg (by simp)]; refine dw_seq ?_; refine dwk [] TRT6_ok hnt fun K hK => ?_; refine dcl (hi) ?_; refine hK _ _ ?_; clear hK K
   refine dw_cond (t := false) rfl ?_; rw [if_neg (by simp)]; refine dw_skip ?_; refine dw_seq ?_; refine dwk [] TRT6_ok hnt fun K hK => ?_; refine hK _ _ ?_; clear hK K; refine dw_ret ?_
   exact reta rfl
theorem tcheck_d (b : Int) (C M : List Ty) (t : Tm) (u : Ty) (c : Int) (hC : C.length ≤ 1000000) (hM : M.length ≤ 1000000) (hc : checkCode C M t [] u c) (hz : t.full ≤ 90000) (hfit : t.Fit) :
    PureC Tryz.prog 59 [.ag [.v (.int .i64 b), .sl 2 (eTys C) none, .sl 2 (eTys M) none], .v (.slice none 0 0), .ag (eTm t), .ag (eTy u)] (.v (.int .i64 c)) :=
  CallC.vle (tcheckX_d b C M [] t u c hC hM hc (by simp; omega) hfit) (.cons (VLe.refl _) (.cons (VLe.nil _) (.cons (VLe.refl _) (.cons (VLe.refl _) .nil)))) (VLe.refl _)
end Go.Proofs.YtdmiekaeodcehaaGreat

namespace Go.Proofs.YtdmiekaeodcehaaGreat
open Go.RowKit
def TRE_91 : TI := ⟨2, true, [Value.slice none 0 0, Value.int IntKind.i64 0], [(0, 1, false), (1, 1, false)], none, 32, 6, none, false⟩
theorem TRE_91_ok : TypOk Tryz.prog 91 TRE_91 := ⟨by kernel_rfl, by kernel_rfl, by kernel_rfl, by kernel_rfl, by kernel_rfl⟩
def TRE_22 : TI := ⟨1, false, [Value.slice none 0 0], [], some 91, 24, 5, none, false⟩
theorem TRE_22_ok : TypOk Tryz.prog 22 TRE_22 := ⟨by kernel_rfl, by kernel_rfl, by kernel_rfl, by kernel_rfl, by kernel_rfl⟩
def TRE_3 : TI := ⟨1, false, [Value.int IntKind.i64 0], [], none, 8, 2, none, false⟩
theorem TRE_3_ok : TypOk Tryz.prog 3 TRE_3 := ⟨by kernel_rfl, by kernel_rfl, by kernel_rfl, by kernel_rfl, by kernel_rfl⟩
def TRE_24 : TI := ⟨2, true, [Value.int IntKind.i64 0, Value.int IntKind.i64 0], [(0, 1, false), (1, 1, false)], none, 16, 6, none, true⟩
theorem TRE_24_ok : TypOk Tryz.prog 24 TRE_24 := ⟨by kernel_rfl, by kernel_rfl, by kernel_rfl, by kernel_rfl, by kernel_rfl⟩
def TRE_54 : TI := ⟨3, true, [Value.int IntKind.i64 0, Value.slice none 0 0, Value.slice none 0 0], [(0, 1, false), (1, 1, false), (2, 1, false)], none, 56, 6, none, false⟩
theorem TRE_54_ok : TypOk Tryz.prog 54 TRE_54 := ⟨by kernel_rfl, by kernel_rfl, by kernel_rfl, by kernel_rfl, by kernel_rfl⟩
def TRE_27 : TI := ⟨4, true, [Value.slice none 0 0, Value.int IntKind.i64 0, Value.int IntKind.i64 0, Value.slice none 0 0], [(0, 1, false), (1, 2, true), (3, 1, false)], none, 64, 6, none, false⟩
theorem TRE_27_ok : TypOk Tryz.prog 27 TRE_27 := ⟨by kernel_rfl, by kernel_rfl, by kernel_rfl, by kernel_rfl, by kernel_rfl⟩
def TRE_25 : TI := ⟨1, false, [Value.slice none 0 0], [], some 27, 24, 5, none, false⟩
theorem TRE_25_ok : TypOk Tryz.prog 25 TRE_25 := ⟨by kernel_rfl, by kernel_rfl, by kernel_rfl, by kernel_rfl, by kernel_rfl⟩
def TRE : List (Nat × TI) := [(91, TRE_91), (22, TRE_22), (3, TRE_3), (24, TRE_24), (54, TRE_54), (27, TRE_27), (25, TRE_25)]
theorem TRE_ok : TabOk Tryz.prog TRE := ((((((((TabOk.nil _).cons TRE_25_ok).cons TRE_27_ok).cons TRE_54_ok).cons TRE_24_ok).cons TRE_3_ok).cons TRE_22_ok).cons TRE_91_ok)
theorem tworld_d (b : Int) (C M : List Ty) (c : Bool) (hc : c = true ↔ RightWd b C M) (hz : ∀ t ∈ C ++ M, t.size ≤ 400000) : PureC Tryz.prog 55 [.ag [.v (.int .i64 b), .sl 2 (eTys C) none, .sl 2 (eTys M) none]] (.v (.bool c)) := by
  refine pure_below (by kernel_rfl) fun m Im w vs hv => ?_
  match vs, hv with
  | [x1], hv =>
    obtain ⟨cv, mv, rfl, h1, h2⟩ := agWorld hv.1
    refine (RightWorld_k h1 h2 hz).mono ?_
    rintro e w' ⟨c', hc', rfl, hb⟩
    have : c' = c := by rw [Bool.eq_iff_iff, hc', hc]
    subst this
    exact ⟨_, rfl, hb, fun _ _ _ => .v _⟩
theorem trworld_d (b : Int) (C M : List Ty) (c : Bool) (hc : c = true ↔ RightWd b C M) : PureC Tryz.prog 61 [.ag [.v (.int .i64 b), .sl 2 (eTys C) none, .sl 2 (eTys M) none]] (.v (.bool c)) := by
  refine pure_below (by kernel_rfl) fun m Im w vs hv => ?_
  match vs, hv with
  | [x1], hv =>
    obtain ⟨cv, mv, rfl, h1, h2⟩ := agWorld hv.1
    refine (RightWorld_r h1 h2).mono ?_
    rintro e w' ⟨c', hc', rfl, hb⟩
    have : c' = c := by rw [Bool.eq_iff_iff, hc', hc]
    subst this
    exact ⟨_, rfl, hb, fun _ _ _ => .v _⟩
set_option maxHeartbeats 2000000 in
theorem rheadA_d (b : Int) (C M X : List Ty) (k i : Int) (hC : C.length ≤ 1000000) (hM : M.length ≤ 1000000) (hX : X.length ≤ 1000000) : PureC Tryz.prog 106 [.ag [.v (.int .i64 b), .sl 2 (eTys C) none, .sl 2 (eTys M) none], .sl 2 (eTys X) none, .ag [.v (.int .i64 k), .v (.int .i64 i)]] (.tu [.ag (eTy ((headTy C M X k i).getD tyZ)), .v (.bool (headTy C M X k i).isSome)]) := by
 by_cases hi : i < 0
 ·rw [headTy_neg hi]
  simp only [Option.getD_none, Option.isSome_none]
  rw [tyZ_eq]
  refine calldw 0 70 [ResultVar.cell 6 91, ResultVar.tmp 7] TRE_ok Tryz.func106 rfl Tryz.ntmps106 rfl fun cx hnt hn0 => ?_
  ·skip
   refine dw_seq ?_; refine dwk [] TRE_ok hnt fun K hK => ?_; refine hK _ _ ?_; clear hK K; refine dw_seq ?_; refine dw_block ?_; refine dw_seq ?_; refine dwk [(11, .v (.bool true))] TRE_ok hnt fun K hK => ?_; refine And.intro auT ?_; refine hK _ _ ?_; clear hK K; refine dw_cond (t := true) rfl ?_; rw [if_pos rfl]; refine dw_seq ?_; refine dwk [] TRE_ok hnt fun K hK => ?_; refine hK _ _ ?_; clear hK K
   refine dw_ret ?_
   exact reta rfl
 ·obtain ⟨n, rfl⟩ := Int.eq_ofNat_of_zero_le (Int.not_lt.1 hi)
  by_cases k0 : k = 0
  ·subst k0
   rw [headTy_0]
   by_cases hl : n < X.length
   ·have hx : X.length - 1 - n < X.length := by omega
    rw [List.getElem?_reverse (by omega), List.getElem?_eq_getElem hx]
    simp only [Option.getD_some, Option.isSome_some]
    rw [eTy_eq]
    have hg : (eTys X).getD ((X.length : Int) - 1 - (n : Int)).toNat [] = [.sl 2 (eTys (X[X.length - 1 - n]).args) none, .v (.int .i64 (X[X.length - 1 - n]).base)] := by rw [show ((X.length : Int) - 1 - (n : Int)).toNat = X.length - 1 - n by omega, eTys_getD X _ hx, eTy_eq]
    refine calldw 0 70 [ResultVar.cell 6 91, ResultVar.tmp 7] TRE_ok Tryz.func106 rfl Tryz.ntmps106 rfl fun cx hnt hn0 => ?_
    ·skip
     refine dw_seq ?_; refine dwk [] TRE_ok hnt fun K hK => ?_; refine hK _ _ ?_; clear hK K; refine dw_seq ?_; refine dw_block ?_; refine dw_seq ?_; refine dwk [(11, .v (.bool false))] TRE_ok hnt fun K hK => ?_; refine And.intro auF ?_; refine hK _ _ ?_; clear hK K; refine dw_cond (t := false) rfl ?_; rw [if_neg (by simp)]; refine dw_seq ?_; refine dwk [(16, .v (.bool true)), (21, .v (.int .i64 (↑X.length))), (22, .v (.bool true))] TRE_ok hnt fun K hK => ?_
     refine And.intro (VLe.refl _) ?_; refine And.intro (dintE (by rw [eTys_len])) ?_; refine And.intro auT ?_; refine hK _ _ ?_; clear hK K; refine dw_cond (t := true) rfl ?_; rw [if_pos rfl]; refine dw_seq ?_; refine dwk [(26, .v (.int .i64 (↑X.length))), (27, .v (.int .i64 ((↑X.length - 1)))), (30, .v (.int .i64 ((↑X.length - 1 - ↑n)))), (31, .q [.sl 2 (eTys (X[X.length - 1 - n]).args) none, .v (.int .i64 (X[X.length - 1 - n]).base)])] TRE_ok hnt fun K hK => ?_
     refine And.intro (dintE (by rw [eTys_len])) ?_; refine And.intro auI ?_; refine And.intro auI ?_; refine And.intro (⟨by omega, by rw [eTys_len]; omega⟩) ?_; refine And.intro (VLe.of_eq (by rw [hg])) ?_; refine hK _ _ ?_; clear hK K; refine dw_ret ?_
     exact reta rfl
   ·rw [List.getElem?_eq_none (by simp; omega)]
    simp only [Option.getD_none, Option.isSome_none]
    rw [tyZ_eq]
    refine calldw 0 70 [ResultVar.cell 6 91, ResultVar.tmp 7] TRE_ok Tryz.func106 rfl Tryz.ntmps106 rfl fun cx hnt hn0 => ?_
    ·skip
     refine dw_seq ?_; refine dwk [] TRE_ok hnt fun K hK => ?_; refine hK _ _ ?_; clear hK K; refine dw_seq ?_; refine dw_block ?_; refine dw_seq ?_; refine dwk [(11, .v (.bool false))] TRE_ok hnt fun K hK => ?_; refine And.intro auF ?_; refine hK _ _ ?_; clear hK K; refine dw_cond (t := false) rfl ?_; rw [if_neg (by simp)]; refine dw_seq ?_; refine dwk [(16, .v (.bool true)), (21, .v (.int .i64 (↑X.length))), (22, .v (.bool false))] TRE_ok hnt fun K hK => ?_
     refine And.intro (VLe.refl _) ?_; refine And.intro (dintE (by rw [eTys_len])) ?_; refine And.intro auF ?_; refine hK _ _ ?_; clear hK K; refine dw_cond (t := false) rfl ?_; rw [if_neg (by simp)]; refine dw_seq ?_; refine dwk [(36, .v (.bool false))] TRE_ok hnt fun K hK => ?_; refine And.intro (VLe.refl _) ?_; refine hK _ _ ?_; clear hK K; refine dw_cond (t := false) rfl ?_; rw [if_neg (by simp)]; refine dw_seq ?_
     refine dwk [(54, .v (.bool false))] TRE_ok hnt fun K hK => ?_; refine And.intro (VLe.refl _) ?_; refine hK _ _ ?_; clear hK K; refine dw_cond (t := false) rfl ?_; rw [if_neg (by simp)]; refine dw_skip ?_; refine dw_seq ?_; refine dwk [] TRE_ok hnt fun K hK => ?_; refine hK _ _ ?_; clear hK K; refine dw_ret ?_
     exact reta rfl
  ·by_cases k1 : k = 1
   ·subst k1
    rw [headTy_1]
    by_cases hl : n < C.length
    ·rw [List.getElem?_eq_getElem hl]
     simp only [Option.getD_some, Option.isSome_some]
     rw [eTy_eq]
     refine calldw 0 70 [ResultVar.cell 6 91, ResultVar.tmp 7] TRE_ok Tryz.func106 rfl Tryz.ntmps106 rfl fun cx hnt hn0 => ?_
     ·skip
      refine dw_seq ?_; refine dwk [] TRE_ok hnt fun K hK => ?_; refine hK _ _ ?_; clear hK K; refine dw_seq ?_; refine dw_block ?_; refine dw_seq ?_; refine dwk [(11, .v (.bool false))] TRE_ok hnt fun K hK => ?_; refine And.intro auF ?_; refine hK _ _ ?_; clear hK K; refine dw_cond (t := false) rfl ?_; rw [if_neg (by simp)]; refine dw_seq ?_; refine dwk [(16, .v (.bool false))] TRE_ok hnt fun K hK => ?_
      refine And.intro (VLe.refl _) ?_; refine hK _ _ ?_; clear hK K; refine dw_cond (t := false) rfl ?_; rw [if_neg (by simp)]; refine dw_seq ?_; refine dwk [(36, .v (.bool true)), (42, .v (.int .i64 (↑C.length))), (43, .v (.bool true))] TRE_ok hnt fun K hK => ?_; refine And.intro (VLe.refl _) ?_; refine And.intro (dintE (by rw [eTys_len])) ?_; refine And.intro auT ?_; refine hK _ _ ?_; clear hK K; refine dw_cond (t := true) rfl ?_
      rw [if_pos rfl]; refine dw_seq ?_; refine dwk [(49, .q [.sl 2 (eTys C[n].args) none, .v (.int .i64 C[n].base)])] TRE_ok hnt fun K hK => ?_; refine And.intro (elo (eTys_len C)) ?_; refine And.intro (elv (eTys_getD C n) (eTy_eq _)) ?_; refine hK _ _ ?_; clear hK K; refine dw_ret ?_
      exact reta rfl
    ·rw [List.getElem?_eq_none (by omega)]
     simp only [Option.getD_none, Option.isSome_none]
     rw [tyZ_eq]
     refine calldw 0 70 [ResultVar.cell 6 91, ResultVar.tmp 7] TRE_ok Tryz.func106 rfl Tryz.ntmps106 rfl fun cx hnt hn0 => ?_
     ·skip
      refine dw_seq ?_; refine dwk [] TRE_ok hnt fun K hK => ?_; refine hK _ _ ?_; clear hK K; refine dw_seq ?_; refine dw_block ?_; refine dw_seq ?_; refine dwk [(11, .v (.bool false))] TRE_ok hnt fun K hK => ?_; refine And.intro auF ?_; refine hK _ _ ?_; clear hK K; refine dw_cond (t := false) rfl ?_; rw [if_neg (by simp)]; refine dw_seq ?_; refine dwk [(16, .v (.bool false))] TRE_ok hnt fun K hK => ?_
      refine And.intro (VLe.refl _) ?_; refine hK _ _ ?_; clear hK K; refine dw_cond (t := false) rfl ?_; rw [if_neg (by simp)]; refine dw_seq ?_; refine dwk [(36, .v (.bool true)), (42, .v (.int .i64 (↑C.length))), (43, .v (.bool false))] TRE_ok hnt fun K hK => ?_; refine And.intro (VLe.refl _) ?_; refine And.intro (dintE (by rw [eTys_len])) ?_; refine And.intro auF ?_; refine hK _ _ ?_; clear hK K; refine dw_cond (t := false) rfl ?_
      rw [if_neg (by simp)]; refine dw_seq ?_; refine dwk [(54, .v (.bool false))] TRE_ok hnt fun K hK => ?_; refine And.intro (VLe.refl _) ?_; refine hK _ _ ?_; clear hK K; refine dw_cond (t := false) rfl ?_; rw [if_neg (by simp)]; refine dw_skip ?_; refine dw_seq ?_; refine dwk [] TRE_ok hnt fun K hK => ?_; refine hK _ _ ?_; clear hK K; refine dw_ret ?_
      exact reta rfl
   ·by_cases k2 : k = 2
    ·subst k2
     rw [headTy_2]
     by_cases hl : n < M.length
     ·rw [List.getElem?_eq_getElem hl]
      simp only [Option.getD_some, Option.isSome_some]
      rw [eTy_eq]
      refine calldw 0 70 [ResultVar.cell 6 91, ResultVar.tmp 7] TRE_ok Tryz.func106 rfl Tryz.ntmps106 rfl fun cx hnt hn0 => ?_
      ·skip
       refine dw_seq ?_; refine dwk [] TRE_ok hnt fun K hK => ?_; refine hK _ _ ?_; clear hK K; refine dw_seq ?_; refine dw_block ?_; refine dw_seq ?_; refine dwk [(11, .v (.bool false))] TRE_ok hnt fun K hK => ?_; refine And.intro auF ?_; refine hK _ _ ?_; clear hK K; refine dw_cond (t := false) rfl ?_; rw [if_neg (by simp)]; refine dw_seq ?_; refine dwk [(16, .v (.bool false))] TRE_ok hnt fun K hK => ?_
       refine And.intro (VLe.refl _) ?_; refine hK _ _ ?_; clear hK K; refine dw_cond (t := false) rfl ?_; rw [if_neg (by simp)]; refine dw_seq ?_; refine dwk [(36, .v (.bool false))] TRE_ok hnt fun K hK => ?_; refine And.intro (VLe.refl _) ?_; refine hK _ _ ?_; clear hK K; refine dw_cond (t := false) rfl ?_; rw [if_neg (by simp)]; refine dw_seq ?_; refine dwk [(54, .v (.bool true)), (60, .v (.int .i64 (↑M.length))), (61, .v (.bool true))] TRE_ok hnt fun K hK => ?_
       refine And.intro (VLe.refl _) ?_; refine And.intro (dintE (by rw [eTys_len])) ?_; refine And.intro auT ?_; refine hK _ _ ?_; clear hK K; refine dw_cond (t := true) rfl ?_; rw [if_pos rfl]; refine dw_seq ?_; refine dwk [(67, .q [.sl 2 (eTys M[n].args) none, .v (.int .i64 M[n].base)])] TRE_ok hnt fun K hK => ?_; refine And.intro (elo (eTys_len M)) ?_; refine And.intro (elv (eTys_getD M n) (eTy_eq _)) ?_
       refine hK _ _ ?_; clear hK K; refine dw_ret ?_
       exact reta rfl
     ·rw [List.getElem?_eq_none (by omega)]
      simp only [Option.getD_none, Option.isSome_none]
      rw [tyZ_eq]
      refine calldw 0 70 [ResultVar.cell 6 91, ResultVar.tmp 7] TRE_ok Tryz.func106 rfl Tryz.ntmps106 rfl fun cx hnt hn0 => ?_
      ·skip
       refine dw_seq ?_; refine dwk [] TRE_ok hnt fun K hK => ?_; refine hK _ _ ?_; clear hK K; refine dw_seq ?_; refine dw_block ?_; refine dw_seq ?_; refine dwk [(11, .v (.bool false))] TRE_ok hnt fun K hK => ?_; refine And.intro auF ?_; refine hK _ _ ?_; clear hK K; refine dw_cond (t := false) rfl ?_; rw [if_neg (by simp)]; refine dw_seq ?_; refine dwk [(16, .v (.bool false))] TRE_ok hnt fun K hK => ?_
       refine And.intro (VLe.refl _) ?_; refine hK _ _ ?_; clear hK K; refine dw_cond (t := false) rfl ?_; rw [if_neg (by simp)]; refine dw_seq ?_; refine dwk [(36, .v (.bool false))] TRE_ok hnt fun K hK => ?_; refine And.intro (VLe.refl _) ?_; refine hK _ _ ?_; clear hK K; refine dw_cond (t := false) rfl ?_; rw [if_neg (by simp)]; refine dw_seq ?_; refine dwk [(54, .v (.bool true)), (60, .v (.int .i64 (↑M.length))), (61, .v (.bool false))] TRE_ok hnt fun K hK => ?_
       refine And.intro (VLe.refl _) ?_; refine And.intro (dintE (by rw [eTys_len])) ?_; refine And.intro auF ?_; refine hK _ _ ?_; clear hK K; refine dw_cond (t := false) rfl ?_; rw [if_neg (by simp)]; refine dw_skip ?_; refine dw_seq ?_; refine dwk [] TRE_ok hnt fun K hK => ?_; refine hK _ _ ?_; clear hK K; refine dw_ret ?_
       exact reta rfl
    ·rw [headTy_o k0 k1 k2]
     simp only [Option.getD_none, Option.isSome_none]
     rw [tyZ_eq]
     refine calldw 0 70 [ResultVar.cell 6 91, ResultVar.tmp 7] TRE_ok Tryz.func106 rfl Tryz.ntmps106 rfl fun cx hnt hn0 => ?_
     ·skip
      refine dw_seq ?_; refine dwk [] TRE_ok hnt fun K hK => ?_; refine hK _ _ ?_; clear hK K; refine dw_seq ?_; refine dw_block ?_; refine dw_seq ?_; refine dwk [(11, .v (.bool false))] TRE_ok hnt fun K hK => ?_; refine And.intro auF ?_; refine hK _ _ ?_; clear hK K; refine dw_cond (t := false) rfl ?_; rw [if_neg (by simp)]; refine dw_seq ?_; refine dwk [(16, .v (.bool false))] TRE_ok hnt fun K hK => ?_
      refine And.intro (beqF k0) ?_; refine hK _ _ ?_; clear hK K; refine dw_cond (t := false) rfl ?_; rw [if_neg (by simp)]; refine dw_seq ?_; refine dwk [(36, .v (.bool false))] TRE_ok hnt fun K hK => ?_; refine And.intro (beqF k1) ?_; refine hK _ _ ?_; clear hK K; refine dw_cond (t := false) rfl ?_; rw [if_neg (by simp)]; refine dw_seq ?_; refine dwk [(54, .v (.bool false))] TRE_ok hnt fun K hK => ?_
      refine And.intro (beqF k2) ?_; refine hK _ _ ?_; clear hK K; refine dw_cond (t := false) rfl ?_; rw [if_neg (by simp)]; refine dw_skip ?_; refine dw_seq ?_; refine dwk [] TRE_ok hnt fun K hK => ?_; refine hK _ _ ?_; clear hK K; refine dw_ret ?_
      exact reta rfl
theorem rtype_d (b : Int) (C M : List Ty) (t : Tm) (hC : C.length ≤ 1000000) (hM : M.length ≤ 1000000) (hz : t.full ≤ 40000) :
  PureC Tryz.prog 63 [.ag [.v (.int .i64 b), .sl 2 (eTys C) none, .sl 2 (eTys M) none], .v (.slice none 0 0), .ag (eTm t)] (.tu [.ag (eTy ((tyOf C M t).getD tyZ)), .v (.bool (tyOf C M t).isSome)]) := by
 have hbl := Ty.le_sizes t.binds
 have hfl := full_args t
 have hbe : PureC Tryz.prog 53 [.v (.slice none 0 0), .sl 2 (eTys t.binds) none] (.sl 2 (eTys ([] ++ t.binds)) none) := CallC.vle (rbehind_d [] t.binds (by simp; omega)) (.cons (VLe.nil _) (.cons (VLe.refl _) .nil)) (VLe.refl _)
 have hh := rheadA_d b C M ([] ++ t.binds) t.kind t.index hC hM (by simp; omega)
 unfold tyOf
 obtain ⟨o, ho⟩ : ∃ o, headTy C M ([] ++ t.binds) t.kind t.index = o := ⟨_, rfl⟩
 obtain ⟨X, hX⟩ : ∃ X, [] ++ t.binds = X := ⟨_, rfl⟩
 rw [hX] at hh hbe ho ⊢
 rw [ho] at hh ⊢
 rw [eTm_eq]
 cases o with
 | none =>
  simp only [Option.map_none, Option.getD_none, Option.isSome_none] at hh ⊢
  rw [tyZ_eq] at hh ⊢
  refine calldw 0 29 [ResultVar.cell 6 91, ResultVar.tmp 7] TRE_ok Tryz.func63 rfl Tryz.ntmps63 rfl fun cx hnt hn0 => ?_
  ·skip
   refine dw_seq ?_; refine dwk [] TRE_ok hnt fun K hK => ?_; refine hK _ _ ?_; clear hK K; refine dw_seq ?_; refine dwkD [] TRE_ok hnt fun K hK => ?_; refine dcl (hbe) ?_; refine dcl (hh) ?_; refine hK _ _ (by kernel_rfl) ?_; clear hK K; refine dw_seq ?_; refine dw_seq ?_; refine dwk [] TRE_ok hnt fun K hK => ?_; refine hK _ _ ?_; clear hK K; refine dw_cond (t := true) rfl ?_; rw [if_pos rfl]; refine dw_seq ?_
   refine dwk [] TRE_ok hnt fun K hK => ?_; refine hK _ _ ?_; clear hK K; refine dw_ret ?_
   exact reta rfl
 | some h =>
  simp only [Option.map_some, Option.getD_some, Option.isSome_some] at hh ⊢
  rw [eTy_eq] at hh ⊢
  simp only [args_mk', base_mk']
  refine calldw 0 29 [ResultVar.cell 6 91, ResultVar.tmp 7] TRE_ok Tryz.func63 rfl Tryz.ntmps63 rfl fun cx hnt hn0 => ?_
  ·skip
   refine dw_seq ?_; refine dwk [] TRE_ok hnt fun K hK => ?_; refine hK _ _ ?_; clear hK K; refine dw_seq ?_; refine dwkD [] TRE_ok hnt fun K hK => ?_; refine dcl (hbe) ?_; refine dcl (hh) ?_; refine hK _ _ (by kernel_rfl) ?_; clear hK K; refine dw_seq ?_; refine dw_seq ?_; refine dwk [] TRE_ok hnt fun K hK => ?_; refine hK _ _ ?_; clear hK K; refine dw_cond (t := false) rfl ?_; rw [if_neg (by simp)]
   refine dw_skip ?_; refine dw_seq ?_; refine dwk [] TRE_ok hnt fun K hK => ?_; refine hK _ _ ?_; clear hK K; refine dw_ret ?_
   exact reta rfl
set_option maxHeartbeats 4000000 in
theorem risX_d (b : Int) (C M : List Ty) (hC : C.length ≤ 1000000) (hM : M.length ≤ 1000000) : ∀ (t : Tm) (X : List Ty) (u : Ty) (c : Bool), (c = true ↔ IsOf C M t X u) → X.length + t.full ≤ 900000 →
  PureC Tryz.prog 64 [.ag [.v (.int .i64 b), .sl 2 (eTys C) none, .sl 2 (eTys M) none], .sl 2 (eTys X) none, .ag (eTm t), .ag (eTy u)] (.v (.bool c)) := by
 intro t
 induction t using Tm.ind with
 | h bs k i a ih =>
 intro X u c hc hz
 rw [Tm.full_eq] at hz
 have hal := cFulls_len a
 have hbl := Ty.le_sizes bs
 have hbe := rbehind_d X bs (by omega)
 have hh := rheadA_d b C M (X ++ bs) k i hC hM (by simp; omega)
 obtain ⟨o, ho⟩ : ∃ o, headTy C M (X ++ bs) k i = o := ⟨_, rfl⟩
 obtain ⟨Y, hY⟩ : ∃ Y, X ++ bs = Y := ⟨_, rfl⟩
 have hYl : Y.length = X.length + bs.length := by rw [← hY]; simp
 have hty := rtypesEq_d bs u.args
 have no : ∀ (h : ∀ x, headTy C M (X ++ bs) k i = some x → bs = u.args → x.base = u.base → x.args.length = a.length → False), c = false := fun h => by
  rw [Bool.eq_false_iff]; exact fun hc1 => isOf_no h (hc.1 hc1)
 rw [ho] at hh no
 rw [eTm_eq, eTy_eq]
 simp only [bindsT, kindT, indexT, argsTm]
 rw [hY] at hbe hh
 cases o with
 | none =>
  simp only [Option.getD_none, Option.isSome_none] at hh
  rw [tyZ_eq] at hh
  rw [no (fun x h => by cases h)]
  refine calldw 0 72 [ResultVar.tmp 8] TRE_ok Tryz.func64 rfl Tryz.ntmps64 rfl fun cx hnt hn0 => ?_
  ·skip
   refine dw_seq ?_; refine dwk [] TRE_ok hnt fun K hK => ?_; refine hK _ _ ?_; clear hK K; refine dw_seq ?_; refine dwk [] TRE_ok hnt fun K hK => ?_; refine dcl (hbe) ?_; refine hK _ _ ?_; clear hK K; refine dw_seq ?_; refine dwk [] TRE_ok hnt fun K hK => ?_; refine dcl (hh) ?_; refine hK _ _ ?_; clear hK K; refine dw_seq ?_; refine dw_seq ?_; refine dwk [] TRE_ok hnt fun K hK => ?_; refine hK _ _ ?_; clear hK K
   refine dw_cond (t := true) rfl ?_; rw [if_pos rfl]; refine dw_seq ?_; refine dwk [] TRE_ok hnt fun K hK => ?_; refine hK _ _ ?_; clear hK K; refine dw_ret ?_
   exact reta rfl
 | some h =>
 simp only [Option.getD_some, Option.isSome_some] at hh
 rw [eTy_eq] at hh
 by_cases hb : bs = u.args
 ·rw [decide_eq_true hb] at hty
  by_cases hbs : h.base = u.base
  ·by_cases hln : h.args.length = a.length
   ·have hIff : c = true ↔ ∀ j (h1 : j < a.length) (h2 : j < h.args.length), IsOf C M a[j] Y h.args[j] := by
     rw [hc, isOf_mk, hY]
     constructor
     ·rintro ⟨_, x, h2, _, h4⟩ j j1 j2
      rw [← hY, ho] at h2; cases h2
      exact (isOfs_iff.1 h4).2 j j1 j2
     ·intro hall
      exact ⟨hb, h, by rw [← hY, ho], hbs, isOfs_iff.2 ⟨hln, hall⟩⟩
    have hI : ∀ j (h1 : j < a.length) (h2 : j < h.args.length) (d : Bool), (d = true ↔ IsOf C M a[j] Y h.args[j]) → PureC Tryz.prog 64 [.ag [.v (.int .i64 b), .sl 2 (eTys C) none, .sl 2 (eTys M) none], .sl 2 (eTys Y) none, .ag (eTm a[j]), .ag (eTy h.args[j])] (.v (.bool d)) := fun j h1 h2 d hd => ih _ (List.getElem_mem h1) Y _ d hd (by have := Tm.full_mem (List.getElem_mem h1); omega)
    clear ih no hc
    refine calldw 0 72 [ResultVar.tmp 8] TRE_ok Tryz.func64 rfl Tryz.ntmps64 rfl fun cx hnt hn0 => ?_
    ·skip
     refine dw_seq ?_; refine dwk [] TRE_ok hnt fun K hK => ?_; refine hK _ _ ?_; clear hK K; refine dw_seq ?_; refine dwk [] TRE_ok hnt fun K hK => ?_; refine dcl (hbe) ?_; refine hK _ _ ?_; clear hK K; refine dw_seq ?_; refine dwk [] TRE_ok hnt fun K hK => ?_; refine dcl (hh) ?_; refine hK _ _ ?_; clear hK K; refine dw_seq ?_; refine dw_seq ?_; refine dwk [(40, .v (.bool false)), (45, .v (.int .i64 (↑h.args.length))), (48, .v (.int .i64 (↑a.length))), (49, .v (.bool false))] TRE_ok hnt fun K hK => ?_
     refine dcl (hty) ?_; refine And.intro (bneF hbs) ?_; refine And.intro (dintE (by rw [eTys_len])) ?_; refine And.intro (dintE (by rw [eTms_len])) ?_; refine And.intro (bneF (by omega)) ?_; refine hK _ _ ?_; clear hK K; refine dw_cond (t := false) rfl ?_; rw [if_neg (by simp)]; refine dw_skip ?_; refine dw_seq ?_; refine dw_seq ?_; refine dwk [] TRE_ok hnt fun K hK => ?_; refine hK _ _ ?_; clear hK K
     refine dw_block ?_
     refine dw_loop (ι := { j : Nat // ∀ i (h1 : i < a.length) (h2 : i < h.args.length), i < j → IsOf C M a[i] Y h.args[i] }) (fun j => [(.t 4, .p 0 0), (.t 6, .p 1 0), (.t 7, .p 2 0), (.t 9, .sl 2 (eTys Y) none), (.t 10, .p 17 0), (.t 12, .v (.int .i64 ↑j.1)), (.c 0 0, .v (.int .i64 b)), (.c 0 1, .sl 2 (eTys C) none), (.c 0 2, .sl 2 (eTys M) none), (.c 1 0, .sl 2 (eTys bs) none), (.c 1 1, .v (.int .i64 k)), (.c 1 2, .v (.int .i64 i)), (.c 1 3, .sl 4 (eTms a) none), (.c 17 0, .sl 2 (eTys h.args) none), (.c 17 1, .v (.int .i64 h.base))]) 18 (fun j => a.length - j.1) (⟨0, fun i h1 h2 h3 => by omega⟩) (VS.toA) fun j => ?_
     obtain ⟨j, hj⟩ := j
     dsimp only
     by_cases hlt : j < a.length
     ·have hlt2 : j < h.args.length := by omega
      by_cases hio : IsOf C M a[j] Y h.args[j]
      ·have hi := hI j hlt hlt2 true (by simp [hio])
       rw [eTm_eq, eTy_eq] at hi
       refine dw_seq ?_; refine dw_seq ?_; refine dwk [(54, .v (.int .i64 (↑a.length))), (55, .v (.bool true))] TRE_ok hnt fun K hK => ?_; refine And.intro (dintE (by rw [eTms_len])) ?_; refine And.intro auT ?_; refine hK _ _ ?_; clear hK K; refine dw_cond (t := true) rfl ?_; rw [if_pos rfl]; refine dw_skip ?_; refine dw_seq ?_; refine dw_block ?_; refine dw_seq ?_; refine dwkD [(63, .q [.sl 2 (eTys a[j].binds) none, .v (.int .i64 a[j].kind), .v (.int .i64 a[j].index), .sl 4 (eTms a[j].args) none]), (68, .q [.sl 2 (eTys h.args[j].args) none, .v (.int .i64 h.args[j].base)])] TRE_ok hnt fun K hK => ?_
       refine And.intro (elo (eTms_len a)) ?_; refine And.intro (elv (eTms_getD a j) (eTm_eq _)) ?_; refine And.intro (elo (eTys_len h.args)) ?_; refine And.intro (elv (eTys_getD h.args j) (eTy_eq _)) ?_; refine dcl (hi) ?_; refine hK _ _ (by kernel_rfl) ?_; clear hK K; refine dw_cond (t := false) rfl ?_; rw [if_neg (by simp)]; refine dw_skip ?_; refine dwk [(57, .v (.int .i64 (↑(j + 1))))] TRE_ok hnt fun K hK => ?_
       refine And.intro auI ?_; refine hK _ _ ?_; clear hK K
       refine ⟨⟨j + 1, fun q h1 h2 h3 => if e : q = j then by subst e; exact hio else hj q h1 h2 (by omega)⟩, by first | omega | (dsimp only; omega), VS.toA⟩
      ·have hi := hI j hlt hlt2 false (by simp [hio])
       rw [eTm_eq, eTy_eq] at hi
       have hcf : c = false := by rw [Bool.eq_false_iff]; exact fun h1 => hio (hIff.1 h1 j hlt hlt2)
       rw [hcf]
       refine dw_seq ?_; refine dw_seq ?_; refine dwk [(54, .v (.int .i64 (↑a.length))), (55, .v (.bool true))] TRE_ok hnt fun K hK => ?_; refine And.intro (dintE (by rw [eTms_len])) ?_; refine And.intro auT ?_; refine hK _ _ ?_; clear hK K; refine dw_cond (t := true) rfl ?_; rw [if_pos rfl]; refine dw_skip ?_; refine dw_seq ?_; refine dw_block ?_; refine dw_seq ?_; refine dwkD [(63, .q [.sl 2 (eTys a[j].binds) none, .v (.int .i64 a[j].kind), .v (.int .i64 a[j].index), .sl 4 (eTms a[j].args) none]), (68, .q [.sl 2 (eTys h.args[j].args) none, .v (.int .i64 h.args[j].base)])] TRE_ok hnt fun K hK => ?_
       refine And.intro (elo (eTms_len a)) ?_; refine And.intro (elv (eTms_getD a j) (eTm_eq _)) ?_; refine And.intro (elo (eTys_len h.args)) ?_; refine And.intro (elv (eTys_getD h.args j) (eTy_eq _)) ?_; refine dcl (hi) ?_; refine hK _ _ (by kernel_rfl) ?_; clear hK K; refine dw_cond (t := true) rfl ?_; rw [if_pos rfl]; refine dw_seq ?_; refine dwk [] TRE_ok hnt fun K hK => ?_; refine hK _ _ ?_; clear hK K
       refine dw_ret ?_
       exact reta rfl
     ·rw [hIff.2 fun q h1 h2 => hj q h1 h2 (by omega)]
      refine dw_seq ?_; refine dw_seq ?_; refine dwk [(54, .v (.int .i64 (↑a.length))), (55, .v (.bool false))] TRE_ok hnt fun K hK => ?_; refine And.intro (dintE (by rw [eTms_len])) ?_; refine And.intro auF ?_; refine hK _ _ ?_; clear hK K; refine dw_cond (t := false) rfl ?_; rw [if_neg (by simp)]; refine dw_exit ?_; refine dw_seq ?_; refine dwk [] TRE_ok hnt fun K hK => ?_; refine hK _ _ ?_; clear hK K
      refine dw_ret ?_
      exact reta rfl
   ·rw [no (fun x h1 _ _ h4 => by cases h1; exact hln h4)]
    refine calldw 0 72 [ResultVar.tmp 8] TRE_ok Tryz.func64 rfl Tryz.ntmps64 rfl fun cx hnt hn0 => ?_
    ·skip
     refine dw_seq ?_; refine dwk [] TRE_ok hnt fun K hK => ?_; refine hK _ _ ?_; clear hK K; refine dw_seq ?_; refine dwk [] TRE_ok hnt fun K hK => ?_; refine dcl (hbe) ?_; refine hK _ _ ?_; clear hK K; refine dw_seq ?_; refine dwk [] TRE_ok hnt fun K hK => ?_; refine dcl (hh) ?_; refine hK _ _ ?_; clear hK K; refine dw_seq ?_; refine dw_seq ?_; refine dwk [(40, .v (.bool false)), (45, .v (.int .i64 (↑h.args.length))), (48, .v (.int .i64 (↑a.length))), (49, .v (.bool true))] TRE_ok hnt fun K hK => ?_
     refine dcl (hty) ?_; refine And.intro (bneF hbs) ?_; refine And.intro (dintE (by rw [eTys_len])) ?_; refine And.intro (dintE (by rw [eTms_len])) ?_; refine And.intro (bneT (by omega)) ?_; refine hK _ _ ?_; clear hK K; refine dw_cond (t := true) rfl ?_; rw [if_pos rfl]; refine dw_seq ?_; refine dwk [] TRE_ok hnt fun K hK => ?_; refine hK _ _ ?_; clear hK K; refine dw_ret ?_
     exact reta rfl
  ·rw [no (fun x h1 _ h3 _ => by cases h1; exact hbs h3)]
   refine calldw 0 72 [ResultVar.tmp 8] TRE_ok Tryz.func64 rfl Tryz.ntmps64 rfl fun cx hnt hn0 => ?_
   ·skip
    refine dw_seq ?_; refine dwk [] TRE_ok hnt fun K hK => ?_; refine hK _ _ ?_; clear hK K; refine dw_seq ?_; refine dwk [] TRE_ok hnt fun K hK => ?_; refine dcl (hbe) ?_; refine hK _ _ ?_; clear hK K; refine dw_seq ?_; refine dwk [] TRE_ok hnt fun K hK => ?_; refine dcl (hh) ?_; refine hK _ _ ?_; clear hK K; refine dw_seq ?_; refine dw_seq ?_; refine dwk [(40, .v (.bool true))] TRE_ok hnt fun K hK => ?_
    refine dcl (hty) ?_; refine And.intro (bneT hbs) ?_; refine hK _ _ ?_; clear hK K; refine dw_cond (t := true) rfl ?_; rw [if_pos rfl]; refine dw_seq ?_; refine dwk [] TRE_ok hnt fun K hK => ?_; refine hK _ _ ?_; clear hK K; refine dw_ret ?_
    exact reta rfl
 ·rw [decide_eq_false hb] at hty
  rw [no (fun x _ h2 _ _ => hb h2)]
  refine calldw 0 72 [ResultVar.tmp 8] TRE_ok Tryz.func64 rfl Tryz.ntmps64 rfl fun cx hnt hn0 => ?_
  ·skip
   refine dw_seq ?_; refine dwk [] TRE_ok hnt fun K hK => ?_; refine hK _ _ ?_; clear hK K; refine dw_seq ?_; refine dwk [] TRE_ok hnt fun K hK => ?_; refine dcl (hbe) ?_; refine hK _ _ ?_; clear hK K; refine dw_seq ?_; refine dwk [] TRE_ok hnt fun K hK => ?_; refine dcl (hh) ?_; refine hK _ _ ?_; clear hK K; refine dw_seq ?_; refine dw_seq ?_; refine dwk [] TRE_ok hnt fun K hK => ?_; refine dcl (hty) ?_
   refine hK _ _ ?_; clear hK K; refine dw_cond (t := true) rfl ?_; rw [if_pos rfl]; refine dw_seq ?_; refine dwk [] TRE_ok hnt fun K hK => ?_; refine hK _ _ ?_; clear hK K; refine dw_ret ?_
   exact reta rfl
theorem ris_d (b : Int) (C M : List Ty) (t : Tm) (u : Ty) (c : Bool) (hC : C.length ≤ 1000000) (hM : M.length ≤ 1000000) (hc : c = true ↔ IsOf C M t [] u) (hz : t.full ≤ 90000) :
    PureC Tryz.prog 64 [.ag [.v (.int .i64 b), .sl 2 (eTys C) none, .sl 2 (eTys M) none], .v (.slice none 0 0), .ag (eTm t), .ag (eTy u)] (.v (.bool c)) :=
  CallC.vle (risX_d b C M hC hM t [] u c hc (by simp; omega)) (.cons (VLe.refl _) (.cons (VLe.nil _) (.cons (VLe.refl _) (.cons (VLe.refl _) .nil)))) (VLe.refl _)
end Go.Proofs.YtdmiekaeodcehaaGreat

namespace Go.Proofs.YtdmiekaeodcehaaGreat
open Go.RowKit
def TRF_54 : TI := ⟨3, true, [Value.int IntKind.i64 0, Value.slice none 0 0, Value.slice none 0 0], [(0, 1, false), (1, 1, false), (2, 1, false)], none, 56, 6, none, false⟩
theorem TRF_54_ok : TypOk Tryz.prog 54 TRF_54 := ⟨by kernel_rfl, by kernel_rfl, by kernel_rfl, by kernel_rfl, by kernel_rfl⟩
def TRF_3 : TI := ⟨1, false, [Value.int IntKind.i64 0], [], none, 8, 2, none, false⟩
theorem TRF_3_ok : TypOk Tryz.prog 3 TRF_3 := ⟨by kernel_rfl, by kernel_rfl, by kernel_rfl, by kernel_rfl, by kernel_rfl⟩
def TRF_36 : TI := ⟨4, true, [Value.slice none 0 0, Value.int IntKind.i64 0, Value.int IntKind.i64 0, Value.slice none 0 0], [(0, 1, false), (1, 2, true), (3, 1, false)], none, 64, 6, none, false⟩
theorem TRF_36_ok : TypOk Tryz.prog 36 TRF_36 := ⟨by kernel_rfl, by kernel_rfl, by kernel_rfl, by kernel_rfl, by kernel_rfl⟩
def TRF_29 : TI := ⟨9, true, [Value.slice none 0 0, Value.int IntKind.i64 0, Value.int IntKind.i64 0, Value.slice none 0 0, Value.slice none 0 0, Value.int IntKind.i64 0, Value.int IntKind.i64 0, Value.slice none 0 0, Value.slice none 0 0], [(0, 4, true), (4, 4, true), (8, 1, false)], none, 152, 6, none, false⟩
theorem TRF_29_ok : TypOk Tryz.prog 29 TRF_29 := ⟨by kernel_rfl, by kernel_rfl, by kernel_rfl, by kernel_rfl, by kernel_rfl⟩
def TRF_48 : TI := ⟨3, true, [Value.int IntKind.i64 0, Value.slice none 0 0, Value.slice none 0 0], [(0, 1, false), (1, 1, false), (2, 1, false)], none, 56, 6, none, false⟩
theorem TRF_48_ok : TypOk Tryz.prog 48 TRF_48 := ⟨by kernel_rfl, by kernel_rfl, by kernel_rfl, by kernel_rfl, by kernel_rfl⟩
def TRF_27 : TI := ⟨4, true, [Value.slice none 0 0, Value.int IntKind.i64 0, Value.int IntKind.i64 0, Value.slice none 0 0], [(0, 1, false), (1, 2, true), (3, 1, false)], none, 64, 6, none, false⟩
theorem TRF_27_ok : TypOk Tryz.prog 27 TRF_27 := ⟨by kernel_rfl, by kernel_rfl, by kernel_rfl, by kernel_rfl, by kernel_rfl⟩
def TRF_38 : TI := ⟨9, true, [Value.slice none 0 0, Value.int IntKind.i64 0, Value.int IntKind.i64 0, Value.slice none 0 0, Value.slice none 0 0, Value.int IntKind.i64 0, Value.int IntKind.i64 0, Value.slice none 0 0, Value.slice none 0 0], [(0, 4, true), (4, 4, true), (8, 1, false)], none, 152, 6, none, false⟩
theorem TRF_38_ok : TypOk Tryz.prog 38 TRF_38 := ⟨by kernel_rfl, by kernel_rfl, by kernel_rfl, by kernel_rfl, by kernel_rfl⟩
def TRF_82 : TI := ⟨1, false, [Value.slice none 0 0], [], some 3, 24, 5, none, false⟩
theorem TRF_82_ok : TypOk Tryz.prog 82 TRF_82 := ⟨by kernel_rfl, by kernel_rfl, by kernel_rfl, by kernel_rfl, by kernel_rfl⟩
def TRF_22 : TI := ⟨1, false, [Value.slice none 0 0], [], some 91, 24, 5, none, false⟩
theorem TRF_22_ok : TypOk Tryz.prog 22 TRF_22 := ⟨by kernel_rfl, by kernel_rfl, by kernel_rfl, by kernel_rfl, by kernel_rfl⟩
def TRF_91 : TI := ⟨2, true, [Value.slice none 0 0, Value.int IntKind.i64 0], [(0, 1, false), (1, 1, false)], none, 32, 6, none, false⟩
theorem TRF_91_ok : TypOk Tryz.prog 91 TRF_91 := ⟨by kernel_rfl, by kernel_rfl, by kernel_rfl, by kernel_rfl, by kernel_rfl⟩
def TRF_32 : TI := ⟨1, false, [Value.slice none 0 0], [], some 75, 24, 5, none, false⟩
theorem TRF_32_ok : TypOk Tryz.prog 32 TRF_32 := ⟨by kernel_rfl, by kernel_rfl, by kernel_rfl, by kernel_rfl, by kernel_rfl⟩
def TRF_75 : TI := ⟨2, true, [Value.slice none 0 0, Value.int IntKind.i64 0], [(0, 1, false), (1, 1, false)], none, 32, 6, none, false⟩
theorem TRF_75_ok : TypOk Tryz.prog 75 TRF_75 := ⟨by kernel_rfl, by kernel_rfl, by kernel_rfl, by kernel_rfl, by kernel_rfl⟩
def TRF_34 : TI := ⟨1, false, [Value.slice none 0 0], [], some 36, 24, 5, none, false⟩
theorem TRF_34_ok : TypOk Tryz.prog 34 TRF_34 := ⟨by kernel_rfl, by kernel_rfl, by kernel_rfl, by kernel_rfl, by kernel_rfl⟩
def TRF_25 : TI := ⟨1, false, [Value.slice none 0 0], [], some 27, 24, 5, none, false⟩
theorem TRF_25_ok : TypOk Tryz.prog 25 TRF_25 := ⟨by kernel_rfl, by kernel_rfl, by kernel_rfl, by kernel_rfl, by kernel_rfl⟩
def TRF_39 : TI := ⟨1, false, [Value.int IntKind.i64 0], [], none, 8, 2, none, false⟩
theorem TRF_39_ok : TypOk Tryz.prog 39 TRF_39 := ⟨by kernel_rfl, by kernel_rfl, by kernel_rfl, by kernel_rfl, by kernel_rfl⟩
def TRF_115 : TI := ⟨1, false, [Value.nilFunc], [], none, 8, 8, none, false⟩
theorem TRF_115_ok : TypOk Tryz.prog 115 TRF_115 := ⟨by kernel_rfl, by kernel_rfl, by kernel_rfl, by kernel_rfl, by kernel_rfl⟩
def TRF_33 : TI := ⟨2, true, [Value.int IntKind.i64 0, Value.int IntKind.i64 0], [(0, 1, false), (1, 1, false)], none, 16, 6, none, true⟩
theorem TRF_33_ok : TypOk Tryz.prog 33 TRF_33 := ⟨by kernel_rfl, by kernel_rfl, by kernel_rfl, by kernel_rfl, by kernel_rfl⟩
def TRF_24 : TI := ⟨2, true, [Value.int IntKind.i64 0, Value.int IntKind.i64 0], [(0, 1, false), (1, 1, false)], none, 16, 6, none, true⟩
theorem TRF_24_ok : TypOk Tryz.prog 24 TRF_24 := ⟨by kernel_rfl, by kernel_rfl, by kernel_rfl, by kernel_rfl, by kernel_rfl⟩
def TRF : List (Nat × TI) := [(54, TRF_54), (3, TRF_3), (36, TRF_36), (29, TRF_29), (48, TRF_48), (27, TRF_27), (38, TRF_38), (82, TRF_82), (22, TRF_22), (91, TRF_91), (32, TRF_32), (75, TRF_75), (34, TRF_34), (25, TRF_25), (39, TRF_39), (115, TRF_115), (33, TRF_33), (24, TRF_24)]
theorem TRF_ok : TabOk Tryz.prog TRF := (((((((((((((((((((TabOk.nil _).cons TRF_24_ok).cons TRF_33_ok).cons TRF_115_ok).cons TRF_39_ok).cons TRF_25_ok).cons TRF_34_ok).cons TRF_75_ok).cons TRF_32_ok).cons TRF_91_ok).cons TRF_22_ok).cons TRF_82_ok).cons TRF_38_ok).cons TRF_27_ok).cons TRF_48_ok).cons TRF_29_ok).cons TRF_36_ok).cons TRF_3_ok).cons TRF_54_ok)
namespace Ru
structure Good (b : Int) (C : List Ty) (p : Li.Pr) : Prop where
  w : RightWd b C p.m
  l : Li.rt p.l = true
  r : Li.rt p.r = true
  u : ∃ u, tyOf C p.m p.l = some u ∧ u.args = [] ∧ IsOf C p.m p.l [] u ∧ IsOf C p.m p.r [] u
end Ru
theorem ruclos_d (b : Int) (C M : List Ty) (u : Ty) (t : Tm) (c : Int) (hC : C.length ≤ 1000000) (hM : M.length ≤ 1000000) (hc : checkCode C M t [] u c) (hz : t.full ≤ 90000) (hf : t.Fit) :
  CallC Tryz.prog 58 [.ag (eTm t), .p 10 0, .p 34 0] [(.c 10 0, .v (.int .i64 b)), (.c 10 1, .sl 2 (eTys C) none), (.c 10 2, .sl 2 (eTys M) none), (.c 34 0, .sl 2 (eTys u.args) none), (.c 34 1, .v (.int .i64 u.base))] [(.c 10 0, .v (.int .i64 b)), (.c 10 1, .sl 2 (eTys C) none), (.c 10 2, .sl 2 (eTys M) none), (.c 34 0, .sl 2 (eTys u.args) none), (.c 34 1, .v (.int .i64 u.base))] (.v (.bool (decide (c = 0)))) := by
 have h := tcheck_d b C M t u c hC hM hc hz hf
 rw [eTm_eq, eTy_eq] at h
 rw [eTm_eq]
 refine calldw 35 10 [ResultVar.tmp 4] TRF_ok Tryz.func58 rfl Tryz.ntmps58 rfl fun cx hnt hn0 => ?_
 ·skip
  refine dw_seq ?_; refine dwk [] TRF_ok hnt fun K hK => ?_; refine hK _ _ ?_; clear hK K; refine dw_seq ?_; refine dwk [(9, .v (.bool (decide (c = 0))))] TRF_ok hnt fun K hK => ?_; refine dcl (h) ?_; refine And.intro (VLe.of_eq (by by_cases h : c = 0 <;> simp [h])) ?_; refine hK _ _ ?_; clear hK K; refine dw_ret ?_
  exact reta rfl
theorem rworld17_d (b : Int) (C Mw : List Ty) (p : Li.Pr) : PureC Tryz.prog 60 [.ag [.v (.int .i64 b), .sl 2 (eTys C) none, .sl 2 (eTys Mw) none], .ag (ePr p)] (.ag [.v (.int .i64 b), .sl 2 (eTys C) none, .sl 2 (eTys p.m) none]) := by
 rw [ePr_at]
 refine calldw 0 12 [ResultVar.cell 4 54] TRF_ok Tryz.func60 rfl Tryz.ntmps60 rfl fun cx hnt hn0 => ?_
 ·skip
  refine dw_seq ?_; refine dwk [] TRF_ok hnt fun K hK => ?_; refine hK _ _ ?_; clear hK K; refine dw_seq ?_; refine dwk [] TRF_ok hnt fun K hK => ?_; refine hK _ _ ?_; clear hK K; refine dw_ret ?_
  exact reta rfl
theorem checkYes {C M : List Ty} {t : Tm} {u : Ty} (h1 : Li.rt t = true) (h2 : IsOf C M t [] u) : checkCode C M t [] u 0 := by
  unfold Li.rt at h1; rw [decide_eq_true_eq] at h1
  exact .inr (.inr ⟨h1, h2, rfl⟩)
theorem checkNo {C M : List Ty} {t : Tm} {u : Ty} (h1 : Li.rt t = true) (h2 : ¬ IsOf C M t [] u) : checkCode C M t [] u 5 := by
  unfold Li.rt at h1; rw [decide_eq_true_eq] at h1
  exact .inr (.inl ⟨h1, h2, rfl⟩)
set_option maxHeartbeats 2000000 in
theorem rutyped0_d (b : Int) (C Mw : List Ty) (p : Li.Pr) (hC : C.length ≤ 900000) (hM : p.m.length ≤ 900000) (hg : Ru.Good b C p) (hl : p.l.full ≤ 20000 ∧ p.l.Fit) (hr : p.r.full ≤ 20000 ∧ p.r.Fit) (hs : ∀ t ∈ C ++ p.m, t.size ≤ 400000) :
  PureC Tryz.prog 23 [.ag [.v (.int .i64 b), .sl 2 (eTys C) none, .sl 2 (eTys Mw) none], .ag (ePr p)] (.v (.int .i64 0)) := by
 obtain ⟨hw, hL, hR, u, ho, hu, hi1, hi2⟩ := hg
 have hW1 := tworld_d b C p.m true (by simp [hw]) hs
 have r1 := right_d p.l (by omega)
 have r2 := right_d p.r (by omega)
 rw [show decide (p.l.size ≤ 5000 ∧ p.l.depth ≤ 60) = Li.rt p.l from rfl, hL] at r1
 rw [show decide (p.r.size ≤ 5000 ∧ p.r.depth ≤ 60) = Li.rt p.r from rfl, hR] at r2
 have t1 := ttype_d b C p.m p.l (by have := hl.2; generalize p.l = t at this; cases t; exact (Tm.fit_iff.1 this).2.1) (by omega) (by omega) (by omega)
 rw [ho] at t1
 simp only [Option.getD_some, Option.isSome_some, if_true] at t1
 have hu0 : u.args.length = 0 := by rw [hu]; rfl
 have k1 := ruclos_d b C p.m u p.l 0 (by omega) (by omega) (checkYes hL hi1) (by omega) hl.2
 have k2 := ruclos_d b C p.m u p.r 0 (by omega) (by omega) (checkYes hR hi2) (by omega) hr.2
 rw [decide_eq_true rfl] at k1 k2
 rw [ePr_at]
 rw [eTm_eq] at r1 r2 t1 k1 k2
 rw [eTy_eq] at t1
 refine calldw 0 59 [ResultVar.tmp 4] TRF_ok Tryz.func23 rfl Tryz.ntmps23 rfl fun cx hnt hn0 => ?_
 ·skip
  refine dw_seq ?_; refine dwk [] TRF_ok hnt fun K hK => ?_; refine hK _ _ ?_; clear hK K; refine dw_seq ?_; refine dwk [] TRF_ok hnt fun K hK => ?_; refine hK _ _ ?_; clear hK K; refine dw_seq ?_; refine dw_block ?_; refine dw_seq ?_; refine dwk [] TRF_ok hnt fun K hK => ?_; refine dcl (hW1) ?_; refine hK _ _ ?_; clear hK K; refine dw_cond (t := false) rfl ?_; rw [if_neg (by simp)]; refine dw_seq ?_
  refine dwk [] TRF_ok hnt fun K hK => ?_; refine dcl (r1) ?_; refine dcl (r2) ?_; refine hK _ _ ?_; clear hK K; refine dw_cond (t := false) rfl ?_; rw [if_neg (by simp)]; refine dw_skip ?_; refine dw_seq ?_; refine dwk [] TRF_ok hnt fun K hK => ?_; refine dcl (t1) ?_; refine hK _ _ ?_; clear hK K; refine dw_seq ?_; refine dw_seq ?_; refine dwk [(39, .v (.bool false)), (43, .v (.int .i64 (↑u.args.length))), (44, .v (.bool false))] TRF_ok hnt fun K hK => ?_
  refine And.intro (bneF rfl) ?_; refine And.intro (dintE (by rw [eTys_len])) ?_; refine And.intro auF ?_; refine hK _ _ ?_; clear hK K; refine dw_cond (t := false) rfl ?_; rw [if_neg (by simp)]; refine dw_skip ?_; refine dw_seq ?_; refine dwk [] TRF_ok hnt fun K hK => ?_; refine hK _ _ ?_; clear hK K; refine dw_seq ?_; refine dw_seq ?_; refine dwk [] TRF_ok hnt fun K hK => ?_; refine dcl (k1) ?_; refine dcl (k2) ?_
  refine hK _ _ ?_; clear hK K; refine dw_cond (t := false) rfl ?_; rw [if_neg (by simp)]; refine dw_skip ?_; refine dw_seq ?_; refine dwk [] TRF_ok hnt fun K hK => ?_; refine hK _ _ ?_; clear hK K; refine dw_ret ?_
  exact reta rfl
set_option maxHeartbeats 4000000 in
theorem rutyped_d (b : Int) (C Mw : List Ty) (p : Li.Pr) (hl : p.l.full ≤ 20000 ∧ p.l.Fit) (hr : p.r.full ≤ 20000 ∧ p.r.Fit) (hC : C.length ≤ 900000) (hM : p.m.length ≤ 900000) (hs : ∀ t ∈ C ++ p.m, t.size ≤ 400000) :
  ∃ c : Int, (c = 0 ↔ Ru.Good b C p) ∧ PureC Tryz.prog 23 [.ag [.v (.int .i64 b), .sl 2 (eTys C) none, .sl 2 (eTys Mw) none], .ag (ePr p)] (.v (.int .i64 c)) ∧ PureC Tryz.prog 24 [.ag [.v (.int .i64 b), .sl 2 (eTys C) none, .sl 2 (eTys Mw) none], .ag (ePr p)] (.v (.int .i64 c)) := by
 obtain ⟨w, hw⟩ : ∃ w : Bool, w = true ↔ RightWd b C p.m := by
  by_cases h : RightWd b C p.m
  ·exact ⟨true, by simp [h]⟩
  ·exact ⟨false, by simp [h]⟩
 have hW1 := tworld_d b C p.m w hw hs
 have hW2 := trworld_d b C p.m w hw
 have hWd := rworld17_d b C Mw p
 have r1 := right_d p.l (by omega)
 have r2 := right_d p.r (by omega)
 rw [show decide (p.l.size ≤ 5000 ∧ p.l.depth ≤ 60) = Li.rt p.l from rfl] at r1
 rw [show decide (p.r.size ≤ 5000 ∧ p.r.depth ≤ 60) = Li.rt p.r from rfl] at r2
 have q1 := rRight_d p.l (by have := Tm.size_le_full p.l; omega)
 have q2 := rRight_d p.r (by have := Tm.size_le_full p.r; omega)
 have t1 := ttype_d b C p.m p.l (by have := hl.2; generalize p.l = t at this; cases t; exact (Tm.fit_iff.1 this).2.1) (by omega) (by omega) (by omega)
 have t2 := rtype_d b C p.m p.l (by omega) (by omega) (by omega)
 rw [ePr_at] at hWd ⊢
 rw [eTm_eq] at r1 r2 q1 q2 t1 t2
 cases w with
 | false =>
  refine ⟨1, ⟨fun h => absurd h (by decide), fun h => absurd (hw.2 h.w) (by simp)⟩, ?_, ?_⟩
  ·skip
   refine calldw 0 59 [ResultVar.tmp 4] TRF_ok Tryz.func23 rfl Tryz.ntmps23 rfl fun cx hnt hn0 => ?_
   ·skip
    refine dw_seq ?_; refine dwk [] TRF_ok hnt fun K hK => ?_; refine hK _ _ ?_; clear hK K; refine dw_seq ?_; refine dwk [] TRF_ok hnt fun K hK => ?_; refine hK _ _ ?_; clear hK K; refine dw_seq ?_; refine dw_block ?_; refine dw_seq ?_; refine dwk [] TRF_ok hnt fun K hK => ?_; refine dcl (hW1) ?_; refine hK _ _ ?_; clear hK K; refine dw_cond (t := true) rfl ?_; rw [if_pos rfl]; refine dw_seq ?_; refine dwk [] TRF_ok hnt fun K hK => ?_
    refine hK _ _ ?_; clear hK K; refine dw_ret ?_
    exact reta rfl
  ·skip
   refine calldw 0 55 [ResultVar.tmp 4] TRF_ok Tryz.func24 rfl Tryz.ntmps24 rfl fun cx hnt hn0 => ?_
   ·skip
    refine dw_seq ?_; refine dwk [] TRF_ok hnt fun K hK => ?_; refine hK _ _ ?_; clear hK K; refine dw_seq ?_; refine dwk [] TRF_ok hnt fun K hK => ?_; refine dcl (hWd) ?_; refine hK _ _ ?_; clear hK K; refine dw_seq ?_; refine dw_seq ?_; refine dwk [] TRF_ok hnt fun K hK => ?_; refine dcl (hW2) ?_; refine hK _ _ ?_; clear hK K; refine dw_cond (t := true) rfl ?_; rw [if_pos rfl]; refine dw_seq ?_; refine dwk [] TRF_ok hnt fun K hK => ?_
    refine hK _ _ ?_; clear hK K; refine dw_ret ?_
    exact reta rfl
 | true =>
 cases hL : Li.rt p.l with
 | false =>
  rw [hL] at r1 q1
  refine ⟨2, ⟨fun h => absurd h (by decide), fun h => absurd h.l (by rw [hL]; simp)⟩, ?_, ?_⟩
  ·skip
   refine calldw 0 59 [ResultVar.tmp 4] TRF_ok Tryz.func23 rfl Tryz.ntmps23 rfl fun cx hnt hn0 => ?_
   ·skip
    refine dw_seq ?_; refine dwk [] TRF_ok hnt fun K hK => ?_; refine hK _ _ ?_; clear hK K; refine dw_seq ?_; refine dwk [] TRF_ok hnt fun K hK => ?_; refine hK _ _ ?_; clear hK K; refine dw_seq ?_; refine dw_block ?_; refine dw_seq ?_; refine dwk [] TRF_ok hnt fun K hK => ?_; refine dcl (hW1) ?_; refine hK _ _ ?_; clear hK K; refine dw_cond (t := false) rfl ?_; rw [if_neg (by simp)]; refine dw_seq ?_
    refine dwk [] TRF_ok hnt fun K hK => ?_; refine dcl (r1) ?_; refine hK _ _ ?_; clear hK K; refine dw_cond (t := true) rfl ?_; rw [if_pos rfl]; refine dw_seq ?_; refine dwk [] TRF_ok hnt fun K hK => ?_; refine hK _ _ ?_; clear hK K; refine dw_ret ?_
    exact reta rfl
  ·skip
   refine calldw 0 55 [ResultVar.tmp 4] TRF_ok Tryz.func24 rfl Tryz.ntmps24 rfl fun cx hnt hn0 => ?_
   ·skip
    refine dw_seq ?_; refine dwk [] TRF_ok hnt fun K hK => ?_; refine hK _ _ ?_; clear hK K; refine dw_seq ?_; refine dwk [] TRF_ok hnt fun K hK => ?_; refine dcl (hWd) ?_; refine hK _ _ ?_; clear hK K; refine dw_seq ?_; refine dw_seq ?_; refine dwk [] TRF_ok hnt fun K hK => ?_; refine dcl (hW2) ?_; refine hK _ _ ?_; clear hK K; refine dw_cond (t := false) rfl ?_; rw [if_neg (by simp)]; refine dw_skip ?_
    refine dw_seq ?_; refine dw_seq ?_; refine dwk [] TRF_ok hnt fun K hK => ?_; refine dcl (q1) ?_; refine hK _ _ ?_; clear hK K; refine dw_cond (t := true) rfl ?_; rw [if_pos rfl]; refine dw_seq ?_; refine dwk [] TRF_ok hnt fun K hK => ?_; refine hK _ _ ?_; clear hK K; refine dw_ret ?_
    exact reta rfl
 | true =>
 rw [hL] at r1 q1
 cases hR : Li.rt p.r with
 | false =>
  rw [hR] at r2 q2
  refine ⟨2, ⟨fun h => absurd h (by decide), fun h => absurd h.r (by rw [hR]; simp)⟩, ?_, ?_⟩
  ·skip
   refine calldw 0 59 [ResultVar.tmp 4] TRF_ok Tryz.func23 rfl Tryz.ntmps23 rfl fun cx hnt hn0 => ?_
   ·skip
    refine dw_seq ?_; refine dwk [] TRF_ok hnt fun K hK => ?_; refine hK _ _ ?_; clear hK K; refine dw_seq ?_; refine dwk [] TRF_ok hnt fun K hK => ?_; refine hK _ _ ?_; clear hK K; refine dw_seq ?_; refine dw_block ?_; refine dw_seq ?_; refine dwk [] TRF_ok hnt fun K hK => ?_; refine dcl (hW1) ?_; refine hK _ _ ?_; clear hK K; refine dw_cond (t := false) rfl ?_; rw [if_neg (by simp)]; refine dw_seq ?_
    refine dwk [] TRF_ok hnt fun K hK => ?_; refine dcl (r1) ?_; refine dcl (r2) ?_; refine hK _ _ ?_; clear hK K; refine dw_cond (t := true) rfl ?_; rw [if_pos rfl]; refine dw_seq ?_; refine dwk [] TRF_ok hnt fun K hK => ?_; refine hK _ _ ?_; clear hK K; refine dw_ret ?_
    exact reta rfl
  ·skip
   refine calldw 0 55 [ResultVar.tmp 4] TRF_ok Tryz.func24 rfl Tryz.ntmps24 rfl fun cx hnt hn0 => ?_
   ·skip
    refine dw_seq ?_; refine dwk [] TRF_ok hnt fun K hK => ?_; refine hK _ _ ?_; clear hK K; refine dw_seq ?_; refine dwk [] TRF_ok hnt fun K hK => ?_; refine dcl (hWd) ?_; refine hK _ _ ?_; clear hK K; refine dw_seq ?_; refine dw_seq ?_; refine dwk [] TRF_ok hnt fun K hK => ?_; refine dcl (hW2) ?_; refine hK _ _ ?_; clear hK K; refine dw_cond (t := false) rfl ?_; rw [if_neg (by simp)]; refine dw_skip ?_
    refine dw_seq ?_; refine dw_seq ?_; refine dwk [] TRF_ok hnt fun K hK => ?_; refine dcl (q1) ?_; refine dcl (q2) ?_; refine hK _ _ ?_; clear hK K; refine dw_cond (t := true) rfl ?_; rw [if_pos rfl]; refine dw_seq ?_; refine dwk [] TRF_ok hnt fun K hK => ?_; refine hK _ _ ?_; clear hK K; refine dw_ret ?_
    exact reta rfl
 | true =>
 rw [hR] at r2 q2
 obtain ⟨o, ho⟩ : ∃ o, tyOf C p.m p.l = o := ⟨_, rfl⟩
 rw [ho] at t1 t2
 cases o with
 | none =>
  simp only [Option.getD_none, Option.isSome_none, Bool.false_eq_true, if_false] at t1 t2
  rw [tyZ_eq] at t1 t2
  refine ⟨5, ⟨fun h => absurd h (by decide), fun h => (by obtain ⟨u, h, _⟩ := h.u; rw [ho] at h; cases h)⟩, ?_, ?_⟩
  ·skip
   refine calldw 0 59 [ResultVar.tmp 4] TRF_ok Tryz.func23 rfl Tryz.ntmps23 rfl fun cx hnt hn0 => ?_
   ·skip
    refine dw_seq ?_; refine dwk [] TRF_ok hnt fun K hK => ?_; refine hK _ _ ?_; clear hK K; refine dw_seq ?_; refine dwk [] TRF_ok hnt fun K hK => ?_; refine hK _ _ ?_; clear hK K; refine dw_seq ?_; refine dw_block ?_; refine dw_seq ?_; refine dwk [] TRF_ok hnt fun K hK => ?_; refine dcl (hW1) ?_; refine hK _ _ ?_; clear hK K; refine dw_cond (t := false) rfl ?_; rw [if_neg (by simp)]; refine dw_seq ?_
    refine dwk [] TRF_ok hnt fun K hK => ?_; refine dcl (r1) ?_; refine dcl (r2) ?_; refine hK _ _ ?_; clear hK K; refine dw_cond (t := false) rfl ?_; rw [if_neg (by simp)]; refine dw_skip ?_; refine dw_seq ?_; refine dwk [] TRF_ok hnt fun K hK => ?_; refine dcl (t1) ?_; refine hK _ _ ?_; clear hK K; refine dw_seq ?_; refine dw_seq ?_; refine dwk [(39, .v (.bool true))] TRF_ok hnt fun K hK => ?_; refine And.intro (bneT (by decide)) ?_
    refine hK _ _ ?_; clear hK K; refine dw_cond (t := true) rfl ?_; rw [if_pos rfl]; refine dw_seq ?_; refine dwk [] TRF_ok hnt fun K hK => ?_; refine hK _ _ ?_; clear hK K; refine dw_ret ?_
    exact reta rfl
  ·skip
   refine calldw 0 55 [ResultVar.tmp 4] TRF_ok Tryz.func24 rfl Tryz.ntmps24 rfl fun cx hnt hn0 => ?_
   ·skip
    refine dw_seq ?_; refine dwk [] TRF_ok hnt fun K hK => ?_; refine hK _ _ ?_; clear hK K; refine dw_seq ?_; refine dwk [] TRF_ok hnt fun K hK => ?_; refine dcl (hWd) ?_; refine hK _ _ ?_; clear hK K; refine dw_seq ?_; refine dw_seq ?_; refine dwk [] TRF_ok hnt fun K hK => ?_; refine dcl (hW2) ?_; refine hK _ _ ?_; clear hK K; refine dw_cond (t := false) rfl ?_; rw [if_neg (by simp)]; refine dw_skip ?_
    refine dw_seq ?_; refine dw_seq ?_; refine dwk [] TRF_ok hnt fun K hK => ?_; refine dcl (q1) ?_; refine dcl (q2) ?_; refine hK _ _ ?_; clear hK K; refine dw_cond (t := false) rfl ?_; rw [if_neg (by simp)]; refine dw_skip ?_; refine dw_seq ?_; refine dwk [] TRF_ok hnt fun K hK => ?_; refine dcl (t2) ?_; refine hK _ _ ?_; clear hK K; refine dw_seq ?_; refine dw_seq ?_; refine dwk [] TRF_ok hnt fun K hK => ?_
    refine hK _ _ ?_; clear hK K; refine dw_cond (t := true) rfl ?_; rw [if_pos rfl]; refine dw_seq ?_; refine dwk [] TRF_ok hnt fun K hK => ?_; refine hK _ _ ?_; clear hK K; refine dw_ret ?_
    exact reta rfl
 | some u =>
 simp only [Option.getD_some, Option.isSome_some, if_true] at t1 t2
 rw [eTy_eq] at t1 t2
 by_cases hu : u.args = []
 ·have hu0 : u.args.length = 0 := by rw [hu]; rfl
  have i1 : ∀ c, (c = true ↔ IsOf C p.m p.l [] u) → _ := fun c hc => ris_d b C p.m p.l u c (by omega) (by omega) hc (by omega)
  have i2 : ∀ c, (c = true ↔ IsOf C p.m p.r [] u) → _ := fun c hc => ris_d b C p.m p.r u c (by omega) (by omega) hc (by omega)
  by_cases hi1 : IsOf C p.m p.l [] u
  ·have i1 := i1 true (by simp [hi1])
   have k1 := ruclos_d b C p.m u p.l 0 (by omega) (by omega) (checkYes hL hi1) (by omega) hl.2
   rw [decide_eq_true rfl] at k1
   rw [eTm_eq, eTy_eq] at i1
   rw [eTm_eq] at k1
   by_cases hi2 : IsOf C p.m p.r [] u
   ·have i2 := i2 true (by simp [hi2])
    have k2 := ruclos_d b C p.m u p.r 0 (by omega) (by omega) (checkYes hR hi2) (by omega) hr.2
    rw [decide_eq_true rfl] at k2
    rw [eTm_eq, eTy_eq] at i2
    rw [eTm_eq] at k2
    refine ⟨0, ⟨fun _ => ⟨hw.1 rfl, hL, hR, u, ho, hu, hi1, hi2⟩, fun _ => rfl⟩, ?_, ?_⟩
    ·skip
     refine calldw 0 59 [ResultVar.tmp 4] TRF_ok Tryz.func23 rfl Tryz.ntmps23 rfl fun cx hnt hn0 => ?_
     ·skip
      refine dw_seq ?_; refine dwk [] TRF_ok hnt fun K hK => ?_; refine hK _ _ ?_; clear hK K; refine dw_seq ?_; refine dwk [] TRF_ok hnt fun K hK => ?_; refine hK _ _ ?_; clear hK K; refine dw_seq ?_; refine dw_block ?_; refine dw_seq ?_; refine dwk [] TRF_ok hnt fun K hK => ?_; refine dcl (hW1) ?_; refine hK _ _ ?_; clear hK K; refine dw_cond (t := false) rfl ?_; rw [if_neg (by simp)]; refine dw_seq ?_
      refine dwk [] TRF_ok hnt fun K hK => ?_; refine dcl (r1) ?_; refine dcl (r2) ?_; refine hK _ _ ?_; clear hK K; refine dw_cond (t := false) rfl ?_; rw [if_neg (by simp)]; refine dw_skip ?_; refine dw_seq ?_; refine dwk [] TRF_ok hnt fun K hK => ?_; refine dcl (t1) ?_; refine hK _ _ ?_; clear hK K; refine dw_seq ?_; refine dw_seq ?_; refine dwk [(39, .v (.bool false)), (43, .v (.int .i64 (↑u.args.length))), (44, .v (.bool false))] TRF_ok hnt fun K hK => ?_
      refine And.intro (bneF rfl) ?_; refine And.intro (dintE (by rw [eTys_len])) ?_; refine And.intro auF ?_; refine hK _ _ ?_; clear hK K; refine dw_cond (t := false) rfl ?_; rw [if_neg (by simp)]; refine dw_skip ?_; refine dw_seq ?_; refine dwk [] TRF_ok hnt fun K hK => ?_; refine hK _ _ ?_; clear hK K; refine dw_seq ?_; refine dw_seq ?_; refine dwk [] TRF_ok hnt fun K hK => ?_; refine dcl (k1) ?_; refine dcl (k2) ?_
      refine hK _ _ ?_; clear hK K; refine dw_cond (t := false) rfl ?_; rw [if_neg (by simp)]; refine dw_skip ?_; refine dw_seq ?_; refine dwk [] TRF_ok hnt fun K hK => ?_; refine hK _ _ ?_; clear hK K; refine dw_ret ?_
      exact reta rfl
    ·skip
     refine calldw 0 55 [ResultVar.tmp 4] TRF_ok Tryz.func24 rfl Tryz.ntmps24 rfl fun cx hnt hn0 => ?_
     ·skip
      refine dw_seq ?_; refine dwk [] TRF_ok hnt fun K hK => ?_; refine hK _ _ ?_; clear hK K; refine dw_seq ?_; refine dwk [] TRF_ok hnt fun K hK => ?_; refine dcl (hWd) ?_; refine hK _ _ ?_; clear hK K; refine dw_seq ?_; refine dw_seq ?_; refine dwk [] TRF_ok hnt fun K hK => ?_; refine dcl (hW2) ?_; refine hK _ _ ?_; clear hK K; refine dw_cond (t := false) rfl ?_; rw [if_neg (by simp)]; refine dw_skip ?_
      refine dw_seq ?_; refine dw_seq ?_; refine dwk [] TRF_ok hnt fun K hK => ?_; refine dcl (q1) ?_; refine dcl (q2) ?_; refine hK _ _ ?_; clear hK K; refine dw_cond (t := false) rfl ?_; rw [if_neg (by simp)]; refine dw_skip ?_; refine dw_seq ?_; refine dwk [] TRF_ok hnt fun K hK => ?_; refine dcl (t2) ?_; refine hK _ _ ?_; clear hK K; refine dw_seq ?_; refine dw_seq ?_; refine dwk [(36, .v (.int .i64 (↑u.args.length))), (37, .v (.bool false))] TRF_ok hnt fun K hK => ?_
      refine And.intro (dintE (by rw [eTys_len])) ?_; refine And.intro auF ?_; refine dcl (i1) ?_; refine dcl (i2) ?_; refine hK _ _ ?_; clear hK K; refine dw_cond (t := false) rfl ?_; rw [if_neg (by simp)]; refine dw_skip ?_; refine dw_seq ?_; refine dwk [] TRF_ok hnt fun K hK => ?_; refine hK _ _ ?_; clear hK K; refine dw_ret ?_
      exact reta rfl
   ·have i2 := i2 false (by simp [hi2])
    have k2 := ruclos_d b C p.m u p.r 5 (by omega) (by omega) (checkNo hR hi2) (by omega) hr.2
    rw [decide_eq_false (by decide)] at k2
    rw [eTm_eq, eTy_eq] at i2
    rw [eTm_eq] at k2
    refine ⟨5, ⟨fun h => absurd h (by decide), fun h => (by obtain ⟨u', h, _, _, h4⟩ := h.u; rw [ho] at h; cases h; exact absurd h4 hi2)⟩, ?_, ?_⟩
    ·skip
     refine calldw 0 59 [ResultVar.tmp 4] TRF_ok Tryz.func23 rfl Tryz.ntmps23 rfl fun cx hnt hn0 => ?_
     ·skip
      refine dw_seq ?_; refine dwk [] TRF_ok hnt fun K hK => ?_; refine hK _ _ ?_; clear hK K; refine dw_seq ?_; refine dwk [] TRF_ok hnt fun K hK => ?_; refine hK _ _ ?_; clear hK K; refine dw_seq ?_; refine dw_block ?_; refine dw_seq ?_; refine dwk [] TRF_ok hnt fun K hK => ?_; refine dcl (hW1) ?_; refine hK _ _ ?_; clear hK K; refine dw_cond (t := false) rfl ?_; rw [if_neg (by simp)]; refine dw_seq ?_
      refine dwk [] TRF_ok hnt fun K hK => ?_; refine dcl (r1) ?_; refine dcl (r2) ?_; refine hK _ _ ?_; clear hK K; refine dw_cond (t := false) rfl ?_; rw [if_neg (by simp)]; refine dw_skip ?_; refine dw_seq ?_; refine dwk [] TRF_ok hnt fun K hK => ?_; refine dcl (t1) ?_; refine hK _ _ ?_; clear hK K; refine dw_seq ?_; refine dw_seq ?_; refine dwk [(39, .v (.bool false)), (43, .v (.int .i64 (↑u.args.length))), (44, .v (.bool false))] TRF_ok hnt fun K hK => ?_
      refine And.intro (bneF rfl) ?_; refine And.intro (dintE (by rw [eTys_len])) ?_; refine And.intro auF ?_; refine hK _ _ ?_; clear hK K; refine dw_cond (t := false) rfl ?_; rw [if_neg (by simp)]; refine dw_skip ?_; refine dw_seq ?_; refine dwk [] TRF_ok hnt fun K hK => ?_; refine hK _ _ ?_; clear hK K; refine dw_seq ?_; refine dw_seq ?_; refine dwk [] TRF_ok hnt fun K hK => ?_; refine dcl (k1) ?_; refine dcl (k2) ?_
      refine hK _ _ ?_; clear hK K; refine dw_cond (t := true) rfl ?_; rw [if_pos rfl]; refine dw_seq ?_; refine dwk [] TRF_ok hnt fun K hK => ?_; refine hK _ _ ?_; clear hK K; refine dw_ret ?_
      exact reta rfl
    ·skip
     refine calldw 0 55 [ResultVar.tmp 4] TRF_ok Tryz.func24 rfl Tryz.ntmps24 rfl fun cx hnt hn0 => ?_
     ·skip
      refine dw_seq ?_; refine dwk [] TRF_ok hnt fun K hK => ?_; refine hK _ _ ?_; clear hK K; refine dw_seq ?_; refine dwk [] TRF_ok hnt fun K hK => ?_; refine dcl (hWd) ?_; refine hK _ _ ?_; clear hK K; refine dw_seq ?_; refine dw_seq ?_; refine dwk [] TRF_ok hnt fun K hK => ?_; refine dcl (hW2) ?_; refine hK _ _ ?_; clear hK K; refine dw_cond (t := false) rfl ?_; rw [if_neg (by simp)]; refine dw_skip ?_
      refine dw_seq ?_; refine dw_seq ?_; refine dwk [] TRF_ok hnt fun K hK => ?_; refine dcl (q1) ?_; refine dcl (q2) ?_; refine hK _ _ ?_; clear hK K; refine dw_cond (t := false) rfl ?_; rw [if_neg (by simp)]; refine dw_skip ?_; refine dw_seq ?_; refine dwk [] TRF_ok hnt fun K hK => ?_; refine dcl (t2) ?_; refine hK _ _ ?_; clear hK K; refine dw_seq ?_; refine dw_seq ?_; refine dwk [(36, .v (.int .i64 (↑u.args.length))), (37, .v (.bool false))] TRF_ok hnt fun K hK => ?_
      refine And.intro (dintE (by rw [eTys_len])) ?_; refine And.intro auF ?_; refine dcl (i1) ?_; refine dcl (i2) ?_; refine hK _ _ ?_; clear hK K; refine dw_cond (t := true) rfl ?_; rw [if_pos rfl]; refine dw_seq ?_; refine dwk [] TRF_ok hnt fun K hK => ?_; refine hK _ _ ?_; clear hK K; refine dw_ret ?_
      exact reta rfl
  ·have i1 := i1 false (by simp [hi1])
   have k1 := ruclos_d b C p.m u p.l 5 (by omega) (by omega) (checkNo hL hi1) (by omega) hl.2
   rw [decide_eq_false (by decide)] at k1
   rw [eTm_eq, eTy_eq] at i1
   rw [eTm_eq] at k1
   refine ⟨5, ⟨fun h => absurd h (by decide), fun h => (by obtain ⟨u', h, _, h3, _⟩ := h.u; rw [ho] at h; cases h; exact absurd h3 hi1)⟩, ?_, ?_⟩
   ·skip
    refine calldw 0 59 [ResultVar.tmp 4] TRF_ok Tryz.func23 rfl Tryz.ntmps23 rfl fun cx hnt hn0 => ?_
    ·skip
     refine dw_seq ?_; refine dwk [] TRF_ok hnt fun K hK => ?_; refine hK _ _ ?_; clear hK K; refine dw_seq ?_; refine dwk [] TRF_ok hnt fun K hK => ?_; refine hK _ _ ?_; clear hK K; refine dw_seq ?_; refine dw_block ?_; refine dw_seq ?_; refine dwk [] TRF_ok hnt fun K hK => ?_; refine dcl (hW1) ?_; refine hK _ _ ?_; clear hK K; refine dw_cond (t := false) rfl ?_; rw [if_neg (by simp)]; refine dw_seq ?_
     refine dwk [] TRF_ok hnt fun K hK => ?_; refine dcl (r1) ?_; refine dcl (r2) ?_; refine hK _ _ ?_; clear hK K; refine dw_cond (t := false) rfl ?_; rw [if_neg (by simp)]; refine dw_skip ?_; refine dw_seq ?_; refine dwk [] TRF_ok hnt fun K hK => ?_; refine dcl (t1) ?_; refine hK _ _ ?_; clear hK K; refine dw_seq ?_; refine dw_seq ?_; refine dwk [(39, .v (.bool false)), (43, .v (.int .i64 (↑u.args.length))), (44, .v (.bool false))] TRF_ok hnt fun K hK => ?_
     refine And.intro (bneF rfl) ?_; refine And.intro (dintE (by rw [eTys_len])) ?_; refine And.intro auF ?_; refine hK _ _ ?_; clear hK K; refine dw_cond (t := false) rfl ?_; rw [if_neg (by simp)]; refine dw_skip ?_; refine dw_seq ?_; refine dwk [] TRF_ok hnt fun K hK => ?_; refine hK _ _ ?_; clear hK K; refine dw_seq ?_; refine dw_seq ?_; refine dwk [] TRF_ok hnt fun K hK => ?_; refine dcl (k1) ?_; refine hK _ _ ?_; clear hK K
     refine dw_cond (t := true) rfl ?_; rw [if_pos rfl]; refine dw_seq ?_; refine dwk [] TRF_ok hnt fun K hK => ?_; refine hK _ _ ?_; clear hK K; refine dw_ret ?_
     exact reta rfl
   ·skip
    refine calldw 0 55 [ResultVar.tmp 4] TRF_ok Tryz.func24 rfl Tryz.ntmps24 rfl fun cx hnt hn0 => ?_
    ·skip
     refine dw_seq ?_; refine dwk [] TRF_ok hnt fun K hK => ?_; refine hK _ _ ?_; clear hK K; refine dw_seq ?_; refine dwk [] TRF_ok hnt fun K hK => ?_; refine dcl (hWd) ?_; refine hK _ _ ?_; clear hK K; refine dw_seq ?_; refine dw_seq ?_; refine dwk [] TRF_ok hnt fun K hK => ?_; refine dcl (hW2) ?_; refine hK _ _ ?_; clear hK K; refine dw_cond (t := false) rfl ?_; rw [if_neg (by simp)]; refine dw_skip ?_
     refine dw_seq ?_; refine dw_seq ?_; refine dwk [] TRF_ok hnt fun K hK => ?_; refine dcl (q1) ?_; refine dcl (q2) ?_; refine hK _ _ ?_; clear hK K; refine dw_cond (t := false) rfl ?_; rw [if_neg (by simp)]; refine dw_skip ?_; refine dw_seq ?_; refine dwk [] TRF_ok hnt fun K hK => ?_; refine dcl (t2) ?_; refine hK _ _ ?_; clear hK K; refine dw_seq ?_; refine dw_seq ?_; refine dwk [(36, .v (.int .i64 (↑u.args.length))), (37, .v (.bool false))] TRF_ok hnt fun K hK => ?_
     refine And.intro (dintE (by rw [eTys_len])) ?_; refine And.intro auF ?_; refine dcl (i1) ?_; refine hK _ _ ?_; clear hK K; refine dw_cond (t := true) rfl ?_; rw [if_pos rfl]; refine dw_seq ?_; refine dwk [] TRF_ok hnt fun K hK => ?_; refine hK _ _ ?_; clear hK K; refine dw_ret ?_
     exact reta rfl
 ·have hu0 : 0 < u.args.length := List.length_pos_iff.2 hu
  refine ⟨5, ⟨fun h => absurd h (by decide), fun h => (by obtain ⟨u', h, h2, _⟩ := h.u; rw [ho] at h; cases h; exact absurd h2 hu)⟩, ?_, ?_⟩
  ·skip
   refine calldw 0 59 [ResultVar.tmp 4] TRF_ok Tryz.func23 rfl Tryz.ntmps23 rfl fun cx hnt hn0 => ?_
   ·skip
    refine dw_seq ?_; refine dwk [] TRF_ok hnt fun K hK => ?_; refine hK _ _ ?_; clear hK K; refine dw_seq ?_; refine dwk [] TRF_ok hnt fun K hK => ?_; refine hK _ _ ?_; clear hK K; refine dw_seq ?_; refine dw_block ?_; refine dw_seq ?_; refine dwk [] TRF_ok hnt fun K hK => ?_; refine dcl (hW1) ?_; refine hK _ _ ?_; clear hK K; refine dw_cond (t := false) rfl ?_; rw [if_neg (by simp)]; refine dw_seq ?_
    refine dwk [] TRF_ok hnt fun K hK => ?_; refine dcl (r1) ?_; refine dcl (r2) ?_; refine hK _ _ ?_; clear hK K; refine dw_cond (t := false) rfl ?_; rw [if_neg (by simp)]; refine dw_skip ?_; refine dw_seq ?_; refine dwk [] TRF_ok hnt fun K hK => ?_; refine dcl (t1) ?_; refine hK _ _ ?_; clear hK K; refine dw_seq ?_; refine dw_seq ?_; refine dwk [(39, .v (.bool false)), (43, .v (.int .i64 (↑u.args.length))), (44, .v (.bool true))] TRF_ok hnt fun K hK => ?_
    refine And.intro (bneF rfl) ?_; refine And.intro (dintE (by rw [eTys_len])) ?_; refine And.intro auT ?_; refine hK _ _ ?_; clear hK K; refine dw_cond (t := true) rfl ?_; rw [if_pos rfl]; refine dw_seq ?_; refine dwk [] TRF_ok hnt fun K hK => ?_; refine hK _ _ ?_; clear hK K; refine dw_ret ?_
    exact reta rfl
  ·skip
   refine calldw 0 55 [ResultVar.tmp 4] TRF_ok Tryz.func24 rfl Tryz.ntmps24 rfl fun cx hnt hn0 => ?_
   ·skip
    refine dw_seq ?_; refine dwk [] TRF_ok hnt fun K hK => ?_; refine hK _ _ ?_; clear hK K; refine dw_seq ?_; refine dwk [] TRF_ok hnt fun K hK => ?_; refine dcl (hWd) ?_; refine hK _ _ ?_; clear hK K; refine dw_seq ?_; refine dw_seq ?_; refine dwk [] TRF_ok hnt fun K hK => ?_; refine dcl (hW2) ?_; refine hK _ _ ?_; clear hK K; refine dw_cond (t := false) rfl ?_; rw [if_neg (by simp)]; refine dw_skip ?_
    refine dw_seq ?_; refine dw_seq ?_; refine dwk [] TRF_ok hnt fun K hK => ?_; refine dcl (q1) ?_; refine dcl (q2) ?_; refine hK _ _ ?_; clear hK K; refine dw_cond (t := false) rfl ?_; rw [if_neg (by simp)]; refine dw_skip ?_; refine dw_seq ?_; refine dwk [] TRF_ok hnt fun K hK => ?_; refine dcl (t2) ?_; refine hK _ _ ?_; clear hK K; refine dw_seq ?_; refine dw_seq ?_; refine dwk [(36, .v (.int .i64 (↑u.args.length))), (37, .v (.bool true))] TRF_ok hnt fun K hK => ?_
    refine And.intro (dintE (by rw [eTys_len])) ?_; refine And.intro auT ?_; refine hK _ _ ?_; clear hK K; refine dw_cond (t := true) rfl ?_; rw [if_pos rfl]; refine dw_seq ?_; refine dwk [] TRF_ok hnt fun K hK => ?_; refine hK _ _ ?_; clear hK K; refine dw_ret ?_
    exact reta rfl
end Go.Proofs.YtdmiekaeodcehaaGreat

