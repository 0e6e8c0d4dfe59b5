/-
  The document's Take, walked in the deep way; what is wrong with a pattern. Package subst's lists, walked in the deep way: Clone, Without, Set, Domain, Get. Package subst's lists, walked in the deep way: Set, Domain, Get, Equal; terms that are the same. Package subst's lists, walked in the deep way: Get, Equal. The document's lists of pairs, walked in the deep way: Sorted, Get, Without, Domain, Same. The document's lists of pairs, walked in the deep way: Sorted and Without hand back rows of their own; Like. The document's matching, walked in the deep way: rigid, All. The document's matching, walked in the deep way: several at once. Types and terms of the laws, there and back, walked in the deep way. Lists of pairs, there and back.
-/
import Derived.Test.YtcblpjheoclkeaaRowMatchFindsp7
import Derived.Test.YtcblpjheoclkeaaRowMatchFindsp5
import Derived.Test.YtcblpjheoclkeaaRowMatchFindsp6
set_option maxRecDepth 100000
set_option maxHeartbeats 1000000
set_option linter.unusedVariables false
set_option linter.unusedSimpArgs false
namespace Go.Proofs.Ytcblpjheoclkeaa
open Go.RowKit
def TRT_27 : TI := ⟨4, true, [Value.slice none 0 0, Value.int IntKind.i64 0, Value.int IntKind.i64 0, Value.slice none 0 0], [(0, 1, false), (1, 2, true), (3, 1, false)], none, 64, 6, none, false⟩
theorem TRT_27_ok : TypOk Try.prog 27 TRT_27 := ⟨by kernel_rfl, by kernel_rfl, by kernel_rfl, by kernel_rfl, by kernel_rfl⟩
def TRT_3 : TI := ⟨1, false, [Value.int IntKind.i64 0], [], none, 8, 2, none, false⟩
theorem TRT_3_ok : TypOk Try.prog 3 TRT_3 := ⟨by kernel_rfl, by kernel_rfl, by kernel_rfl, by kernel_rfl, by kernel_rfl⟩
def TRT_43 : TI := ⟨1, false, [Value.slice none 0 0], [], some 3, 24, 5, none, false⟩
theorem TRT_43_ok : TypOk Try.prog 43 TRT_43 := ⟨by kernel_rfl, by kernel_rfl, by kernel_rfl, by kernel_rfl, by kernel_rfl⟩
def TRT_22 : TI := ⟨1, false, [Value.slice none 0 0], [], some 123, 24, 5, none, false⟩
theorem TRT_22_ok : TypOk Try.prog 22 TRT_22 := ⟨by kernel_rfl, by kernel_rfl, by kernel_rfl, by kernel_rfl, by kernel_rfl⟩
def TRT_25 : TI := ⟨1, false, [Value.slice none 0 0], [], some 27, 24, 5, none, false⟩
theorem TRT_25_ok : TypOk Try.prog 25 TRT_25 := ⟨by kernel_rfl, by kernel_rfl, by kernel_rfl, by kernel_rfl, by kernel_rfl⟩
def TRT_24 : TI := ⟨2, true, [Value.int IntKind.i64 0, Value.int IntKind.i64 0], [(0, 1, false), (1, 1, false)], none, 16, 6, none, true⟩
theorem TRT_24_ok : TypOk Try.prog 24 TRT_24 := ⟨by kernel_rfl, by kernel_rfl, by kernel_rfl, by kernel_rfl, by kernel_rfl⟩
def TRT_123 : TI := ⟨2, true, [Value.slice none 0 0, Value.int IntKind.i64 0], [(0, 1, false), (1, 1, false)], none, 32, 6, none, false⟩
theorem TRT_123_ok : TypOk Try.prog 123 TRT_123 := ⟨by kernel_rfl, by kernel_rfl, by kernel_rfl, by kernel_rfl, by kernel_rfl⟩
def TRT : List (Nat × TI) := [(27, TRT_27), (3, TRT_3), (43, TRT_43), (22, TRT_22), (25, TRT_25), (24, TRT_24), (123, TRT_123)]
theorem TRT_ok : TabOk Try.prog TRT := ((((((((TabOk.nil _).cons TRT_123_ok).cons TRT_24_ok).cons TRT_25_ok).cons TRT_22_ok).cons TRT_43_ok).cons TRT_3_ok).cons TRT_27_ok)

theorem loosess_app (n : Int) : ∀ (l r : List Tm), Tm.loosess (l ++ r) n = Tm.loosess l n ++ Tm.loosess r n
  | [], r => by simp [Tm.loosess]
  | t :: l, r => by rw [List.cons_append, Tm.loosess, Tm.loosess, loosess_app n l r, List.append_assoc]
theorem loosess_take (n : Int) (a : List Tm) (j : Nat) (h : j < a.length) : Tm.loosess (a.take (j + 1)) n = Tm.loosess (a.take j) n ++ a[j].looses n := by
  rw [List.take_add_one, List.getElem?_eq_getElem h, loosess_app, Option.toList_some, Tm.loosess, Tm.loosess, List.append_nil]
theorem looses_len (t : Tm) : ∀ n : Int, (t.looses n).length ≤ t.full := by
  induction t using Tm.ind with
  | h b k i a ih =>
    intro n
    rw [Tm.looses_eq _ _ _ _ _ _ rfl, Tm.full_eq, List.length_append]
    have key : ∀ (l : List Tm), (∀ t ∈ l, t ∈ a) → ∀ n, (Tm.loosess l n).length ≤ Tm.fulls l := by
      intro l
      induction l with
      | nil => intro _ n; simp [Tm.loosess]
      | cons t l ihl =>
        intro hl n
        rw [Tm.loosess, List.length_append, Tm.fulls]
        have := ih t (hl t (by simp)) n
        have := ihl (fun u hu => hl u (by simp [hu])) n
        omega
    have := key a (fun _ h => h) (n + (b.length : Int))
    split <;> simp <;> omega
set_option maxHeartbeats 2000000 in
theorem rlooses_d : ∀ (t : Tm) (n : Int), 0 ≤ n → n + t.full ≤ 1000000 → t.Fit → PureC Try.prog 122 [.ag (eTm t), .v (.int .i64 n)] (.sl 1 (eIs (t.looses n)) none) := by
 intro t
 induction t using Tm.ind with
 | h b k i a ih =>
 intro n h0 hz hf
 obtain ⟨f1, f2, f3⟩ := Tm.fit_iff.1 hf
 rw [Tm.full_eq] at hz
 have hal := fulls_len a
 have hbl := Ty.le_sizes b
 obtain ⟨m, hm⟩ : ∃ m : Int, n + (b.length : Int) = m := ⟨_, rfl⟩
 rw [Tm.looses_eq _ _ _ _ _ _ hm, eTm_eq]
 simp only [binds_mk', kind_mk', index_mk', args_mkT]
 obtain ⟨hd, hhd⟩ : ∃ hd, (if k = 0 ∧ m ≤ i then [i - m] else []) = hd := ⟨_, rfl⟩
 have hdl : hd.length ≤ 1 := by rw [← hhd]; split <;> simp
 rw [hhd]
 refine calldw 0 49 [ResultVar.tmp 4] TRT_ok Try.func122 rfl Try.ntmps122 rfl fun cx hnt hn0 => ?_
 ·skip
  refine dw_seq ?_; refine dwk [] TRT_ok hnt fun K hK => ?_; refine hK _ _ ?_; clear hK K; refine dw_seq ?_; refine dwk [] TRT_ok hnt fun K hK => ?_; refine hK _ _ ?_; clear hK K
  refine DW.vs (VS.rowT (x := 5) (by rw [hnt]; decide) 3 1 rfl) ?_
  refine dw_seq ?_; refine dwk [(11, .v (.int .i64 (↑b.length))), (12, .v (.int .i64 (m)))] TRT_ok hnt fun K hK => ?_; refine And.intro (dintE (by rw [eTys_len])) ?_; refine And.intro auI ?_; refine hK _ _ ?_; clear hK K
  refine dw_cut (τ := [(.t 2, .p 0 0), (.t 5, .sl 1 (eIs hd) (some 3)), (.r 3, .rw 3 1 hd.length), (.t 6, .v (.int .i64 m)), (.c 0 3, .sl 4 (eTms a) none)]) (N1 := 4) ?_ ?_
  ·by_cases hk : k = 0
   ·by_cases hi : m ≤ i
    ·rw [if_pos ⟨hk, hi⟩] at hhd
     subst hhd
     refine dw_seq ?_; refine dwk [(16, .v (.bool true)), (22, .v (.bool true))] TRT_ok hnt fun K hK => ?_; refine And.intro (beqT hk) ?_; refine And.intro auT ?_; refine hK _ _ ?_; clear hK K; refine dw_cond (t := true) rfl ?_; rw [if_pos rfl]; refine dwk [(29, .v (.int .i64 (i - m)))] TRT_ok hnt fun K hK => ?_; refine And.intro auI ?_; refine And.intro (⟨rfl, by simp⟩) ?_; refine hK _ _ ?_; clear hK K
     exact cut_ok (VS.toK (by omega) (by repeat first | exact trivial | refine And.intro (And.intro (by first | rfl | simp [D.ok, D.oks, D.okss, D.okm, upto, keyOk, eIs]) (by first | exact Or.inl rfl | exact Or.inr ⟨_, rfl, (by repeat first | exact VLe.refl _ | exact VLe.nil _ | exact VLe.untag _ _ _ | refine VLe.ag ?_ | refine VLe.tu ?_ | refine VLeL.cons ?_ ?_ | exact VLeL.nil), trivial⟩ | simp [get, Key.eq, eIs])) ?_))
    ·rw [if_neg (fun h => hi h.2)] at hhd
     subst hhd
     refine dw_seq ?_; refine dwk [(16, .v (.bool true)), (22, .v (.bool false))] TRT_ok hnt fun K hK => ?_; refine And.intro (beqT hk) ?_; refine And.intro auF ?_; refine hK _ _ ?_; clear hK K; refine dw_cond (t := false) rfl ?_; rw [if_neg (by simp)]; refine dw_skip ?_
     exact cut_ok (VS.toK (by omega) (by repeat first | exact trivial | refine And.intro (And.intro (by first | rfl | simp [D.ok, D.oks, D.okss, D.okm, upto, keyOk, eIs]) (by first | exact Or.inl rfl | exact Or.inr ⟨_, rfl, (by repeat first | exact VLe.refl _ | exact VLe.nil _ | exact VLe.untag _ _ _ | refine VLe.ag ?_ | refine VLe.tu ?_ | refine VLeL.cons ?_ ?_ | exact VLeL.nil), trivial⟩ | simp [get, Key.eq, eIs])) ?_))
   ·rw [if_neg (fun h => hk h.1)] at hhd
    subst hhd
    refine dw_seq ?_; refine dwk [(16, .v (.bool false))] TRT_ok hnt fun K hK => ?_; refine And.intro (beqF hk) ?_; refine hK _ _ ?_; clear hK K; refine dw_cond (t := false) rfl ?_; rw [if_neg (by simp)]; refine dw_skip ?_
    exact cut_ok (VS.toK (by omega) (by repeat first | exact trivial | refine And.intro (And.intro (by first | rfl | simp [D.ok, D.oks, D.okss, D.okm, upto, keyOk, eIs]) (by first | exact Or.inl rfl | exact Or.inr ⟨_, rfl, (by repeat first | exact VLe.refl _ | exact VLe.nil _ | exact VLe.untag _ _ _ | refine VLe.ag ?_ | refine VLe.tu ?_ | refine VLeL.cons ?_ ?_ | exact VLeL.nil), trivial⟩ | simp [get, Key.eq, eIs])) ?_))
  ·skip
   refine dw_seq ?_; refine dw_seq ?_; refine dwk [] TRT_ok hnt fun K hK => ?_; refine hK _ _ ?_; clear hK K; refine dw_block ?_
   refine dw_loop (ι := { j : Nat // j ≤ a.length }) (fun j => [(.t 2, .p 0 0), (.t 5, .sl 1 (eIs (hd ++ Tm.loosess (a.take j.1) m)) (some 3)), (.r 3, .rw 3 1 (hd ++ Tm.loosess (a.take j.1) m).length), (.t 6, .v (.int .i64 m)), (.t 7, .v (.int .i64 ↑j.1)), (.c 0 3, .sl 4 (eTms a) none)]) 4 (fun j => a.length - j.1) (⟨0, Nat.zero_le _⟩) ((by simp only [List.take_zero, Tm.loosess, List.append_nil]; exact VS.toA)) fun j => ?_
   obtain ⟨j, hj⟩ := j
   dsimp only
   by_cases hlt : j < a.length
   ·have hmem := List.getElem_mem hlt
    have hfm := full_mem hmem
    have hih := ih a[j] hmem m (by omega) (by omega) (f3 _ hmem)
    have hst := loosess_take m a j hlt
    have hl1 := looses_len a[j] m
    have hl2 : (Tm.loosess (a.take j) m).length ≤ Tm.fulls (a.take j) := by
     have key : ∀ l : List Tm, (Tm.loosess l m).length ≤ Tm.fulls l := by
      intro l
      induction l with
      | nil => simp [Tm.loosess]
      | cons t l ihl => rw [Tm.loosess, List.length_append, Tm.fulls]; have := looses_len t m; omega
     exact key _
    have hl3 := Tm.fulls_take_le a (j + 1)
    have hl5 := Tm.fulls_take a j hlt
    rw [eTm_eq] at hih
    refine dw_seq ?_; refine dw_seq ?_; refine dwk [(35, .v (.int .i64 (↑a.length))), (36, .v (.bool true))] TRT_ok hnt fun K hK => ?_; refine And.intro (dintE (by rw [eTms_len])) ?_; refine And.intro auT ?_; refine hK _ _ ?_; clear hK K; refine dw_cond (t := true) rfl ?_; rw [if_pos rfl]; refine dw_skip ?_; refine dw_seq ?_; refine dw_block ?_; refine dwk [(43, .q [.sl 2 (eTys a[j].binds) none, .v (.int .i64 a[j].kind), .v (.int .i64 a[j].index), .sl 4 (eTms a[j].args) none]), (47, .sl 1 (eIs (hd ++ Tm.loosess (a.take (j + 1)) m)) (some 3))] TRT_ok hnt fun K hK => ?_
    refine And.intro (elo (eTms_len a)) ?_; refine And.intro (elv (eTms_getD a j) (eTm_eq _)) ?_; refine dcl (hih) ?_; refine And.intro (⟨by rw [eIs_len], by rw [eIs_len, eIs_len, List.length_append]; omega⟩) ?_; refine And.intro (VLe.of_eq (by rw [hst, ← List.append_assoc, eIs_append (hd ++ _)])) ?_; refine hK _ _ ?_; clear hK K; refine dwk [(38, .v (.int .i64 (↑(j + 1))))] TRT_ok hnt fun K hK => ?_; refine And.intro auI ?_
    refine hK _ _ ?_; clear hK K
    have hl4 : (eIs (hd ++ Tm.loosess (a.take j) m) ++ eIs (a[j].looses m)).length = (hd ++ Tm.loosess (a.take (j + 1)) m).length := by rw [← eIs_append, eIs_len, hst, List.append_assoc]
    refine ⟨⟨j + 1, by omega⟩, by first | omega | (dsimp only; omega), (by try simp only [List.length_append, List.length_take, List.length_cons, List.length_nil, Nat.zero_add, hl4]; exact VS.toA)⟩
   ·rw [List.take_of_length_le (by omega)]
    refine dw_seq ?_; refine dw_seq ?_; refine dwk [(35, .v (.int .i64 (↑a.length))), (36, .v (.bool false))] TRT_ok hnt fun K hK => ?_; refine And.intro (dintE (by rw [eTms_len])) ?_; refine And.intro auF ?_; refine hK _ _ ?_; clear hK K; refine dw_cond (t := false) rfl ?_; rw [if_neg (by simp)]; refine dw_exit ?_; refine dw_seq ?_; refine dwk [] TRT_ok hnt fun K hK => ?_; refine hK _ _ ?_; clear hK K
    refine dw_ret ?_
    exact reta rfl
theorem rLooses_d (t : Tm) (hz : t.full ≤ 1000000) (hf : t.Fit) : PureC Try.prog 95 [.ag (eTm t)] (.sl 1 (eIs (t.looses 0)) none) := by
 have h := rlooses_d t 0 (by omega) (by omega) hf
 rw [eTm_eq] at h ⊢
 refine calldw 0 5 [ResultVar.tmp 2] TRT_ok Try.func95 rfl Try.ntmps95 rfl fun cx hnt hn0 => ?_
 ·skip
  refine dw_seq ?_; refine dwk [] TRT_ok hnt fun K hK => ?_; refine hK _ _ ?_; clear hK K; refine dw_seq ?_; refine dwk [] TRT_ok hnt fun K hK => ?_; refine dcl (h) ?_; refine hK _ _ ?_; clear hK K; refine dw_ret ?_
  exact reta rfl
theorem rmay12_d (p : Tm) (hz : p.full ≤ 50000) (hf : p.Fit) : PureC Try.prog 56 [.ag (eTm p)] (.v (.int .i64 (Pn.may p))) := by
 have hl := rLooses_d p (by omega) hf
 have hu := ruses_d p hz hf
 unfold Pn.may
 rw [eTm_eq] at hl hu ⊢
 have hll : (p.looses 0).length = 0 ↔ p.looses 0 = [] := List.length_eq_zero_iff
 by_cases hL : p.looses 0 = []
 ·rw [if_neg (by simp [hL])]
  have h0 := hll.2 hL
  cases h : (Pn.uses p [] []).2 with
  | true =>
   rw [h] at hu
   rw [if_neg (by simp)]
   refine calldw 0 16 [ResultVar.tmp 2] TRT_ok Try.func56 rfl Try.ntmps56 rfl fun cx hnt hn0 => ?_
   ·skip
    refine dw_seq ?_; refine dwk [] TRT_ok hnt fun K hK => ?_; refine hK _ _ ?_; clear hK K; refine dw_seq ?_; refine dw_seq ?_; refine dwk [(7, .v (.int .i64 (0))), (8, .v (.bool false))] TRT_ok hnt fun K hK => ?_; refine dcl (hl) ?_; refine And.intro (dintE (by rw [eIs_len, h0]; rfl)) ?_; refine And.intro (VLe.refl _) ?_; refine hK _ _ ?_; clear hK K; refine dw_cond (t := false) rfl ?_; rw [if_neg (by simp)]
    refine dw_skip ?_; refine dw_seq ?_; refine dwk [] TRT_ok hnt fun K hK => ?_; refine dcl (hu) ?_; refine hK _ _ ?_; clear hK K; refine dw_seq ?_; refine dw_seq ?_; refine dwk [] TRT_ok hnt fun K hK => ?_; refine hK _ _ ?_; clear hK K; refine dw_cond (t := false) rfl ?_; rw [if_neg (by simp)]; refine dw_skip ?_; refine dw_seq ?_; refine dwk [] TRT_ok hnt fun K hK => ?_; refine hK _ _ ?_; clear hK K
    refine dw_ret ?_
    exact reta rfl
  | false =>
   rw [h] at hu
   rw [if_pos rfl]
   refine calldw 0 16 [ResultVar.tmp 2] TRT_ok Try.func56 rfl Try.ntmps56 rfl fun cx hnt hn0 => ?_
   ·skip
    refine dw_seq ?_; refine dwk [] TRT_ok hnt fun K hK => ?_; refine hK _ _ ?_; clear hK K; refine dw_seq ?_; refine dw_seq ?_; refine dwk [(7, .v (.int .i64 (0))), (8, .v (.bool false))] TRT_ok hnt fun K hK => ?_; refine dcl (hl) ?_; refine And.intro (dintE (by rw [eIs_len, h0]; rfl)) ?_; refine And.intro (VLe.refl _) ?_; refine hK _ _ ?_; clear hK K; refine dw_cond (t := false) rfl ?_; rw [if_neg (by simp)]
    refine dw_skip ?_; refine dw_seq ?_; refine dwk [] TRT_ok hnt fun K hK => ?_; refine dcl (hu) ?_; refine hK _ _ ?_; clear hK K; refine dw_seq ?_; refine dw_seq ?_; refine dwk [] TRT_ok hnt fun K hK => ?_; refine hK _ _ ?_; clear hK K; refine dw_cond (t := true) rfl ?_; rw [if_pos rfl]; refine dw_seq ?_; refine dwk [] TRT_ok hnt fun K hK => ?_; refine hK _ _ ?_; clear hK K; refine dw_ret ?_
    exact reta rfl
 ·rw [if_pos hL]
  have h0 : 0 < (p.looses 0).length := by
   rcases Nat.eq_zero_or_pos (p.looses 0).length with h | h
   ·exact absurd (hll.1 h) hL
   ·exact h
  refine calldw 0 16 [ResultVar.tmp 2] TRT_ok Try.func56 rfl Try.ntmps56 rfl fun cx hnt hn0 => ?_
  ·skip
   refine dw_seq ?_; refine dwk [] TRT_ok hnt fun K hK => ?_; refine hK _ _ ?_; clear hK K; refine dw_seq ?_; refine dw_seq ?_; refine dwk [(7, .v (.int .i64 (↑(p.looses 0).length))), (8, .v (.bool true))] TRT_ok hnt fun K hK => ?_; refine dcl (hl) ?_; refine And.intro (dintE (by rw [eIs_len])) ?_; refine And.intro auT ?_; refine hK _ _ ?_; clear hK K; refine dw_cond (t := true) rfl ?_; rw [if_pos rfl]
   refine dw_seq ?_; refine dwk [] TRT_ok hnt fun K hK => ?_; refine hK _ _ ?_; clear hK K; refine dw_ret ?_
   exact reta rfl
theorem rmay_d (n : Int) (vs : List Int) (hl : vs.length ≤ 100000) : PureC Try.prog 116 [.v (.int .i64 n), .sl 1 (eIs vs) none] (.v (.bool (Pn.mayV n vs))) := by
 refine calldw 0 35 [ResultVar.tmp 4] TRT_ok Try.func116 rfl Try.ntmps116 rfl fun cx hnt hn0 => ?_
 ·skip
  refine dw_seq ?_; refine dwk [] TRT_ok hnt fun K hK => ?_; refine hK _ _ ?_; clear hK K; refine dw_seq ?_; refine dw_seq ?_; refine dwk [] TRT_ok hnt fun K hK => ?_; refine hK _ _ ?_; clear hK K; refine dw_block ?_
  refine dw_loop (ι := { j : Nat // Pn.mayL n (vs.take j) [] = true }) (fun j => [(.t 0, .v (.int .i64 n)), (.t 1, .sl 1 (eIs vs) none), (.t 5, .v (.int .i64 ↑j.1))]) 0 (fun j => vs.length - j.1) (⟨0, rfl⟩) ((VS.toK (by omega) (by repeat first | exact trivial | refine And.intro (And.intro (by first | rfl | simp [D.ok, D.oks, D.okss, D.okm, upto, keyOk, argsT]) (by first | exact Or.inl rfl | exact Or.inr ⟨_, rfl, (by repeat first | exact VLe.refl _ | exact VLe.nil _ | exact VLe.untag _ _ _ | refine VLe.ag ?_ | refine VLe.tu ?_ | refine VLeL.cons ?_ ?_ | exact VLeL.nil), trivial⟩ | simp [get, Key.eq, argsT])) ?_))) fun j => ?_
  obtain ⟨j, hj⟩ := j
  dsimp only
  by_cases hlt : j < vs.length
  ·have hst := Pn.mayL_take n vs j hlt
   rw [hj] at hst
   have hha := rhas_d (vs.take j) vs[j] (by rw [List.length_take]; omega)
   have hcut : (eIs vs).take j = eIs (vs.take j) := by unfold eIs; rw [List.map_take]
   have hbad : (decide (0 ≤ vs[j]) && (decide (vs[j] < n) && !(vs.take j).contains vs[j])) = false → Pn.mayV n vs = false := fun h => by
    rw [h] at hst
    cases hm : Pn.mayV n vs with
    | false => rfl
    | true => have := Pn.mayL_pre n vs (j + 1) hm; rw [hst] at this; cases this
   by_cases h0 : vs[j] < 0
   ·rw [hbad (by rw [decide_eq_false (show ¬ 0 ≤ vs[j] by omega)]; rfl)]
    refine dw_seq ?_; refine dw_seq ?_; refine dwk [(8, .v (.int .i64 (↑vs.length))), (9, .v (.bool true))] TRT_ok hnt fun K hK => ?_; refine And.intro (dintE (by rw [eIs_len])) ?_; refine And.intro auT ?_; refine hK _ _ ?_; clear hK K; refine dw_cond (t := true) rfl ?_; rw [if_pos rfl]; refine dw_skip ?_; refine dw_seq ?_; refine dw_block ?_; refine dw_seq ?_; refine dwkD [(14, .q [.v (.int .i64 (vs[j]))]), (16, .v (.bool true))] TRT_ok hnt fun K hK => ?_
    refine And.intro (elo (eIs_len vs)) ?_; refine And.intro (elv (eIs_getD vs j) rfl) ?_; refine And.intro auT ?_; refine hK _ _ (by kernel_rfl) ?_; clear hK K; refine dw_cond (t := true) rfl ?_; rw [if_pos rfl]; refine dw_seq ?_; refine dwk [] TRT_ok hnt fun K hK => ?_; refine hK _ _ ?_; clear hK K; refine dw_ret ?_
    exact reta rfl
   ·by_cases h1 : n ≤ vs[j]
    ·rw [hbad (by rw [decide_eq_false (show ¬ vs[j] < n by omega)]; simp)]
     refine dw_seq ?_; refine dw_seq ?_; refine dwk [(8, .v (.int .i64 (↑vs.length))), (9, .v (.bool true))] TRT_ok hnt fun K hK => ?_; refine And.intro (dintE (by rw [eIs_len])) ?_; refine And.intro auT ?_; refine hK _ _ ?_; clear hK K; refine dw_cond (t := true) rfl ?_; rw [if_pos rfl]; refine dw_skip ?_; refine dw_seq ?_; refine dw_block ?_; refine dw_seq ?_; refine dwkD [(14, .q [.v (.int .i64 (vs[j]))]), (16, .v (.bool false)), (20, .q [.v (.int .i64 (vs[j]))]), (23, .v (.bool true))] TRT_ok hnt fun K hK => ?_
     refine And.intro (elo (eIs_len vs)) ?_; refine And.intro (elv (eIs_getD vs j) rfl) ?_; refine And.intro auF ?_; refine And.intro (elo (eIs_len vs)) ?_; refine And.intro (elv (eIs_getD vs j) rfl) ?_; refine And.intro auT ?_; refine hK _ _ (by kernel_rfl) ?_; clear hK K; refine dw_cond (t := true) rfl ?_; rw [if_pos rfl]; refine dw_seq ?_; refine dwk [] TRT_ok hnt fun K hK => ?_; refine hK _ _ ?_; clear hK K
     refine dw_ret ?_
     exact reta rfl
    ·cases hc : (vs.take j).contains vs[j] with
     | true =>
      rw [hbad (by rw [hc]; simp)]
      rw [hc] at hha
      refine dw_seq ?_; refine dw_seq ?_; refine dwk [(8, .v (.int .i64 (↑vs.length))), (9, .v (.bool true))] TRT_ok hnt fun K hK => ?_; refine And.intro (dintE (by rw [eIs_len])) ?_; refine And.intro auT ?_; refine hK _ _ ?_; clear hK K; refine dw_cond (t := true) rfl ?_; rw [if_pos rfl]; refine dw_skip ?_; refine dw_seq ?_; refine dw_block ?_; refine dw_seq ?_; refine dwkD [(14, .q [.v (.int .i64 (vs[j]))]), (16, .v (.bool false)), (20, .q [.v (.int .i64 (vs[j]))]), (23, .v (.bool false)), (28, .sl 1 (eIs (vs.take j)) none), (31, .q [.v (.int .i64 (vs[j]))])] TRT_ok hnt fun K hK => ?_
      refine And.intro (elo (eIs_len vs)) ?_; refine And.intro (elv (eIs_getD vs j) rfl) ?_; refine And.intro auF ?_; refine And.intro (elo (eIs_len vs)) ?_; refine And.intro (elv (eIs_getD vs j) rfl) ?_; refine And.intro auF ?_; refine And.intro (⟨by omega, by rw [eIs_len]; omega⟩) ?_; refine And.intro (VLe.of_eq (by simp only [Option.getD_none, Option.getD_some, Int.toNat_natCast, Int.toNat_zero, List.drop_zero, hcut])) ?_
      refine And.intro (elo (eIs_len vs)) ?_; refine And.intro (elv (eIs_getD vs j) rfl) ?_; refine dcl (hha) ?_; refine hK _ _ (by kernel_rfl) ?_; clear hK K; refine dw_cond (t := true) rfl ?_; rw [if_pos rfl]; refine dw_seq ?_; refine dwk [] TRT_ok hnt fun K hK => ?_; refine hK _ _ ?_; clear hK K; refine dw_ret ?_
      exact reta rfl
     | false =>
      rw [hc] at hha
      refine dw_seq ?_; refine dw_seq ?_; refine dwk [(8, .v (.int .i64 (↑vs.length))), (9, .v (.bool true))] TRT_ok hnt fun K hK => ?_; refine And.intro (dintE (by rw [eIs_len])) ?_; refine And.intro auT ?_; refine hK _ _ ?_; clear hK K; refine dw_cond (t := true) rfl ?_; rw [if_pos rfl]; refine dw_skip ?_; refine dw_seq ?_; refine dw_block ?_; refine dw_seq ?_; refine dwkD [(14, .q [.v (.int .i64 (vs[j]))]), (16, .v (.bool false)), (20, .q [.v (.int .i64 (vs[j]))]), (23, .v (.bool false)), (28, .sl 1 (eIs (vs.take j)) none), (31, .q [.v (.int .i64 (vs[j]))])] TRT_ok hnt fun K hK => ?_
      refine And.intro (elo (eIs_len vs)) ?_; refine And.intro (elv (eIs_getD vs j) rfl) ?_; refine And.intro auF ?_; refine And.intro (elo (eIs_len vs)) ?_; refine And.intro (elv (eIs_getD vs j) rfl) ?_; refine And.intro auF ?_; refine And.intro (⟨by omega, by rw [eIs_len]; omega⟩) ?_; refine And.intro (VLe.of_eq (by simp only [Option.getD_none, Option.getD_some, Int.toNat_natCast, Int.toNat_zero, List.drop_zero, hcut])) ?_
      refine And.intro (elo (eIs_len vs)) ?_; refine And.intro (elv (eIs_getD vs j) rfl) ?_; refine dcl (hha) ?_; refine hK _ _ (by kernel_rfl) ?_; clear hK K; refine dw_cond (t := false) rfl ?_; rw [if_neg (by simp)]; refine dw_skip ?_; refine dwk [(11, .v (.int .i64 (↑(j + 1))))] TRT_ok hnt fun K hK => ?_; refine And.intro auI ?_; refine hK _ _ ?_; clear hK K
      refine ⟨⟨j + 1, by rw [hst, hc, decide_eq_true (show 0 ≤ vs[j] by omega), decide_eq_true (show vs[j] < n by omega)]; rfl⟩, by first | omega | (dsimp only; omega), VS.toA⟩
  ·rw [List.take_of_length_le (by omega)] at hj
   unfold Pn.mayV
   rw [hj]
   refine dw_seq ?_; refine dw_seq ?_; refine dwk [(8, .v (.int .i64 (↑vs.length))), (9, .v (.bool false))] TRT_ok hnt fun K hK => ?_; refine And.intro (dintE (by rw [eIs_len])) ?_; refine And.intro auF ?_; refine hK _ _ ?_; clear hK K; refine dw_cond (t := false) rfl ?_; rw [if_neg (by simp)]; refine dw_exit ?_; refine dw_seq ?_; refine dwk [] TRT_ok hnt fun K hK => ?_; refine hK _ _ ?_; clear hK K; refine dw_ret ?_
   exact reta rfl
theorem rtypes_d (binds : List Ty) (vs : List Int) (hl : vs.length ≤ 100000) (hb : binds.length ≤ 1000000) (hv : ∀ v ∈ vs, 0 ≤ v ∧ v < binds.length) : PureC Try.prog 118 [.sl 2 (eTys binds) none, .sl 1 (eIs vs) none] (.sl 2 (eTys (Pn.types binds vs)) none) := by
 refine calldw 0 28 [ResultVar.tmp 4] TRT_ok Try.func118 rfl Try.ntmps118 rfl fun cx hnt hn0 => ?_
 ·skip
  refine dw_seq ?_; refine dwk [] TRT_ok hnt fun K hK => ?_; refine hK _ _ ?_; clear hK K; refine dw_seq ?_; refine dwk [] TRT_ok hnt fun K hK => ?_; refine hK _ _ ?_; clear hK K; refine dw_seq ?_; refine dw_seq ?_; refine dwk [] TRT_ok hnt fun K hK => ?_; refine hK _ _ ?_; clear hK K; refine dw_block ?_
  refine dw_loop (ι := { j : Nat // j ≤ vs.length }) (fun j => [(.t 0, .sl 2 (eTys binds) none), (.t 1, .sl 1 (eIs vs) none), (.t 5, .sl 2 (eTys (Pn.types binds (vs.take j.1))) (some 3)), (.r 3, .rw 123 2 j.1), (.t 6, .v (.int .i64 ↑j.1))]) 4 (fun j => vs.length - j.1) (⟨0, Nat.zero_le _⟩) ((VS.trans (VS.rowT (x := 5) (by rw [hnt]; decide) 123 2 rfl) (VS.toK (by omega) (by repeat first | exact trivial | refine And.intro (And.intro (by first | rfl | simp [D.ok, D.oks, D.okss, D.okm, upto, keyOk, argsT]) (by first | exact Or.inl rfl | exact Or.inr ⟨_, rfl, (by repeat first | exact VLe.refl _ | exact VLe.nil _ | exact VLe.untag _ _ _ | refine VLe.ag ?_ | refine VLe.tu ?_ | refine VLeL.cons ?_ ?_ | exact VLeL.nil), trivial⟩ | simp [get, Key.eq, argsT])) ?_)))) fun j => ?_
  obtain ⟨j, hj⟩ := j
  dsimp only
  by_cases hlt : j < vs.length
  ·obtain ⟨h0, h1⟩ := hv _ (List.getElem_mem hlt)
   have hk : ((binds.length : Int) - 1 - vs[j]).toNat < binds.length := by omega
   have hx : Pn.types binds (vs.take (j + 1)) = Pn.types binds (vs.take j) ++ [binds[((binds.length : Int) - 1 - vs[j]).toNat]] := by
    rw [List.take_add_one, List.getElem?_eq_getElem hlt]
    unfold Pn.types
    rw [List.map_append]
    simp [List.getD_eq_getElem?_getD, List.getElem?_eq_getElem hk]
   have hq := eTys_getD binds _ hk
   obtain ⟨b, hbq⟩ : ∃ b, binds[((binds.length : Int) - 1 - vs[j]).toNat] = b := ⟨_, rfl⟩
   rw [hbq] at hx hq
   have hlq : (eTys (Pn.types binds (vs.take j))).length = j := by rw [eTys_len]; unfold Pn.types; rw [List.length_map, List.length_take]; omega
   refine dw_seq ?_; refine dw_seq ?_; refine dwk [(9, .v (.int .i64 (↑vs.length))), (10, .v (.bool true))] TRT_ok hnt fun K hK => ?_; refine And.intro (dintE (by rw [eIs_len])) ?_; refine And.intro auT ?_; refine hK _ _ ?_; clear hK K; refine dw_cond (t := true) rfl ?_; rw [if_pos rfl]; refine dw_skip ?_; refine dw_seq ?_; refine dw_block ?_; refine dwk [(16, .v (.int .i64 (↑binds.length))), (17, .v (.int .i64 (↑binds.length - 1))), (20, .q [.v (.int .i64 (vs[j]))]), (22, .v (.int .i64 (↑binds.length - 1 - vs[j]))), (23, .q [.sl 2 (eTys b.args) none, .v (.int .i64 b.base)]), (26, .sl 2 (eTys (Pn.types binds (vs.take (j + 1)))) (some 3))] TRT_ok hnt fun K hK => ?_
   refine And.intro (dintE (by rw [eTys_len])) ?_; refine And.intro auI ?_; refine And.intro (elo (eIs_len vs)) ?_; refine And.intro (elv (eIs_getD vs j) rfl) ?_; refine And.intro auI ?_; refine And.intro (⟨by omega, by rw [eTys_len]; omega⟩) ?_; refine And.intro (VLe.of_eq (by rw [hq, eTy_eq])) ?_; refine And.intro (⟨by rw [hlq], by rw [hlq]; simp; omega⟩) ?_; refine And.intro (VLe.of_eq (by rw [hx, eTys_append, eTys, eTys, eTy_eq])) ?_
   refine hK _ _ ?_; clear hK K; refine dwk [(12, .v (.int .i64 (↑(j + 1))))] TRT_ok hnt fun K hK => ?_; refine And.intro auI ?_; refine hK _ _ ?_; clear hK K
   refine ⟨⟨j + 1, by omega⟩, by first | omega | (dsimp only; omega), (by try simp only [List.length_append, List.length_take, List.length_cons, List.length_nil, Nat.zero_add, hlq]; exact VS.toA)⟩
  ·rw [List.take_of_length_le (by omega)]
   refine dw_seq ?_; refine dw_seq ?_; refine dwk [(9, .v (.int .i64 (↑vs.length))), (10, .v (.bool false))] TRT_ok hnt fun K hK => ?_; refine And.intro (dintE (by rw [eIs_len])) ?_; refine And.intro auF ?_; refine hK _ _ ?_; clear hK K; refine dw_cond (t := false) rfl ?_; rw [if_neg (by simp)]; refine dw_exit ?_; refine dw_seq ?_; refine dwk [] TRT_ok hnt fun K hK => ?_; refine hK _ _ ?_; clear hK K
   refine dw_ret ?_
   exact reta rfl

namespace Pn
theorem mayL_nodup (n : Int) : ∀ (l acc : List Int), mayL n l acc = true → acc.Nodup → (acc ++ l).Nodup
  | [], acc, _, hn => by simpa using hn
  | v :: l, acc, h, hn => by
    simp only [mayL, Bool.and_eq_true, Bool.not_eq_true', decide_eq_true_eq] at h
    have h2 := mayL_nodup n l (acc ++ [v]) h.2.2.2 (by
      refine List.nodup_append.2 ⟨hn, by simp, ?_⟩
      intro a ha b hb e
      rw [List.mem_singleton] at hb
      subst hb; subst e
      have := h.2.2.1
      rw [← List.contains_iff_mem] at ha
      rw [ha] at this; cases this)
    rw [List.append_assoc] at h2; exact h2
theorem ix_get {x : Int} : ∀ {l : List Int} {k : Nat}, ix x l = some k → l[k]? = some x
  | v :: l, k, h => by
    rw [ix] at h
    split at h
    · rename_i e; cases h; simp [e]
    · cases hx : ix x l with
      | none => rw [hx] at h; cases h
      | some j => rw [hx] at h; cases h; simpa using ix_get hx
theorem nodup_get {l : List Int} (h : l.Nodup) {i j : Nat} {x : Int} (hi : l[i]? = some x) (hj : l[j]? = some x) : i = j := by
  have key : ∀ (i j : Nat), l[i]? = some x → l[j]? = some x → ¬ i < j := fun i j hi hj hij => by
    obtain ⟨hi1, hi2⟩ := List.getElem?_eq_some_iff.1 hi
    obtain ⟨hj1, hj2⟩ := List.getElem?_eq_some_iff.1 hj
    exact (List.pairwise_iff_getElem.1 h) i j hi1 hj1 hij (by rw [hi2, hj2])
  have h1 := key i j hi hj
  have h2 := key j i hj hi
  omega
theorem tkBs_take (n : Int) (vs : List Int) (ins : Int) (a : List Tm) (j : Nat) (hj : j < a.length) (h : tkBs n vs (a.take j) ins = true) : tkBs n vs (a.take (j + 1)) ins = tkB n vs a[j] ins := by
  rw [tkBs_all] at h ⊢
  rw [List.take_add_one, List.getElem?_eq_getElem hj, List.all_append, h, Option.toList_some]
  simp
theorem tkBs_stop (n : Int) (vs : List Int) (ins : Int) (a : List Tm) (j : Nat) (h : tkBs n vs (a.take j) ins = false) : tkBs n vs a ins = false := by
  rw [tkBs_all] at h ⊢
  rw [← List.take_append_drop j a, List.all_append, h]; rfl
end Pn
def tkV (r : Tm) (b : Bool) : D := .tu [.ag (eTm (if b then r else Tm.zero)), .v (.bool b)]
set_option maxHeartbeats 4000000 in
theorem rtaken_d (n : Int) (vs : List Int) (hn : 0 ≤ n ∧ n ≤ 100000) (hl : vs.length ≤ 10000) (hnd : vs.Nodup) : ∀ (t : Tm) (ins : Int), 0 ≤ ins → ins + t.full ≤ 100000 → lowB t = true → t.full ≤ 100000 →
  PureC Try.prog 117 [.ag (eTm t), .v (.int .i64 ins), .v (.int .i64 n), .sl 1 (eIs vs) none] (tkV (Pn.tk n vs t ins) (Pn.tkB n vs t ins)) := by
 intro t
 induction t using Tm.ind with
 | h bs k i a ih =>
 intro ins h0 h1 hlow hz
 rw [Tm.full_eq] at h1 hz
 rw [lowB_eq] at hlow
 simp only [Bool.and_eq_true, Bool.not_eq_true', kind_mk', index_mk', args_mkT] at hlow
 have hbl : bs.length ≤ Ty.sizes bs := Ty.le_sizes bs
 have hal := fulls_len a
 obtain ⟨m, hm⟩ : ∃ m : Int, ins + (bs.length : Nat) = m := ⟨_, rfl⟩
 obtain ⟨i', hi'⟩ : ∃ i', (if k = 0 ∧ m ≤ i then m + Pn.go n vs (i - m) else i) = i' := ⟨_, rfl⟩
 have hL : Pn.tk n vs (.mk bs k i a) ins = .mk bs k i' (Pn.tks n vs a m) := by rw [Pn.tk_eq, hm, hi']
 have hha := rhas_d vs (i - m) (by omega)
 unfold tkV
 rw [hL, Pn.tkB, hm, eTm_eq]
 simp only [binds_mk', kind_mk', index_mk', args_mkT]
 by_cases hbad : k = 0 ∧ m ≤ i ∧ i - m < n ∧ Pn.ix (i - m) vs = none
 ·obtain ⟨b1, b2, b3, b4⟩ := hbad
  rw [show (!(decide (k = 0) && decide (m ≤ i) && (decide (i - m < n) && (Pn.ix (i - m) vs).isNone))) = false by rw [b4]; simp [b1, b2, b3], Bool.false_and, if_neg (by simp), eTm_eq]
  rw [ix_none.1 b4] at hha
  have hix : i ≤ 900000 := by
   by_cases h9 : 900000 < i
   ·exact absurd hlow.1 (by simp [b1, h9])
   ·omega
  refine calldw 0 111 [ResultVar.cell 8 27, ResultVar.tmp 9] TRT_ok Try.func117 rfl Try.ntmps117 rfl fun cx hnt hn0 => ?_
  ·skip
   refine dw_seq ?_; refine dwk [] TRT_ok hnt fun K hK => ?_; refine hK _ _ ?_; clear hK K; refine dw_seq ?_; refine dwk [(20, .v (.int .i64 (↑bs.length))), (21, .v (.int .i64 (m)))] TRT_ok hnt fun K hK => ?_; refine And.intro (dintE (by rw [eTys_len])) ?_; refine And.intro auI ?_; refine hK _ _ ?_; clear hK K; refine dw_seq ?_; refine dwk [] TRT_ok hnt fun K hK => ?_; refine hK _ _ ?_; clear hK K; refine dw_seq ?_
   refine dw_seq ?_; refine dwk [(30, .v (.bool true)), (36, .v (.bool true))] TRT_ok hnt fun K hK => ?_; refine And.intro (beqT b1) ?_; refine And.intro auT ?_; refine hK _ _ ?_; clear hK K; refine dw_cond (t := true) rfl ?_; rw [if_pos rfl]; refine dw_seq ?_; refine dwk [(42, .v (.int .i64 (i - m)))] TRT_ok hnt fun K hK => ?_; refine And.intro auI ?_; refine hK _ _ ?_; clear hK K; refine dw_seq ?_; refine dwk [(45, .v (.bool false))] TRT_ok hnt fun K hK => ?_
   refine And.intro auF ?_; refine hK _ _ ?_; clear hK K; refine dw_cond (t := false) rfl ?_; rw [if_neg (by simp)]; refine dw_seq ?_; refine dw_seq ?_; refine dwk [] TRT_ok hnt fun K hK => ?_; refine dcl (hha) ?_; refine hK _ _ ?_; clear hK K; refine dw_cond (t := true) rfl ?_; rw [if_pos rfl]; refine dw_seq ?_; refine dwk [] TRT_ok hnt fun K hK => ?_; refine hK _ _ ?_; clear hK K; refine dw_ret ?_
   exact reta rfl
 ·have hfirst : (!(decide (k = 0) && decide (m ≤ i) && (decide (i - m < n) && (Pn.ix (i - m) vs).isNone))) = true := by
   by_cases b1 : k = 0
   ·by_cases b2 : m ≤ i
    ·by_cases b3 : i - m < n
     ·cases b4 : Pn.ix (i - m) vs with
      | none => exact absurd ⟨b1, b2, b3, b4⟩ hbad
      | some x => simp
     ·simp [b3]
    ·simp [b2]
   ·simp [b1]
  rw [hfirst, Bool.true_and]
  refine calldw 0 111 [ResultVar.cell 8 27, ResultVar.tmp 9] TRT_ok Try.func117 rfl Try.ntmps117 rfl fun cx hnt hn0 => ?_
  ·skip
   refine dw_seq ?_; refine dwk [] TRT_ok hnt fun K hK => ?_; refine hK _ _ ?_; clear hK K; refine dw_seq ?_; refine dwk [(20, .v (.int .i64 (↑bs.length))), (21, .v (.int .i64 (m)))] TRT_ok hnt fun K hK => ?_; refine And.intro (dintE (by rw [eTys_len])) ?_; refine And.intro auI ?_; refine hK _ _ ?_; clear hK K; refine dw_seq ?_; refine dwk [] TRT_ok hnt fun K hK => ?_; refine hK _ _ ?_; clear hK K
   refine dw_cut (τ := [(.t 2, .v (.int .i64 n)), (.t 3, .sl 1 (eIs vs) none), (.t 4, .p 0 0), (.t 8, .p 1 0), (.t 10, .v (.int .i64 m)), (.t 11, .p 14 0), (.c 0 3, .sl 4 (eTms a) none), (.c 1 0, .v (.slice none 0 0)), (.c 1 1, .v (.int .i64 0)), (.c 1 2, .v (.int .i64 0)), (.c 1 3, .v (.slice none 0 0)), (.c 14 0, .sl 2 (eTys bs) none), (.c 14 1, .v (.int .i64 k)), (.c 14 2, .v (.int .i64 i')), (.c 14 3, .v (.slice none 0 0))]) (N1 := 15) ?_ ?_
   ·by_cases b1 : k = 0
    ·by_cases b2 : m ≤ i
     ·rw [if_pos ⟨b1, b2⟩] at hi'
      have hix : i ≤ 900000 := by
       by_cases h9 : 900000 < i
       ·exact absurd hlow.1 (by simp [b1, h9])
       ·omega
      by_cases b3 : n ≤ i - m
      ·have hg : Pn.go n vs (i - m) = i - m - n + vs.length := if_pos b3
       rw [hg] at hi'
       refine dw_seq ?_; refine dwk [(30, .v (.bool true)), (36, .v (.bool true))] TRT_ok hnt fun K hK => ?_; refine And.intro (beqT b1) ?_; refine And.intro auT ?_; refine hK _ _ ?_; clear hK K; refine dw_cond (t := true) rfl ?_; rw [if_pos rfl]; refine dw_seq ?_; refine dwk [(42, .v (.int .i64 (i - m)))] TRT_ok hnt fun K hK => ?_; refine And.intro auI ?_; refine hK _ _ ?_; clear hK K; refine dw_seq ?_; refine dwk [(45, .v (.bool true))] TRT_ok hnt fun K hK => ?_
       refine And.intro auT ?_; refine hK _ _ ?_; clear hK K; refine dw_cond (t := true) rfl ?_; rw [if_pos rfl]; refine dwk [(50, .v (.int .i64 (i - n))), (52, .v (.int .i64 (↑vs.length))), (53, .v (.int .i64 (i')))] TRT_ok hnt fun K hK => ?_; refine And.intro auI ?_; refine And.intro (dintE (by rw [eIs_len])) ?_; refine And.intro (dintE (by rw [IntWalk.i64_in _ (by omega)]; omega)) ?_; refine hK _ _ ?_; clear hK K
       exact cut_ok VS.toA
      ·cases b4 : Pn.ix (i - m) vs with
       | none => exact absurd ⟨b1, b2, by omega, b4⟩ hbad
       | some x =>
        have hg : Pn.go n vs (i - m) = (vs.length : Int) - 1 - (x : Int) := by unfold Pn.go; rw [if_neg b3, b4]
        rw [hg] at hi'
        have hxl := ix_lt b4
        have hxg := Pn.ix_get b4
        have hc : vs.contains (i - m) = true := by
         cases hc : vs.contains (i - m) with
         | true => rfl
         | false => rw [ix_none.2 hc] at b4; cases b4
        rw [hc] at hha
        refine dw_seq ?_; refine dwk [(30, .v (.bool true)), (36, .v (.bool true))] TRT_ok hnt fun K hK => ?_; refine And.intro (beqT b1) ?_; refine And.intro auT ?_; refine hK _ _ ?_; clear hK K; refine dw_cond (t := true) rfl ?_; rw [if_pos rfl]; refine dw_seq ?_; refine dwk [(42, .v (.int .i64 (i - m)))] TRT_ok hnt fun K hK => ?_; refine And.intro auI ?_; refine hK _ _ ?_; clear hK K; refine dw_seq ?_; refine dwk [(45, .v (.bool false))] TRT_ok hnt fun K hK => ?_
        refine And.intro auF ?_; refine hK _ _ ?_; clear hK K; refine dw_cond (t := false) rfl ?_; rw [if_neg (by simp)]; refine dw_seq ?_; refine dw_seq ?_; refine dwk [] TRT_ok hnt fun K hK => ?_; refine dcl (hha) ?_; refine hK _ _ ?_; clear hK K; refine dw_cond (t := false) rfl ?_; rw [if_neg (by simp)]; refine dw_skip ?_; refine dw_seq ?_; refine dwk [] TRT_ok hnt fun K hK => ?_; refine hK _ _ ?_; clear hK K
        refine dw_block ?_
        refine dw_loop (ι := { q : Nat × Int // q.1 ≤ vs.length ∧ q.2 = if x < q.1 then i' else i }) (fun q => [(.t 2, .v (.int .i64 n)), (.t 3, .sl 1 (eIs vs) none), (.t 4, .p 0 0), (.t 8, .p 1 0), (.t 10, .v (.int .i64 m)), (.t 11, .p 14 0), (.t 12, .v (.int .i64 (i - m))), (.t 13, .v (.int .i64 ↑q.1.1)), (.c 0 3, .sl 4 (eTms a) none), (.c 1 0, .v (.slice none 0 0)), (.c 1 1, .v (.int .i64 0)), (.c 1 2, .v (.int .i64 0)), (.c 1 3, .v (.slice none 0 0)), (.c 14 0, .sl 2 (eTys bs) none), (.c 14 1, .v (.int .i64 k)), (.c 14 2, .v (.int .i64 q.1.2)), (.c 14 3, .v (.slice none 0 0))]) 15 (fun q => vs.length - q.1.1) (⟨(0, i), Nat.zero_le _, rfl⟩) (VS.toA) fun q => ?_
        obtain ⟨⟨j, y⟩, hj, hy⟩ := q
        dsimp only at hj hy ⊢
        by_cases hlt : j < vs.length
        ·have hvj : vs[j]? = some vs[j] := List.getElem?_eq_getElem hlt
         by_cases he : vs[j] = i - m
         ·have hjx : j = x := Pn.nodup_get hnd (by rw [hvj, he]) hxg
          subst hjx
          refine dw_seq ?_; refine dw_seq ?_; refine dwk [(63, .v (.int .i64 (↑vs.length))), (64, .v (.bool true))] TRT_ok hnt fun K hK => ?_; refine And.intro (dintE (by rw [eIs_len])) ?_; refine And.intro auT ?_; refine hK _ _ ?_; clear hK K; refine dw_cond (t := true) rfl ?_; rw [if_pos rfl]; refine dw_skip ?_; refine dw_seq ?_; refine dw_block ?_; refine dw_seq ?_; refine dwk [(69, .q [.v (.int .i64 (vs[j]))]), (72, .v (.bool true))] TRT_ok hnt fun K hK => ?_
          refine And.intro (elo (eIs_len vs)) ?_; refine And.intro (elv (eIs_getD vs j) rfl) ?_; refine And.intro (beqT he) ?_; refine hK _ _ ?_; clear hK K; refine dw_cond (t := true) rfl ?_; rw [if_pos rfl]; refine dwk [(75, .v (.int .i64 (↑vs.length))), (76, .v (.int .i64 (m + ↑vs.length))), (77, .v (.int .i64 (m + ↑vs.length - 1))), (79, .v (.int .i64 (i')))] TRT_ok hnt fun K hK => ?_; refine And.intro (dintE (by rw [eIs_len])) ?_
          refine And.intro auI ?_; refine And.intro auI ?_; refine And.intro auI ?_; refine hK _ _ ?_; clear hK K; refine dwk [(66, .v (.int .i64 (↑(j + 1))))] TRT_ok hnt fun K hK => ?_; refine And.intro auI ?_; refine hK _ _ ?_; clear hK K
          refine ⟨⟨(j + 1, i'), hlt, (if_pos (Nat.lt_succ_self j)).symm⟩, by first | omega | (dsimp only; omega), VS.toA⟩
         ·have hjx : j ≠ x := fun e => by subst e; rw [hvj] at hxg; exact he (Option.some.inj hxg)
          refine dw_seq ?_; refine dw_seq ?_; refine dwk [(63, .v (.int .i64 (↑vs.length))), (64, .v (.bool true))] TRT_ok hnt fun K hK => ?_; refine And.intro (dintE (by rw [eIs_len])) ?_; refine And.intro auT ?_; refine hK _ _ ?_; clear hK K; refine dw_cond (t := true) rfl ?_; rw [if_pos rfl]; refine dw_skip ?_; refine dw_seq ?_; refine dw_block ?_; refine dw_seq ?_; refine dwk [(69, .q [.v (.int .i64 (vs[j]))]), (72, .v (.bool false))] TRT_ok hnt fun K hK => ?_
          refine And.intro (elo (eIs_len vs)) ?_; refine And.intro (elv (eIs_getD vs j) rfl) ?_; refine And.intro (beqF he) ?_; refine hK _ _ ?_; clear hK K; refine dw_cond (t := false) rfl ?_; rw [if_neg (by simp)]; refine dw_skip ?_; refine dwk [(66, .v (.int .i64 (↑(j + 1))))] TRT_ok hnt fun K hK => ?_; refine And.intro auI ?_; refine hK _ _ ?_; clear hK K
          have hif : (if x < j + 1 then i' else i) = (if x < j then i' else i) := by
           by_cases h : x < j
           ·rw [if_pos h, if_pos (by omega)]
           ·rw [if_neg h, if_neg (by omega)]
          refine ⟨⟨(j + 1, y), hlt, by rw [hif]; exact hy⟩, by first | omega | (dsimp only; omega), VS.toA⟩
        ·rw [if_pos (by omega)] at hy
         subst hy
         refine dw_seq ?_; refine dw_seq ?_; refine dwk [(63, .v (.int .i64 (↑vs.length))), (64, .v (.bool false))] TRT_ok hnt fun K hK => ?_; refine And.intro (dintE (by rw [eIs_len])) ?_; refine And.intro auF ?_; refine hK _ _ ?_; clear hK K; refine dw_cond (t := false) rfl ?_; rw [if_neg (by simp)]; refine dw_exit ?_
         exact cut_ok VS.toA
     ·rw [if_neg (fun h => b2 h.2)] at hi'
      subst hi'
      refine dw_seq ?_; refine dwk [(30, .v (.bool true)), (36, .v (.bool false))] TRT_ok hnt fun K hK => ?_; refine And.intro (beqT b1) ?_; refine And.intro auF ?_; refine hK _ _ ?_; clear hK K; refine dw_cond (t := false) rfl ?_; rw [if_neg (by simp)]; refine dw_skip ?_
      exact cut_ok VS.toA
    ·rw [if_neg (fun h => b1 h.1)] at hi'
     subst hi'
     refine dw_seq ?_; refine dwk [(30, .v (.bool false))] TRT_ok hnt fun K hK => ?_; refine And.intro (beqF b1) ?_; refine hK _ _ ?_; clear hK K; refine dw_cond (t := false) rfl ?_; rw [if_neg (by simp)]; refine dw_skip ?_
     exact cut_ok VS.toA
   ·skip
    refine dw_seq ?_; refine dw_seq ?_; refine dwk [] TRT_ok hnt fun K hK => ?_; refine hK _ _ ?_; clear hK K
    refine DW.vs (VS.row (k := 14) (off := 3) 27 4 rfl) ?_
    refine dw_block ?_
    refine dw_loop (ι := { j : Nat // Pn.tkBs n vs (a.take j) m = true ∧ j ≤ a.length }) (fun j => [(.t 2, .v (.int .i64 n)), (.t 3, .sl 1 (eIs vs) none), (.t 4, .p 0 0), (.t 8, .p 1 0), (.t 10, .v (.int .i64 m)), (.t 11, .p 14 0), (.t 14, .v (.int .i64 ↑j.1)), (.c 0 3, .sl 4 (eTms a) none), (.c 1 0, .v (.slice none 0 0)), (.c 1 1, .v (.int .i64 0)), (.c 1 2, .v (.int .i64 0)), (.c 1 3, .v (.slice none 0 0)), (.c 14 0, .sl 2 (eTys bs) none), (.c 14 1, .v (.int .i64 k)), (.c 14 2, .v (.int .i64 i')), (.c 14 3, .sl 4 (eTms (Pn.tks n vs (a.take j.1) m)) (some 16)), (.r 16, .rw 27 4 j.1)]) 17 (fun j => a.length - j.1) (⟨0, rfl, Nat.zero_le _⟩) ((VS.toK (by omega) (by repeat first | exact trivial | refine And.intro (And.intro (by first | rfl | simp [D.ok, D.oks, D.okss, D.okm, upto, keyOk, Pn.tks, eTms]) (by first | exact Or.inl rfl | exact Or.inr ⟨_, rfl, (by repeat first | exact VLe.refl _ | exact VLe.nil _ | exact VLe.untag _ _ _ | refine VLe.ag ?_ | refine VLe.tu ?_ | refine VLeL.cons ?_ ?_ | exact VLeL.nil), trivial⟩ | simp [get, Key.eq, Pn.tks, eTms])) ?_))) fun j => ?_
    obtain ⟨j, hj, hjl⟩ := j
    dsimp only
    by_cases hlt : j < a.length
    ·have hmem := List.getElem_mem hlt
     have hfm := full_mem hmem
     have hih := ih a[j] hmem m (by omega) (by omega) (by have := hlow.2; rw [lowsB_all, List.all_eq_true] at this; exact this _ hmem) (by omega)
     have hst := Pn.tkBs_take n vs m a j hlt hj
     have hta : Pn.tks n vs (a.take (j + 1)) m = Pn.tks n vs (a.take j) m ++ [Pn.tk n vs a[j] m] := by
      rw [Pn.tks_map, Pn.tks_map, List.take_add_one, List.getElem?_eq_getElem hlt, Option.toList_some, List.map_append]; rfl
     have hlq : (eTms (Pn.tks n vs (a.take j) m)).length = j := by rw [eTms_len, Pn.tks_map, List.length_map, List.length_take]; omega
     cases hb : Pn.tkB n vs a[j] m with
     | true =>
      rw [hb] at hih hst
      unfold tkV at hih
      rw [if_pos rfl, eTm_eq, eTm_eq] at hih; refine dw_seq ?_; refine dw_seq ?_; refine dwk [(85, .v (.int .i64 (↑a.length))), (86, .v (.bool true))] TRT_ok hnt fun K hK => ?_; refine And.intro (dintE (by rw [eTms_len])) ?_; refine And.intro auT ?_; refine hK _ _ ?_; clear hK K; refine dw_cond (t := true) rfl ?_; rw [if_pos rfl]; refine dw_skip ?_; refine dw_seq ?_; refine dw_block ?_; refine dw_seq ?_
      refine dwk [(93, .q [.sl 2 (eTys a[j].binds) none, .v (.int .i64 a[j].kind), .v (.int .i64 a[j].index), .sl 4 (eTms a[j].args) none])] TRT_ok hnt fun K hK => ?_; refine And.intro (elo (eTms_len a)) ?_; refine And.intro (elv (eTms_getD a j) (eTm_eq _)) ?_; refine dcl (hih) ?_; refine hK _ _ ?_; clear hK K; refine dw_seq ?_; refine dw_seq ?_; refine dwk [] TRT_ok hnt fun K hK => ?_; refine hK _ _ ?_; clear hK K
      refine dw_cond (t := false) rfl ?_; rw [if_neg (by simp)]; refine dw_skip ?_; refine dwk [(108, .sl 4 (eTms (Pn.tks n vs (a.take (j + 1)) m)) (some 16))] TRT_ok hnt fun K hK => ?_; refine And.intro (⟨by rw [hlq], by rw [hlq]; simp; omega⟩) ?_; refine And.intro (VLe.of_eq (by rw [hta, eTms_append, eTms, eTms, eTm_eq (Pn.tk n vs a[j] m)])) ?_; refine hK _ _ ?_; clear hK K; refine dwk [(88, .v (.int .i64 (↑(j + 1))))] TRT_ok hnt fun K hK => ?_
      refine And.intro auI ?_; refine hK _ _ ?_; clear hK K
      refine ⟨⟨j + 1, hst, hlt⟩, by first | omega | (dsimp only; omega), (by try simp only [List.length_append, List.length_take, List.length_cons, List.length_nil, Nat.zero_add, hlq]; exact VS.toA)⟩
     | false =>
      rw [hb] at hih hst
      rw [Pn.tkBs_stop n vs m a (j + 1) hst, if_neg (by simp), eTm_eq]
      unfold tkV at hih
      rw [if_neg (by simp), eTm_eq, eTm_eq] at hih; refine dw_seq ?_; refine dw_seq ?_; refine dwk [(85, .v (.int .i64 (↑a.length))), (86, .v (.bool true))] TRT_ok hnt fun K hK => ?_; refine And.intro (dintE (by rw [eTms_len])) ?_; refine And.intro auT ?_; refine hK _ _ ?_; clear hK K; refine dw_cond (t := true) rfl ?_; rw [if_pos rfl]; refine dw_skip ?_; refine dw_seq ?_; refine dw_block ?_; refine dw_seq ?_
      refine dwk [(93, .q [.sl 2 (eTys a[j].binds) none, .v (.int .i64 a[j].kind), .v (.int .i64 a[j].index), .sl 4 (eTms a[j].args) none])] TRT_ok hnt fun K hK => ?_; refine And.intro (elo (eTms_len a)) ?_; refine And.intro (elv (eTms_getD a j) (eTm_eq _)) ?_; refine dcl (hih) ?_; refine hK _ _ ?_; clear hK K; refine dw_seq ?_; refine dw_seq ?_; refine dwk [] TRT_ok hnt fun K hK => ?_; refine hK _ _ ?_; clear hK K
      refine dw_cond (t := true) rfl ?_; rw [if_pos rfl]; refine dw_seq ?_; refine dwk [] TRT_ok hnt fun K hK => ?_; refine hK _ _ ?_; clear hK K; refine dw_ret ?_
      exact reta rfl
    ·rw [List.take_of_length_le (by omega)] at hj ⊢
     rw [hj, if_pos rfl, eTm_eq]
     refine dw_seq ?_; refine dw_seq ?_; refine dwk [(85, .v (.int .i64 (↑a.length))), (86, .v (.bool false))] TRT_ok hnt fun K hK => ?_; refine And.intro (dintE (by rw [eTms_len])) ?_; refine And.intro auF ?_; refine hK _ _ ?_; clear hK K; refine dw_cond (t := false) rfl ?_; rw [if_neg (by simp)]; refine dw_exit ?_; refine dw_seq ?_; refine dwk [] TRT_ok hnt fun K hK => ?_; refine hK _ _ ?_; clear hK K
     refine dw_ret ?_
     exact reta rfl
set_option maxHeartbeats 2000000 in
theorem rtake_d (t : Tm) (binds : List Ty) (vs : List Int) (hb : binds.length ≤ 10000) (hl : vs.length ≤ 10000) (hz : t.full ≤ 80000) (hlow : lowB t = true) :
  PureC Try.prog 88 [.ag (eTm t), .sl 2 (eTys binds) none, .sl 1 (eIs vs) none] (.tu [.ag (eTm (Pn.take t binds vs).1), .v (.int .i64 (Pn.take t binds vs).2)]) := by
 have hM := rmay_d binds.length vs (by omega)
 unfold Pn.take
 cases hm : Pn.mayV binds.length vs with
 | false =>
  rw [hm] at hM
  rw [if_neg (by simp), eTm_eq, eTm_eq]
  refine calldw 0 35 [ResultVar.cell 6 27, ResultVar.tmp 7] TRT_ok Try.func88 rfl Try.ntmps88 rfl fun cx hnt hn0 => ?_
  ·skip
   refine dw_seq ?_; refine dwk [] TRT_ok hnt fun K hK => ?_; refine hK _ _ ?_; clear hK K; refine dw_seq ?_; refine dw_seq ?_; refine dwk [(11, .v (.int .i64 (↑binds.length)))] TRT_ok hnt fun K hK => ?_; refine And.intro (dintE (by rw [eTys_len])) ?_; refine dcl (hM) ?_; refine hK _ _ ?_; clear hK K; refine dw_cond (t := true) rfl ?_; rw [if_pos rfl]; refine dw_seq ?_; refine dwk [] TRT_ok hnt fun K hK => ?_
   refine hK _ _ ?_; clear hK K; refine dw_ret ?_
   exact reta rfl
 | true =>
  rw [hm] at hM
  rw [if_pos rfl]
  have hnd : vs.Nodup := by have := Pn.mayL_nodup _ vs [] hm List.nodup_nil; simpa using this
  have hk := rtaken_d binds.length vs ⟨by omega, by omega⟩ hl hnd t 0 (by omega) (by omega) hlow (by omega)
  have hT := rtypes_d binds vs (by omega) (by omega) (Pn.mayL_mem _ vs [] hm)
  have htl : (Pn.types binds vs).length = vs.length := by unfold Pn.types; rw [List.length_map]
  have hbl := Ty.le_sizes t.binds
  have hft := full_args t
  have hB := rbehind_d (Pn.types binds vs) t.binds (by omega)
  unfold tkV at hk
  cases hb2 : Pn.tkB binds.length vs t 0 with
  | false =>
   rw [hb2, if_neg (by simp), eTm_eq, eTm_eq] at hk
   rw [if_neg (by simp), eTm_eq, eTm_eq]
   refine calldw 0 35 [ResultVar.cell 6 27, ResultVar.tmp 7] TRT_ok Try.func88 rfl Try.ntmps88 rfl fun cx hnt hn0 => ?_
   ·skip
    refine dw_seq ?_; refine dwk [] TRT_ok hnt fun K hK => ?_; refine hK _ _ ?_; clear hK K; refine dw_seq ?_; refine dw_seq ?_; refine dwk [(11, .v (.int .i64 (↑binds.length)))] TRT_ok hnt fun K hK => ?_; refine And.intro (dintE (by rw [eTys_len])) ?_; refine dcl (hM) ?_; refine hK _ _ ?_; clear hK K; refine dw_cond (t := false) rfl ?_; rw [if_neg (by simp)]; refine dw_skip ?_; refine dw_seq ?_; refine dwk [(19, .v (.int .i64 (↑binds.length)))] TRT_ok hnt fun K hK => ?_
    refine And.intro (dintE (by rw [eTys_len])) ?_; refine dcl (hk) ?_; refine hK _ _ ?_; clear hK K; refine dw_seq ?_; refine dw_seq ?_; refine dwk [] TRT_ok hnt fun K hK => ?_; refine hK _ _ ?_; clear hK K; refine dw_cond (t := true) rfl ?_; rw [if_pos rfl]; refine dw_seq ?_; refine dwk [] TRT_ok hnt fun K hK => ?_; refine hK _ _ ?_; clear hK K; refine dw_ret ?_
    exact reta rfl
  | true =>
   rw [hb2, if_pos rfl, eTm_eq, eTm_eq] at hk
   rw [if_pos rfl, eTm_eq, eTm_eq]
   simp only [binds_mk', kind_mk', index_mk', args_mkT]
   refine calldw 0 35 [ResultVar.cell 6 27, ResultVar.tmp 7] TRT_ok Try.func88 rfl Try.ntmps88 rfl fun cx hnt hn0 => ?_
   ·skip
    refine dw_seq ?_; refine dwk [] TRT_ok hnt fun K hK => ?_; refine hK _ _ ?_; clear hK K; refine dw_seq ?_; refine dw_seq ?_; refine dwk [(11, .v (.int .i64 (↑binds.length)))] TRT_ok hnt fun K hK => ?_; refine And.intro (dintE (by rw [eTys_len])) ?_; refine dcl (hM) ?_; refine hK _ _ ?_; clear hK K; refine dw_cond (t := false) rfl ?_; rw [if_neg (by simp)]; refine dw_skip ?_; refine dw_seq ?_; refine dwk [(19, .v (.int .i64 (↑binds.length)))] TRT_ok hnt fun K hK => ?_
    refine And.intro (dintE (by rw [eTys_len])) ?_; refine dcl (hk) ?_; refine hK _ _ ?_; clear hK K; refine dw_seq ?_; refine dw_seq ?_; refine dwk [] TRT_ok hnt fun K hK => ?_; refine hK _ _ ?_; clear hK K; refine dw_cond (t := false) rfl ?_; rw [if_neg (by simp)]; refine dw_skip ?_; refine dw_seq ?_; refine dwkD [] TRT_ok hnt fun K hK => ?_; refine dcl (hT) ?_; refine dcl (hB) ?_; refine hK _ _ (by kernel_rfl) ?_; clear hK K
    refine dw_seq ?_; refine dwk [] TRT_ok hnt fun K hK => ?_; refine hK _ _ ?_; clear hK K; refine dw_ret ?_
    exact reta rfl
end Go.Proofs.Ytcblpjheoclkeaa

namespace Go.Proofs.Ytcblpjheoclkeaa
open Go.RowKit

end Go.Proofs.Ytcblpjheoclkeaa

namespace Go.Proofs.Ytcblpjheoclkeaa
open Go.RowKit
end Go.Proofs.Ytcblpjheoclkeaa

namespace Go.Proofs.Ytcblpjheoclkeaa
open Go.RowKit

def getP (l : List (Int × Tm)) (m : Int) : Option (Int × Tm) := (idxOf m l).bind fun i => l[i]?
def getT (l : List (Int × Tm)) (m : Int) : Tm × Bool := match getP l m with
  | some p => (p.2, true)
  | none => (.mk [] 0 0 [], false)
end Go.Proofs.Ytcblpjheoclkeaa

namespace Go.Proofs.Ytcblpjheoclkeaa
open Go.RowKit
def TSR_50 : TI := ⟨1, false, [Value.slice none 0 0], [], some 118, 24, 5, none, false⟩
theorem TSR_50_ok : TypOk Try.prog 50 TSR_50 := ⟨by kernel_rfl, by kernel_rfl, by kernel_rfl, by kernel_rfl, by kernel_rfl⟩
def TSR_3 : TI := ⟨1, false, [Value.int IntKind.i64 0], [], none, 8, 2, none, false⟩
theorem TSR_3_ok : TypOk Try.prog 3 TSR_3 := ⟨by kernel_rfl, by kernel_rfl, by kernel_rfl, by kernel_rfl, by kernel_rfl⟩
def TSR_27 : TI := ⟨4, true, [Value.slice none 0 0, Value.int IntKind.i64 0, Value.int IntKind.i64 0, Value.slice none 0 0], [(0, 1, false), (1, 2, true), (3, 1, false)], none, 64, 6, none, false⟩
theorem TSR_27_ok : TypOk Try.prog 27 TSR_27 := ⟨by kernel_rfl, by kernel_rfl, by kernel_rfl, by kernel_rfl, by kernel_rfl⟩
def TSR_118 : TI := ⟨5, true, [Value.int IntKind.i64 0, Value.slice none 0 0, Value.int IntKind.i64 0, Value.int IntKind.i64 0, Value.slice none 0 0], [(0, 1, false), (1, 4, true)], none, 72, 6, none, false⟩
theorem TSR_118_ok : TypOk Try.prog 118 TSR_118 := ⟨by kernel_rfl, by kernel_rfl, by kernel_rfl, by kernel_rfl, by kernel_rfl⟩
def TSR : List (Nat × TI) := [(50, TSR_50), (3, TSR_3), (27, TSR_27), (118, TSR_118)]
theorem TSR_ok : TabOk Try.prog TSR := (((((TabOk.nil _).cons TSR_118_ok).cons TSR_27_ok).cons TSR_3_ok).cons TSR_50_ok)

theorem el_at {L : List (Int × Tm)} {i : Nat} {x : Int × Tm} (h : L[i]? = some x) : VLe (.q ((ePairs L).getD i [])) (.q [.v (.int .i64 x.1), .sl 2 (eTys x.2.binds) none, .v (.int .i64 x.2.kind), .v (.int .i64 x.2.index), .sl 4 (eTms x.2.args) none]) := by
  have hi : i < L.length := by
    rcases Nat.lt_or_ge i L.length with h' | h'
    · exact h'
    · rw [List.getElem?_eq_none h'] at h; cases h
  rw [List.getElem?_eq_getElem hi] at h
  cases h
  exact VLe.of_eq (by rw [ePairs_getD L i hi, ePair_eq])
theorem rget_d (l : List (Int × Tm)) (hl : l.length ≤ 900000) (m : Int) : PureC Try.prog 89 [.sl 5 (ePairs l) none, .v (.int .i64 m)] (.tu [.ag (eTm (getT l m).1), .v (.bool (getT l m).2)]) := by
 refine calldw 0 26 [ResultVar.cell 4 27, ResultVar.tmp 5] TSR_ok Try.func89 rfl Try.ntmps89 rfl fun cx hnt hn0 => ?_
 ·skip
  refine dw_seq ?_; refine dwk [] TSR_ok hnt fun K hK => ?_; refine hK _ _ ?_; clear hK K; refine dw_seq ?_; refine dw_seq ?_; refine dwk [] TSR_ok hnt fun K hK => ?_; refine hK _ _ ?_; clear hK K; refine dw_block ?_
  refine dw_loop (ι := { j : Nat // ∀ i (h : i < l.length), i < j → l[i].1 ≠ m }) (fun j => [(.t 0, .sl 5 (ePairs l) none), (.t 1, .v (.int .i64 m)), (.t 4, .p 0 0), (.t 6, .v (.int .i64 ↑j.1)), (.c 0 0, .v (.slice none 0 0)), (.c 0 1, .v (.int .i64 0)), (.c 0 2, .v (.int .i64 0)), (.c 0 3, .v (.slice none 0 0))]) 1 (fun j => l.length - j.1) (⟨0, fun i h1 h2 => by omega⟩) ((VS.toK (by omega) (by repeat first | exact trivial | refine And.intro (And.intro (by first | rfl | simp [D.ok, D.oks, D.okss, D.okm, upto, keyOk, argsT]) (by first | exact Or.inl rfl | exact Or.inr ⟨_, rfl, (by repeat first | exact VLe.refl _ | exact VLe.nil _ | exact VLe.untag _ _ _ | refine VLe.ag ?_ | refine VLe.tu ?_ | refine VLeL.cons ?_ ?_ | exact VLeL.nil), trivial⟩ | simp [get, Key.eq, argsT])) ?_))) fun j => ?_
  obtain ⟨j, hj⟩ := j
  dsimp only
  by_cases hlt : j < l.length
  ·by_cases hm : l[j].1 = m
   ·have hi : idxOf m l = some j := idxOf_some hlt hm fun k hk => hj k (by omega) hk
    have e : getT l m = (l[j].2, true) := by unfold getT getP; rw [hi, Option.bind_some, List.getElem?_eq_getElem hlt]
    rw [e, eTm_eq]
    refine dw_seq ?_; refine dw_seq ?_; refine dwk [(9, .v (.int .i64 (↑l.length))), (10, .v (.bool true))] TSR_ok hnt fun K hK => ?_; refine And.intro (dintE (by rw [ePairs_len])) ?_; refine And.intro auT ?_; refine hK _ _ ?_; clear hK K; refine dw_cond (t := true) rfl ?_; rw [if_pos rfl]; refine dw_skip ?_; refine dw_seq ?_; refine dw_block ?_; refine dw_seq ?_; refine dwk [(15, .q [.v (.int .i64 l[j].1), .sl 2 (eTys l[j].2.binds) none, .v (.int .i64 l[j].2.kind), .v (.int .i64 l[j].2.index), .sl 4 (eTms l[j].2.args) none]), (19, .v (.bool true))] TSR_ok hnt fun K hK => ?_
    refine And.intro (elo (ePairs_len l)) ?_; refine And.intro (elv (ePairs_getD l j) (ePair_eq _)) ?_; refine And.intro (beqT hm) ?_; refine hK _ _ ?_; clear hK K; refine dw_cond (t := true) rfl ?_; rw [if_pos rfl]; refine dw_seq ?_; refine dwk [(22, .q [.v (.int .i64 l[j].1), .sl 2 (eTys l[j].2.binds) none, .v (.int .i64 l[j].2.kind), .v (.int .i64 l[j].2.index), .sl 4 (eTms l[j].2.args) none])] TSR_ok hnt fun K hK => ?_
    refine And.intro (elo (ePairs_len l)) ?_; refine And.intro (elv (ePairs_getD l j) (ePair_eq _)) ?_; refine hK _ _ ?_; clear hK K; refine dw_ret ?_
    exact reta rfl
   ·have hj' : ∀ i (h : i < l.length), i < j + 1 → l[i].1 ≠ m := fun i h1 h2 => by
     rcases Nat.lt_or_ge i j with h | h
     ·exact hj i h1 h
     ·have : i = j := by omega
      subst this; exact hm
    refine dw_seq ?_; refine dw_seq ?_; refine dwk [(9, .v (.int .i64 (↑l.length))), (10, .v (.bool true))] TSR_ok hnt fun K hK => ?_; refine And.intro (dintE (by rw [ePairs_len])) ?_; refine And.intro auT ?_; refine hK _ _ ?_; clear hK K; refine dw_cond (t := true) rfl ?_; rw [if_pos rfl]; refine dw_skip ?_; refine dw_seq ?_; refine dw_block ?_; refine dw_seq ?_; refine dwk [(15, .q [.v (.int .i64 l[j].1), .sl 2 (eTys l[j].2.binds) none, .v (.int .i64 l[j].2.kind), .v (.int .i64 l[j].2.index), .sl 4 (eTms l[j].2.args) none]), (19, .v (.bool false))] TSR_ok hnt fun K hK => ?_
    refine And.intro (elo (ePairs_len l)) ?_; refine And.intro (elv (ePairs_getD l j) (ePair_eq _)) ?_; refine And.intro (beqF hm) ?_; refine hK _ _ ?_; clear hK K; refine dw_cond (t := false) rfl ?_; rw [if_neg (by simp)]; refine dw_skip ?_; refine dwk [(12, .v (.int .i64 (↑(j + 1))))] TSR_ok hnt fun K hK => ?_; refine And.intro auI ?_; refine hK _ _ ?_; clear hK K
    refine ⟨⟨j + 1, hj'⟩, by first | omega | (dsimp only; omega), VS.toA⟩
  ·have hi : idxOf m l = none := idxOf_none fun k hk => hj k hk (by omega)
   have e : getT l m = (.mk [] 0 0 [], false) := by unfold getT getP; rw [hi]; rfl
   rw [e, eTm_eq]
   dsimp only [Tm.binds, Tm.kind, Tm.index, Tm.args, eTys, eTms]
   refine dw_seq ?_; refine dw_seq ?_; refine dwk [(9, .v (.int .i64 (↑l.length))), (10, .v (.bool false))] TSR_ok hnt fun K hK => ?_; refine And.intro (dintE (by rw [ePairs_len])) ?_; refine And.intro auF ?_; refine hK _ _ ?_; clear hK K; refine dw_cond (t := false) rfl ?_; rw [if_neg (by simp)]; refine dw_exit ?_; refine dw_seq ?_; refine dwk [] TSR_ok hnt fun K hK => ?_; refine hK _ _ ?_; clear hK K
   refine dw_ret ?_
   exact reta rfl
theorem rsameP_d (l r : List (Int × Tm)) (hl : l.length ≤ 900000) (hr : r.length ≤ 900000) : PureC Try.prog 20 [.sl 5 (ePairs l) none, .sl 5 (ePairs r) none] (.v (.bool (decide (l = r)))) := by
 by_cases hlr : l.length = r.length
 ·skip
  refine calldw 0 42 [ResultVar.tmp 4] TSR_ok Try.func20 rfl Try.ntmps20 rfl fun cx hnt hn0 => ?_
  ·skip
   refine dw_seq ?_; refine dwk [] TSR_ok hnt fun K hK => ?_; refine hK _ _ ?_; clear hK K; refine dw_seq ?_; refine dw_seq ?_; refine dwk [(7, .v (.int .i64 (↑l.length))), (9, .v (.int .i64 (↑r.length))), (10, .v (.bool false))] TSR_ok hnt fun K hK => ?_; refine And.intro (dintE (by rw [ePairs_len])) ?_; refine And.intro (dintE (by rw [ePairs_len])) ?_; refine And.intro (bneF (by omega)) ?_; refine hK _ _ ?_; clear hK K
   refine dw_cond (t := false) rfl ?_; rw [if_neg (by simp)]; refine dw_skip ?_; refine dw_seq ?_; refine dw_seq ?_; refine dwk [] TSR_ok hnt fun K hK => ?_; refine hK _ _ ?_; clear hK K; refine dw_block ?_
   refine dw_loop (ι := { j : Nat // l.take j = r.take j }) (fun j => [(.t 0, .sl 5 (ePairs l) none), (.t 1, .sl 5 (ePairs r) none), (.t 5, .v (.int .i64 ↑j.1))]) 0 (fun j => l.length - j.1) (⟨0, rfl⟩) ((VS.toK (by omega) (by repeat first | exact trivial | refine And.intro (And.intro (by first | rfl | simp [D.ok, D.oks, D.okss, D.okm, upto, keyOk, argsT]) (by first | exact Or.inl rfl | exact Or.inr ⟨_, rfl, (by repeat first | exact VLe.refl _ | exact VLe.nil _ | exact VLe.untag _ _ _ | refine VLe.ag ?_ | refine VLe.tu ?_ | refine VLeL.cons ?_ ?_ | exact VLeL.nil), trivial⟩ | simp [get, Key.eq, argsT])) ?_))) fun j => ?_
   obtain ⟨j, hj⟩ := j
   dsimp only
   by_cases hlt : j < l.length
   ·have hjr : j < r.length := by omega
    have he := same2_d l[j].2 r[j].2
    rw [eTm_eq, eTm_eq] at he
    have h1 := List.take_add_one (l := l) (i := j)
    have h2 := List.take_add_one (l := r) (i := j)
    rw [List.getElem?_eq_getElem hlt] at h1
    rw [List.getElem?_eq_getElem hjr] at h2
    by_cases hm : l[j].1 = r[j].1
    ·by_cases hv : l[j].2 = r[j].2
     ·rw [decide_eq_true hv] at he
      have hv2 : l[j] = r[j] := Prod.ext hm hv
      refine dw_seq ?_; refine dw_seq ?_; refine dwk [(13, .v (.int .i64 (↑l.length))), (14, .v (.bool true))] TSR_ok hnt fun K hK => ?_; refine And.intro (dintE (by rw [ePairs_len])) ?_; refine And.intro auT ?_; refine hK _ _ ?_; clear hK K; refine dw_cond (t := true) rfl ?_; rw [if_pos rfl]; refine dw_skip ?_; refine dw_seq ?_; refine dw_block ?_; refine dw_seq ?_; refine dwkD [(19, .q [.v (.int .i64 l[j].1), .sl 2 (eTys l[j].2.binds) none, .v (.int .i64 l[j].2.kind), .v (.int .i64 l[j].2.index), .sl 4 (eTms l[j].2.args) none]), (24, .q [.v (.int .i64 r[j].1), .sl 2 (eTys r[j].2.binds) none, .v (.int .i64 r[j].2.kind), .v (.int .i64 r[j].2.index), .sl 4 (eTms r[j].2.args) none]), (27, .v (.bool false)), (31, .q [.v (.int .i64 l[j].1), .sl 2 (eTys l[j].2.binds) none, .v (.int .i64 l[j].2.kind), .v (.int .i64 l[j].2.index), .sl 4 (eTms l[j].2.args) none]), (36, .q [.v (.int .i64 r[j].1), .sl 2 (eTys r[j].2.binds) none, .v (.int .i64 r[j].2.kind), .v (.int .i64 r[j].2.index), .sl 4 (eTms r[j].2.args) none])] TSR_ok hnt fun K hK => ?_
      refine And.intro (elo (ePairs_len l)) ?_; refine And.intro (elv (ePairs_getD l j) (ePair_eq _)) ?_; refine And.intro (elo (ePairs_len r)) ?_; refine And.intro (elv (ePairs_getD r j) (ePair_eq _)) ?_; refine And.intro (bneF hm) ?_; refine And.intro (elo (ePairs_len l)) ?_; refine And.intro (elv (ePairs_getD l j) (ePair_eq _)) ?_; refine And.intro (elo (ePairs_len r)) ?_; refine And.intro (elv (ePairs_getD r j) (ePair_eq _)) ?_
      refine dcl (he) ?_; refine hK _ _ (by kernel_rfl) ?_; clear hK K; refine dw_cond (t := false) rfl ?_; rw [if_neg (by simp)]; refine dw_skip ?_; refine dwk [(16, .v (.int .i64 (↑(j + 1))))] TSR_ok hnt fun K hK => ?_; refine And.intro auI ?_; refine hK _ _ ?_; clear hK K
      refine ⟨⟨j + 1, by rw [h1, h2, hj, hv2]⟩, by first | omega | (dsimp only; omega), VS.toA⟩
     ·rw [decide_eq_false hv] at he
      have e : decide (l = r) = false := by rw [decide_eq_false_iff_not]; exact fun e => hv (by subst e; rfl)
      rw [e]
      refine dw_seq ?_; refine dw_seq ?_; refine dwk [(13, .v (.int .i64 (↑l.length))), (14, .v (.bool true))] TSR_ok hnt fun K hK => ?_; refine And.intro (dintE (by rw [ePairs_len])) ?_; refine And.intro auT ?_; refine hK _ _ ?_; clear hK K; refine dw_cond (t := true) rfl ?_; rw [if_pos rfl]; refine dw_skip ?_; refine dw_seq ?_; refine dw_block ?_; refine dw_seq ?_; refine dwkD [(19, .q [.v (.int .i64 l[j].1), .sl 2 (eTys l[j].2.binds) none, .v (.int .i64 l[j].2.kind), .v (.int .i64 l[j].2.index), .sl 4 (eTms l[j].2.args) none]), (24, .q [.v (.int .i64 r[j].1), .sl 2 (eTys r[j].2.binds) none, .v (.int .i64 r[j].2.kind), .v (.int .i64 r[j].2.index), .sl 4 (eTms r[j].2.args) none]), (27, .v (.bool false)), (31, .q [.v (.int .i64 l[j].1), .sl 2 (eTys l[j].2.binds) none, .v (.int .i64 l[j].2.kind), .v (.int .i64 l[j].2.index), .sl 4 (eTms l[j].2.args) none]), (36, .q [.v (.int .i64 r[j].1), .sl 2 (eTys r[j].2.binds) none, .v (.int .i64 r[j].2.kind), .v (.int .i64 r[j].2.index), .sl 4 (eTms r[j].2.args) none])] TSR_ok hnt fun K hK => ?_
      refine And.intro (elo (ePairs_len l)) ?_; refine And.intro (elv (ePairs_getD l j) (ePair_eq _)) ?_; refine And.intro (elo (ePairs_len r)) ?_; refine And.intro (elv (ePairs_getD r j) (ePair_eq _)) ?_; refine And.intro (bneF hm) ?_; refine And.intro (elo (ePairs_len l)) ?_; refine And.intro (elv (ePairs_getD l j) (ePair_eq _)) ?_; refine And.intro (elo (ePairs_len r)) ?_; refine And.intro (elv (ePairs_getD r j) (ePair_eq _)) ?_
      refine dcl (he) ?_; refine hK _ _ (by kernel_rfl) ?_; clear hK K; refine dw_cond (t := true) rfl ?_; rw [if_pos rfl]; refine dw_seq ?_; refine dwk [] TSR_ok hnt fun K hK => ?_; refine hK _ _ ?_; clear hK K; refine dw_ret ?_
      exact reta rfl
    ·have e : decide (l = r) = false := by rw [decide_eq_false_iff_not]; exact fun e => hm (by subst e; rfl)
     rw [e]
     refine dw_seq ?_; refine dw_seq ?_; refine dwk [(13, .v (.int .i64 (↑l.length))), (14, .v (.bool true))] TSR_ok hnt fun K hK => ?_; refine And.intro (dintE (by rw [ePairs_len])) ?_; refine And.intro auT ?_; refine hK _ _ ?_; clear hK K; refine dw_cond (t := true) rfl ?_; rw [if_pos rfl]; refine dw_skip ?_; refine dw_seq ?_; refine dw_block ?_; refine dw_seq ?_; refine dwkD [(19, .q [.v (.int .i64 l[j].1), .sl 2 (eTys l[j].2.binds) none, .v (.int .i64 l[j].2.kind), .v (.int .i64 l[j].2.index), .sl 4 (eTms l[j].2.args) none]), (24, .q [.v (.int .i64 r[j].1), .sl 2 (eTys r[j].2.binds) none, .v (.int .i64 r[j].2.kind), .v (.int .i64 r[j].2.index), .sl 4 (eTms r[j].2.args) none]), (27, .v (.bool true))] TSR_ok hnt fun K hK => ?_
     refine And.intro (elo (ePairs_len l)) ?_; refine And.intro (elv (ePairs_getD l j) (ePair_eq _)) ?_; refine And.intro (elo (ePairs_len r)) ?_; refine And.intro (elv (ePairs_getD r j) (ePair_eq _)) ?_; refine And.intro (bneT hm) ?_; refine hK _ _ (by kernel_rfl) ?_; clear hK K; refine dw_cond (t := true) rfl ?_; rw [if_pos rfl]; refine dw_seq ?_; refine dwk [] TSR_ok hnt fun K hK => ?_; refine hK _ _ ?_; clear hK K
     refine dw_ret ?_
     exact reta rfl
   ·rw [List.take_of_length_le (by omega), List.take_of_length_le (by omega)] at hj
    rw [decide_eq_true hj]
    refine dw_seq ?_; refine dw_seq ?_; refine dwk [(13, .v (.int .i64 (↑l.length))), (14, .v (.bool false))] TSR_ok hnt fun K hK => ?_; refine And.intro (dintE (by rw [ePairs_len])) ?_; refine And.intro auF ?_; refine hK _ _ ?_; clear hK K; refine dw_cond (t := false) rfl ?_; rw [if_neg (by simp)]; refine dw_exit ?_; refine dw_seq ?_; refine dwk [] TSR_ok hnt fun K hK => ?_; refine hK _ _ ?_; clear hK K
    refine dw_ret ?_
    exact reta rfl
 ·have e : decide (l = r) = false := by rw [decide_eq_false_iff_not]; exact fun e => hlr (by rw [e])
  rw [e]
  refine calldw 0 42 [ResultVar.tmp 4] TSR_ok Try.func20 rfl Try.ntmps20 rfl fun cx hnt hn0 => ?_
  ·skip
   refine dw_seq ?_; refine dwk [] TSR_ok hnt fun K hK => ?_; refine hK _ _ ?_; clear hK K; refine dw_seq ?_; refine dw_seq ?_; refine dwk [(7, .v (.int .i64 (↑l.length))), (9, .v (.int .i64 (↑r.length))), (10, .v (.bool true))] TSR_ok hnt fun K hK => ?_; refine And.intro (dintE (by rw [ePairs_len])) ?_; refine And.intro (dintE (by rw [ePairs_len])) ?_; refine And.intro (bneT (by omega)) ?_; refine hK _ _ ?_; clear hK K
   refine dw_cond (t := true) rfl ?_; rw [if_pos rfl]; refine dw_seq ?_; refine dwk [] TSR_ok hnt fun K hK => ?_; refine hK _ _ ?_; clear hK K; refine dw_ret ?_
   exact reta rfl
end Go.Proofs.Ytcblpjheoclkeaa

namespace Go.Proofs.Ytcblpjheoclkeaa
open Go.RowKit

theorem rsortedN_d (l : List (Int × Tm)) (hl : l.length ≤ 900000) (nm : Nat) : CallN Try.prog 90 [.sl 5 (ePairs l) none] [] nm [(.r nm, .rw 118 5 l.length)] (.sl 5 (ePairs (So.ss l)) (some nm)) := by
 refine callRow_of_dw 51 [ResultVar.tmp 2] TSR_ok (by kernel_rfl) Try.func90 rfl Try.ntmps90 rfl (by simp) (by simp [D.ok, ePairs_ok]) (by simp [D.okss, ePairs_ok]) ?dbody nm
 case dbody =>
  intro cx hnt hn0
  refine dw_seq ?_; refine dwk [] TSR_ok hnt fun K hK => ?_; refine hK _ _ ?_; clear hK K
  refine dw_cut (τ := [(.t 0, .sl 5 (ePairs l) none), (.t 3, .v (.slice none 0 0))]) (N1 := 0) ?_ ?_
  ·skip
   refine dwk [] TSR_ok hnt fun K hK => ?_; refine hK _ _ ?_; clear hK K
   exact cut_ok (VS.toK (by omega) (by repeat first | exact trivial | refine And.intro (And.intro (by first | rfl | simp [D.ok, D.oks, D.okss, D.okm, upto, keyOk, argsT]) (by first | exact Or.inl rfl | exact Or.inr ⟨_, rfl, (by repeat first | exact VLe.refl _ | exact VLe.nil _ | exact VLe.untag _ _ _ | refine VLe.ag ?_ | refine VLe.tu ?_ | refine VLeL.cons ?_ ?_ | exact VLeL.nil), trivial⟩ | simp [get, Key.eq, argsT])) ?_))
  ·refine DW.vs (VS.rowT (x := 3) (by rw [hnt]; decide) 118 5 rfl) ?_
   refine dw_seq ?_; refine dw_seq ?_; refine dwk [] TSR_ok hnt fun K hK => ?_; refine hK _ _ ?_; clear hK K; refine dw_block ?_
   refine dw_loop (ι := { i : Nat // i ≤ l.length }) (fun i => [(.t 3, .sl 5 (ePairs (So.ss (l.take i.1))) (some 0)), (.r 0, .rw 118 5 i.1), (.t 0, .sl 5 (ePairs l) none), (.t 4, .v (.int .i64 ↑i.1))]) 1 (fun i => l.length - i.1) (⟨0, Nat.zero_le _⟩) ((VS.toK (by omega) (by repeat first | exact trivial | refine And.intro (And.intro (by first | rfl | simp [D.ok, D.oks, D.okss, D.okm, upto, keyOk, argsT]) (by first | exact Or.inl rfl | exact Or.inr ⟨_, rfl, (by repeat first | exact VLe.refl _ | exact VLe.nil _ | exact VLe.untag _ _ _ | refine VLe.ag ?_ | refine VLe.tu ?_ | refine VLeL.cons ?_ ?_ | exact VLeL.nil), trivial⟩ | simp [get, Key.eq, argsT])) ?_))) fun i => ?_
   obtain ⟨i, hi⟩ := i
   dsimp only
   by_cases hlt : i < l.length
   ·obtain ⟨S, hS⟩ : ∃ S, So.ss (l.take i) = S := ⟨_, rfl⟩
    have hSl : S.length = i := by rw [← hS, So.ss_len, List.length_take]; omega
    have hnx : So.ss (l.take (i + 1)) = So.ss (l.take i ++ [l[i]]) := by rw [List.take_add_one, List.getElem?_eq_getElem hlt]; rfl
    rw [hS]
    refine dw_seq ?_; refine dw_seq ?_; refine dwk [(9, .v (.int .i64 (↑l.length))), (10, .v (.bool true))] TSR_ok hnt fun K hK => ?_; refine And.intro (dintE (by rw [ePairs_len])) ?_; refine And.intro auT ?_; refine hK _ _ ?_; clear hK K; refine dw_cond (t := true) rfl ?_; rw [if_pos rfl]; refine dw_skip ?_; refine dw_seq ?_; refine dw_block ?_; refine dw_seq ?_; refine dwk [(14, .v (.int .i64 (↑S.length)))] TSR_ok hnt fun K hK => ?_
    refine And.intro (dintE (by rw [ePairs_len])) ?_; refine hK _ _ ?_; clear hK K; refine dw_seq ?_; refine dw_block ?_
    refine dw_loop (ι := { p : List (Int × Tm) × List (Int × Tm) // p.1 ++ p.2 = S ∧ ∀ s ∈ p.2, l[i].1 < s.1 }) (fun p => [(.t 0, .sl 5 (ePairs l) none), (.t 3, .sl 5 (ePairs S) none), (.t 4, .v (.int .i64 ↑i)), (.t 5, .v (.int .i64 ↑p.1.1.length))]) 1 (fun p => p.1.1.length) (⟨(S, []), by simp, by simp⟩) (VS.toA) fun j => ?_
    obtain ⟨⟨P, Q⟩, hPQ, hQ⟩ := j
    dsimp only at hPQ hQ ⊢
    have hPl : P.length + Q.length = i := by rw [← hSl, ← hPQ]; simp
    have hfin : ∀ _ : (∀ s ∈ P, s.1 ≤ l[i].1), So.ss (l.take (i + 1)) = P ++ l[i] :: Q := fun h1 => by
     rw [hnx]; exact So.ss_snoc (by rw [hPQ, hS]) h1 hQ
    have e36 : ((ePairs S).take P.length) = ePairs P := by
     rw [← hPQ, ePairs, List.map_append, List.take_append_of_le_length (by simp), List.take_of_length_le (by simp)]; rfl
    have e48 : ((ePairs S).drop P.length) = ePairs Q := by
     rw [← hPQ, ePairs, List.map_append, List.drop_append_of_le_length (by simp), List.drop_of_length_le (by simp)]; rfl
    have e49 : ([] ++ ePairs P ++ [[.v (.int .i64 l[i].1), .sl 2 (eTys l[i].2.binds) none, .v (.int .i64 l[i].2.kind), .v (.int .i64 l[i].2.index), .sl 4 (eTms l[i].2.args) none]]) ++ ePairs Q = ePairs (P ++ l[i] :: Q) := by
     rw [← ePair_eq]; unfold ePairs; simp
    rcases snoc_cases P with rfl | ⟨P', s, rfl⟩
    ·skip
     refine dw_seq ?_; refine dw_seq ?_; refine dwkD [(16, .v (.bool false))] TSR_ok hnt fun K hK => ?_; refine And.intro (by first | exact dfalse (by simp) | exact VLe.of_eq (by simp)) ?_; refine hK _ _ (by kernel_rfl) ?_; clear hK K; refine dw_cond (t := false) rfl ?_; rw [if_neg (by simp)]; refine dw_exit ?_; refine dw_seq ?_; refine dwk [(36, .sl 5 (ePairs []) none)] TSR_ok hnt fun K hK => ?_; refine And.intro (⟨by omega, by rw [ePairs_len]; omega⟩) ?_
     refine And.intro (VLe.of_eq (congrArg (D.sl 5 · none) e36)) ?_; refine And.intro (⟨rfl, by rw [ePairs_len]; simp⟩) ?_; refine hK _ _ ?_; clear hK K; refine dw_seq ?_; refine dwk [(41, .q [.v (.int .i64 l[i].1), .sl 2 (eTys l[i].2.binds) none, .v (.int .i64 l[i].2.kind), .v (.int .i64 l[i].2.index), .sl 4 (eTms l[i].2.args) none])] TSR_ok hnt fun K hK => ?_; refine And.intro (elo (ePairs_len l)) ?_
     refine And.intro (elv (ePairs_getD l i) (ePair_eq _)) ?_; refine And.intro (⟨rfl, by simp [ePairs_len] <;> omega⟩) ?_; refine hK _ _ ?_; clear hK K; refine dwk [(48, .sl 5 (ePairs Q) none), (49, .sl 5 (ePairs ([] ++ l[i] :: Q)) (some 17))] TSR_ok hnt fun K hK => ?_; refine And.intro (⟨by omega, by rw [ePairs_len]; omega⟩) ?_; refine And.intro (VLe.of_eq (by rw [← e48]; simp)) ?_; refine And.intro (⟨rfl, by simp [ePairs_len] <;> omega⟩) ?_
     refine And.intro (VLe.of_eq (by rw [← e49]; rfl)) ?_; refine hK _ _ ?_; clear hK K
     rw [e49, show (ePairs ([] ++ l[i] :: Q)).length = i + 1 by rw [ePairs_len]; simp <;> first | omega | (simp at hPl; omega)]
     refine dwk [(12, .v (.int .i64 (↑(i + 1))))] TSR_ok hnt fun K hK => ?_; refine And.intro auI ?_; refine hK _ _ ?_; clear hK K
     refine ⟨⟨i + 1, by omega⟩, by dsimp only; omega, ?_⟩
     dsimp only
     rw [hfin (by simp)]
     exact VS.rowAs (x := 3) (k := 17) (g := 0) (n := 5) [(.t 0, .sl 5 (ePairs l) none), (.t 4, .v (.int .i64 ↑(i + 1)))] hn0 rfl rfl (by decide) (ePairs_ok _ _ _) (by simp [D.ok, ePairs_ok]) (by intro p hp; simp only [List.mem_cons, List.not_mem_nil, or_false] at hp; rcases hp with rfl | rfl <;> exact .inl rfl)
    ·have hPk : (P' ++ [s]).length = P'.length + 1 := by simp
     have hs : S[P'.length]? = some s := at_ (P := P') (R := Q) (by rw [← hPQ]; simp) rfl
     rw [hPk] at e36 e48 hPl ⊢
     have hsrt := So.ss_srt (l.take i)
     rw [hS, ← hPQ] at hsrt
     by_cases hlt2 : l[i].1 < s.1
     ·skip
      refine dw_seq ?_; refine dw_seq ?_; refine dwkD [(16, .v (.bool true)), (20, .v (.int .i64 (↑P'.length))), (21, .q [.v (.int .i64 s.1), .sl 2 (eTys s.2.binds) none, .v (.int .i64 s.2.kind), .v (.int .i64 s.2.index), .sl 4 (eTms s.2.args) none]), (26, .q [.v (.int .i64 l[i].1), .sl 2 (eTys l[i].2.binds) none, .v (.int .i64 l[i].2.kind), .v (.int .i64 l[i].2.index), .sl 4 (eTms l[i].2.args) none]), (29, .v (.bool true))] TSR_ok hnt fun K hK => ?_
      refine And.intro auT ?_; refine And.intro auI ?_; refine And.intro (⟨by omega, by rw [ePairs_len]; omega⟩) ?_; refine And.intro (el_at hs) ?_; refine And.intro (elo (ePairs_len l)) ?_; refine And.intro (elv (ePairs_getD l i) (ePair_eq _)) ?_; refine And.intro (dtrue (by omega)) ?_; refine hK _ _ (by kernel_rfl) ?_; clear hK K; refine dw_cond (t := true) rfl ?_; rw [if_pos rfl]; refine dw_skip ?_; refine dw_block ?_
      refine dwk [(32, .v (.int .i64 (↑P'.length)))] TSR_ok hnt fun K hK => ?_; refine And.intro auI ?_; refine hK _ _ ?_; clear hK K
      refine ⟨⟨(P', s :: Q), by rw [← hPQ]; simp, fun u hu => (List.mem_cons.1 hu).elim (fun e => e ▸ hlt2) (hQ u)⟩, by simp, VS.toA⟩
     ·have hall : ∀ u ∈ P' ++ [s], u.1 ≤ l[i].1 := fun u hu => by
       rcases List.mem_append.1 hu with hu | hu
       ·have := (So.srt_app.1 (So.srt_app.1 hsrt).1).2.2 u hu s (by simp); omega
       ·rw [List.mem_singleton] at hu; subst hu; omega
      refine dw_seq ?_; refine dw_seq ?_; refine dwkD [(16, .v (.bool true)), (20, .v (.int .i64 (↑P'.length))), (21, .q [.v (.int .i64 s.1), .sl 2 (eTys s.2.binds) none, .v (.int .i64 s.2.kind), .v (.int .i64 s.2.index), .sl 4 (eTms s.2.args) none]), (26, .q [.v (.int .i64 l[i].1), .sl 2 (eTys l[i].2.binds) none, .v (.int .i64 l[i].2.kind), .v (.int .i64 l[i].2.index), .sl 4 (eTms l[i].2.args) none]), (29, .v (.bool false))] TSR_ok hnt fun K hK => ?_
      refine And.intro auT ?_; refine And.intro auI ?_; refine And.intro (⟨by omega, by rw [ePairs_len]; omega⟩) ?_; refine And.intro (el_at hs) ?_; refine And.intro (elo (ePairs_len l)) ?_; refine And.intro (elv (ePairs_getD l i) (ePair_eq _)) ?_; refine And.intro (dfalse (by omega)) ?_; refine hK _ _ (by kernel_rfl) ?_; clear hK K; refine dw_cond (t := false) rfl ?_; rw [if_neg (by simp)]; refine dw_exit ?_
      refine dw_seq ?_; refine dwk [(36, .sl 5 (ePairs (P' ++ [s])) none)] TSR_ok hnt fun K hK => ?_; refine And.intro (⟨by omega, by rw [ePairs_len]; omega⟩) ?_; refine And.intro (VLe.of_eq (congrArg (D.sl 5 · none) e36)) ?_; refine And.intro (⟨rfl, by rw [ePairs_len]; simp <;> omega⟩) ?_; refine hK _ _ ?_; clear hK K; refine dw_seq ?_; refine dwk [(41, .q [.v (.int .i64 l[i].1), .sl 2 (eTys l[i].2.binds) none, .v (.int .i64 l[i].2.kind), .v (.int .i64 l[i].2.index), .sl 4 (eTms l[i].2.args) none])] TSR_ok hnt fun K hK => ?_
      refine And.intro (elo (ePairs_len l)) ?_; refine And.intro (elv (ePairs_getD l i) (ePair_eq _)) ?_; refine And.intro (⟨rfl, by simp [ePairs_len] <;> omega⟩) ?_; refine hK _ _ ?_; clear hK K; refine dwk [(48, .sl 5 (ePairs Q) none), (49, .sl 5 (ePairs ((P' ++ [s]) ++ l[i] :: Q)) (some 17))] TSR_ok hnt fun K hK => ?_; refine And.intro (⟨by omega, by rw [ePairs_len]; omega⟩) ?_; refine And.intro (VLe.of_eq (by rw [← e48]; simp)) ?_
      refine And.intro (⟨rfl, by simp [ePairs_len] <;> omega⟩) ?_; refine And.intro (VLe.of_eq (by rw [← e49]; rfl)) ?_; refine hK _ _ ?_; clear hK K
      rw [e49, show (ePairs ((P' ++ [s]) ++ l[i] :: Q)).length = i + 1 by rw [ePairs_len]; simp <;> first | omega | (simp at hPl; omega)]
      refine dwk [(12, .v (.int .i64 (↑(i + 1))))] TSR_ok hnt fun K hK => ?_; refine And.intro auI ?_; refine hK _ _ ?_; clear hK K
      refine ⟨⟨i + 1, by omega⟩, by dsimp only; omega, ?_⟩
      dsimp only
      rw [hfin (hall)]
      exact VS.rowAs (x := 3) (k := 17) (g := 0) (n := 5) [(.t 0, .sl 5 (ePairs l) none), (.t 4, .v (.int .i64 ↑(i + 1)))] hn0 rfl rfl (by decide) (ePairs_ok _ _ _) (by simp [D.ok, ePairs_ok]) (by intro p hp; simp only [List.mem_cons, List.not_mem_nil, or_false] at hp; rcases hp with rfl | rfl <;> exact .inl rfl)
   ·rw [List.take_of_length_le (by omega), show i = l.length by omega]
    refine dw_seq ?_; refine dw_seq ?_; refine dwk [(9, .v (.int .i64 (↑l.length))), (10, .v (.bool false))] TSR_ok hnt fun K hK => ?_; refine And.intro (dintE (by rw [ePairs_len])) ?_; refine And.intro auF ?_; refine hK _ _ ?_; clear hK K; refine dw_cond (t := false) rfl ?_; rw [if_neg (by simp)]; refine dw_exit ?_; refine dw_seq ?_; refine dwk [] TSR_ok hnt fun K hK => ?_; refine hK _ _ ?_; clear hK K
    refine dw_ret ?_
    exact ⟨.inr rfl, 0, rfl, rfl⟩
def TSS_3 : TI := ⟨1, false, [Value.int IntKind.i64 0], [], none, 8, 2, none, false⟩
theorem TSS_3_ok : TypOk Try.prog 3 TSS_3 := ⟨by kernel_rfl, by kernel_rfl, by kernel_rfl, by kernel_rfl, by kernel_rfl⟩
def TSS_43 : TI := ⟨1, false, [Value.slice none 0 0], [], some 3, 24, 5, none, false⟩
theorem TSS_43_ok : TypOk Try.prog 43 TSS_43 := ⟨by kernel_rfl, by kernel_rfl, by kernel_rfl, by kernel_rfl, by kernel_rfl⟩
def TSS : List (Nat × TI) := [(3, TSS_3), (43, TSS_43)]
theorem TSS_ok : TabOk Try.prog TSS := (((TabOk.nil _).cons TSS_43_ok).cons TSS_3_ok)
theorem like_d (l r : List Int) (hl : l.length ≤ 900000) (hr : r.length ≤ 900000) : PureC Try.prog 23 [.sl 1 (eIs l) none, .sl 1 (eIs r) none] (.v (.bool (decide (l = r)))) := by
 by_cases hlr : l.length = r.length
 ·skip
  refine calldw 0 26 [ResultVar.tmp 4] TSS_ok Try.func23 rfl Try.ntmps23 rfl fun cx hnt hn0 => ?_
  ·skip
   refine dw_seq ?_; refine dwk [] TSS_ok hnt fun K hK => ?_; refine hK _ _ ?_; clear hK K; refine dw_seq ?_; refine dw_seq ?_; refine dwk [(7, .v (.int .i64 (↑l.length))), (9, .v (.int .i64 (↑r.length))), (10, .v (.bool false))] TSS_ok hnt fun K hK => ?_; refine And.intro (dintE (by rw [eIs_len])) ?_; refine And.intro (dintE (by rw [eIs_len])) ?_; refine And.intro (bneF (by omega)) ?_; refine hK _ _ ?_; clear hK K
   refine dw_cond (t := false) rfl ?_; rw [if_neg (by simp)]; refine dw_skip ?_; refine dw_seq ?_; refine dw_seq ?_; refine dwk [] TSS_ok hnt fun K hK => ?_; refine hK _ _ ?_; clear hK K; refine dw_block ?_
   refine dw_loop (ι := { j : Nat // l.take j = r.take j }) (fun j => [(.t 0, .sl 1 (eIs l) none), (.t 1, .sl 1 (eIs r) none), (.t 5, .v (.int .i64 ↑j.1))]) 0 (fun j => l.length - j.1) (⟨0, rfl⟩) ((VS.toK (by omega) (by repeat first | exact trivial | refine And.intro (And.intro (by first | rfl | simp [D.ok, D.oks, D.okss, D.okm, upto, keyOk, argsT]) (by first | exact Or.inl rfl | exact Or.inr ⟨_, rfl, (by repeat first | exact VLe.refl _ | exact VLe.nil _ | exact VLe.untag _ _ _ | refine VLe.ag ?_ | refine VLe.tu ?_ | refine VLeL.cons ?_ ?_ | exact VLeL.nil), trivial⟩ | simp [get, Key.eq, argsT])) ?_))) fun j => ?_
   obtain ⟨j, hj⟩ := j
   dsimp only
   by_cases hlt : j < l.length
   ·have hjr : j < r.length := by omega
    have h1 := List.take_add_one (l := l) (i := j)
    have h2 := List.take_add_one (l := r) (i := j)
    rw [List.getElem?_eq_getElem hlt] at h1
    rw [List.getElem?_eq_getElem hjr] at h2
    by_cases hv : l[j] = r[j]
    ·skip
     refine dw_seq ?_; refine dw_seq ?_; refine dwk [(13, .v (.int .i64 (↑l.length))), (14, .v (.bool true))] TSS_ok hnt fun K hK => ?_; refine And.intro (dintE (by rw [eIs_len])) ?_; refine And.intro auT ?_; refine hK _ _ ?_; clear hK K; refine dw_cond (t := true) rfl ?_; rw [if_pos rfl]; refine dw_skip ?_; refine dw_seq ?_; refine dw_block ?_; refine dw_seq ?_; refine dwkD [(19, .q [.v (.int .i64 (l[j]))]), (23, .q [.v (.int .i64 (r[j]))]), (25, .v (.bool false))] TSS_ok hnt fun K hK => ?_
     refine And.intro (elo (eIs_len l)) ?_; refine And.intro (elv (eIs_getD l j) rfl) ?_; refine And.intro (elo (eIs_len r)) ?_; refine And.intro (elv (eIs_getD r j) rfl) ?_; refine And.intro (bneF hv) ?_; refine hK _ _ (by kernel_rfl) ?_; clear hK K; refine dw_cond (t := false) rfl ?_; rw [if_neg (by simp)]; refine dw_skip ?_; refine dwk [(16, .v (.int .i64 (↑(j + 1))))] TSS_ok hnt fun K hK => ?_; refine And.intro auI ?_
     refine hK _ _ ?_; clear hK K
     refine ⟨⟨j + 1, by rw [h1, h2, hj, hv]⟩, by first | omega | (dsimp only; omega), VS.toA⟩
    ·have e : decide (l = r) = false := by rw [decide_eq_false_iff_not]; exact fun e => hv (by subst e; rfl)
     rw [e]
     refine dw_seq ?_; refine dw_seq ?_; refine dwk [(13, .v (.int .i64 (↑l.length))), (14, .v (.bool true))] TSS_ok hnt fun K hK => ?_; refine And.intro (dintE (by rw [eIs_len])) ?_; refine And.intro auT ?_; refine hK _ _ ?_; clear hK K; refine dw_cond (t := true) rfl ?_; rw [if_pos rfl]; refine dw_skip ?_; refine dw_seq ?_; refine dw_block ?_; refine dw_seq ?_; refine dwkD [(19, .q [.v (.int .i64 (l[j]))]), (23, .q [.v (.int .i64 (r[j]))]), (25, .v (.bool true))] TSS_ok hnt fun K hK => ?_
     refine And.intro (elo (eIs_len l)) ?_; refine And.intro (elv (eIs_getD l j) rfl) ?_; refine And.intro (elo (eIs_len r)) ?_; refine And.intro (elv (eIs_getD r j) rfl) ?_; refine And.intro (bneT hv) ?_; refine hK _ _ (by kernel_rfl) ?_; clear hK K; refine dw_cond (t := true) rfl ?_; rw [if_pos rfl]; refine dw_seq ?_; refine dwk [] TSS_ok hnt fun K hK => ?_; refine hK _ _ ?_; clear hK K; refine dw_ret ?_
     exact reta rfl
   ·rw [List.take_of_length_le (by omega), List.take_of_length_le (by omega)] at hj
    rw [decide_eq_true hj]
    refine dw_seq ?_; refine dw_seq ?_; refine dwk [(13, .v (.int .i64 (↑l.length))), (14, .v (.bool false))] TSS_ok hnt fun K hK => ?_; refine And.intro (dintE (by rw [eIs_len])) ?_; refine And.intro auF ?_; refine hK _ _ ?_; clear hK K; refine dw_cond (t := false) rfl ?_; rw [if_neg (by simp)]; refine dw_exit ?_; refine dw_seq ?_; refine dwk [] TSS_ok hnt fun K hK => ?_; refine hK _ _ ?_; clear hK K
    refine dw_ret ?_
    exact reta rfl
 ·have e : decide (l = r) = false := by rw [decide_eq_false_iff_not]; exact fun e => hlr (by rw [e])
  rw [e]
  refine calldw 0 26 [ResultVar.tmp 4] TSS_ok Try.func23 rfl Try.ntmps23 rfl fun cx hnt hn0 => ?_
  ·skip
   refine dw_seq ?_; refine dwk [] TSS_ok hnt fun K hK => ?_; refine hK _ _ ?_; clear hK K; refine dw_seq ?_; refine dw_seq ?_; refine dwk [(7, .v (.int .i64 (↑l.length))), (9, .v (.int .i64 (↑r.length))), (10, .v (.bool true))] TSS_ok hnt fun K hK => ?_; refine And.intro (dintE (by rw [eIs_len])) ?_; refine And.intro (dintE (by rw [eIs_len])) ?_; refine And.intro (bneT (by omega)) ?_; refine hK _ _ ?_; clear hK K
   refine dw_cond (t := true) rfl ?_; rw [if_pos rfl]; refine dw_seq ?_; refine dwk [] TSS_ok hnt fun K hK => ?_; refine hK _ _ ?_; clear hK K; refine dw_ret ?_
   exact reta rfl
end Go.Proofs.Ytcblpjheoclkeaa

namespace Go.Proofs.Ytcblpjheoclkeaa
open Go.RowKit
def TRA_27 : TI := ⟨4, true, [Value.slice none 0 0, Value.int IntKind.i64 0, Value.int IntKind.i64 0, Value.slice none 0 0], [(0, 1, false), (1, 2, true), (3, 1, false)], none, 64, 6, none, false⟩
theorem TRA_27_ok : TypOk Try.prog 27 TRA_27 := ⟨by kernel_rfl, by kernel_rfl, by kernel_rfl, by kernel_rfl, by kernel_rfl⟩
def TRA_3 : TI := ⟨1, false, [Value.int IntKind.i64 0], [], none, 8, 2, none, false⟩
theorem TRA_3_ok : TypOk Try.prog 3 TRA_3 := ⟨by kernel_rfl, by kernel_rfl, by kernel_rfl, by kernel_rfl, by kernel_rfl⟩
def TRA_22 : TI := ⟨1, false, [Value.slice none 0 0], [], some 123, 24, 5, none, false⟩
theorem TRA_22_ok : TypOk Try.prog 22 TRA_22 := ⟨by kernel_rfl, by kernel_rfl, by kernel_rfl, by kernel_rfl, by kernel_rfl⟩
def TRA_25 : TI := ⟨1, false, [Value.slice none 0 0], [], some 27, 24, 5, none, false⟩
theorem TRA_25_ok : TypOk Try.prog 25 TRA_25 := ⟨by kernel_rfl, by kernel_rfl, by kernel_rfl, by kernel_rfl, by kernel_rfl⟩
def TRA_107 : TI := ⟨1, false, [Value.slice none 0 0], [], some 106, 24, 5, none, false⟩
theorem TRA_107_ok : TypOk Try.prog 107 TRA_107 := ⟨by kernel_rfl, by kernel_rfl, by kernel_rfl, by kernel_rfl, by kernel_rfl⟩
def TRA_106 : TI := ⟨8, true, [Value.slice none 0 0, Value.int IntKind.i64 0, Value.int IntKind.i64 0, Value.slice none 0 0, Value.slice none 0 0, Value.int IntKind.i64 0, Value.int IntKind.i64 0, Value.slice none 0 0], [(0, 4, true), (4, 4, true)], none, 128, 6, none, false⟩
theorem TRA_106_ok : TypOk Try.prog 106 TRA_106 := ⟨by kernel_rfl, by kernel_rfl, by kernel_rfl, by kernel_rfl, by kernel_rfl⟩
def TRA_176 : TI := ⟨1, false, [Value.slice none 0 0], [], some 180, 24, 5, none, false⟩
theorem TRA_176_ok : TypOk Try.prog 176 TRA_176 := ⟨by kernel_rfl, by kernel_rfl, by kernel_rfl, by kernel_rfl, by kernel_rfl⟩
def TRA_180 : TI := ⟨4, true, [Value.int IntKind.i64 0, Value.slice none 0 0, Value.slice none 0 0, Value.slice none 0 0], [(0, 1, false), (1, 1, false), (2, 1, false), (3, 1, false)], none, 80, 6, none, false⟩
theorem TRA_180_ok : TypOk Try.prog 180 TRA_180 := ⟨by kernel_rfl, by kernel_rfl, by kernel_rfl, by kernel_rfl, by kernel_rfl⟩
def TRA_50 : TI := ⟨1, false, [Value.slice none 0 0], [], some 118, 24, 5, none, false⟩
theorem TRA_50_ok : TypOk Try.prog 50 TRA_50 := ⟨by kernel_rfl, by kernel_rfl, by kernel_rfl, by kernel_rfl, by kernel_rfl⟩
def TRA_123 : TI := ⟨2, true, [Value.slice none 0 0, Value.int IntKind.i64 0], [(0, 1, false), (1, 1, false)], none, 32, 6, none, false⟩
theorem TRA_123_ok : TypOk Try.prog 123 TRA_123 := ⟨by kernel_rfl, by kernel_rfl, by kernel_rfl, by kernel_rfl, by kernel_rfl⟩
def TRA_24 : TI := ⟨2, true, [Value.int IntKind.i64 0, Value.int IntKind.i64 0], [(0, 1, false), (1, 1, false)], none, 16, 6, none, true⟩
theorem TRA_24_ok : TypOk Try.prog 24 TRA_24 := ⟨by kernel_rfl, by kernel_rfl, by kernel_rfl, by kernel_rfl, by kernel_rfl⟩
def TRA_43 : TI := ⟨1, false, [Value.slice none 0 0], [], some 3, 24, 5, none, false⟩
theorem TRA_43_ok : TypOk Try.prog 43 TRA_43 := ⟨by kernel_rfl, by kernel_rfl, by kernel_rfl, by kernel_rfl, by kernel_rfl⟩
def TRA_118 : TI := ⟨5, true, [Value.int IntKind.i64 0, Value.slice none 0 0, Value.int IntKind.i64 0, Value.int IntKind.i64 0, Value.slice none 0 0], [(0, 1, false), (1, 4, true)], none, 72, 6, none, false⟩
theorem TRA_118_ok : TypOk Try.prog 118 TRA_118 := ⟨by kernel_rfl, by kernel_rfl, by kernel_rfl, by kernel_rfl, by kernel_rfl⟩
def TRA : List (Nat × TI) := [(27, TRA_27), (3, TRA_3), (22, TRA_22), (25, TRA_25), (107, TRA_107), (106, TRA_106), (176, TRA_176), (180, TRA_180), (50, TRA_50), (123, TRA_123), (24, TRA_24), (43, TRA_43), (118, TRA_118)]
theorem TRA_ok : TabOk Try.prog TRA := ((((((((((((((TabOk.nil _).cons TRA_118_ok).cons TRA_43_ok).cons TRA_24_ok).cons TRA_123_ok).cons TRA_50_ok).cons TRA_180_ok).cons TRA_176_ok).cons TRA_106_ok).cons TRA_107_ok).cons TRA_25_ok).cons TRA_22_ok).cons TRA_3_ok).cons TRA_27_ok)

namespace Pn
theorem rigBs_app : ∀ (l r ts : List Tm), rigBs (l ++ r) ts = (rigBs l ts && rigBs r (ts.drop l.length))
  | [], r, ts => by simp [rigBs]
  | p :: l, r, ts => by
    rw [List.cons_append, rigBs, rigBs, rigBs_app l r, Bool.and_assoc]
    have : ts.tail.drop l.length = ts.drop (p :: l).length := by cases ts <;> simp
    rw [this]
theorem rigBs_take (a ts : List Tm) (j : Nat) (hj : j < a.length) (ht : j < ts.length) (h : rigBs (a.take j) ts = true) : rigBs (a.take (j + 1)) ts = rigB a[j] ts[j] := by
  rw [List.take_add_one, List.getElem?_eq_getElem hj, rigBs_app, h, Option.toList_some, List.length_take, Nat.min_eq_left (by omega), rigBs, rigBs, List.drop_eq_getElem_cons ht, List.headD_cons, Bool.and_true, Bool.true_and]
theorem rigBs_stop (a ts : List Tm) (j : Nat) (h : rigBs (a.take j) ts = false) : rigBs a ts = false := by
  rw [← List.take_append_drop j a, rigBs_app, h]; rfl
end Pn
set_option maxHeartbeats 2000000 in
theorem rrigid_d : ∀ (p t : Tm), p.full ≤ 100000 → t.full ≤ 100000 → PureC Try.prog 86 [.ag (eTm p), .ag (eTm t)] (.v (.bool (Pn.rigB p t))) := by
 intro p
 induction p using Tm.ind with
 | h bs k i a ih =>
 intro t hz hzt
 rw [Tm.full_eq] at hz
 have hfa := full_args t
 have hal := fulls_len a
 have htl := fulls_len t.args
 have hbl := Ty.le_sizes bs
 have htb := Ty.le_sizes t.binds
 rw [Pn.rigB, eTm_eq, eTm_eq]
 simp only [binds_mk', kind_mk', index_mk', args_mkT]
 by_cases hlen : bs.length = t.binds.length
 ·skip
  refine calldw 0 70 [ResultVar.tmp 4] TRA_ok Try.func86 rfl Try.ntmps86 rfl fun cx hnt hn0 => ?_
  ·skip
   refine dw_seq ?_; refine dwk [] TRA_ok hnt fun K hK => ?_; refine hK _ _ ?_; clear hK K; refine dw_seq ?_; refine dw_seq ?_; refine dwk [(9, .v (.int .i64 (↑bs.length))), (12, .v (.int .i64 (↑t.binds.length))), (13, .v (.bool false))] TRA_ok hnt fun K hK => ?_; refine And.intro (dintE (by rw [eTys_len])) ?_; refine And.intro (dintE (by rw [eTys_len])) ?_; refine And.intro (bneF (by omega)) ?_; refine hK _ _ ?_; clear hK K
   refine dw_cond (t := false) rfl ?_; rw [if_neg (by simp)]; refine dw_skip ?_; refine dw_seq ?_; refine dw_seq ?_; refine dwk [] TRA_ok hnt fun K hK => ?_; refine hK _ _ ?_; clear hK K; refine dw_block ?_
   refine dw_loop (ι := { j : Nat // bs.take j = t.binds.take j }) (fun j => [(.t 2, .p 0 0), (.t 3, .p 1 0), (.t 5, .v (.int .i64 ↑j.1)), (.c 0 0, .sl 2 (eTys bs) none), (.c 0 1, .v (.int .i64 k)), (.c 0 2, .v (.int .i64 i)), (.c 0 3, .sl 4 (eTms a) none), (.c 1 0, .sl 2 (eTys t.binds) none), (.c 1 1, .v (.int .i64 t.kind)), (.c 1 2, .v (.int .i64 t.index)), (.c 1 3, .sl 4 (eTms t.args) none)]) 2 (fun j => bs.length - j.1) (⟨0, rfl⟩) (VS.toA) fun j => ?_
   obtain ⟨j, hj⟩ := j
   dsimp only
   by_cases hlt : j < bs.length
   ·have hlt2 : j < t.binds.length := by omega
    have hs4 := rsame4_d bs[j] t.binds[j]
    rw [eTy_eq, eTy_eq] at hs4
    by_cases he : bs[j] = t.binds[j]
    ·rw [decide_eq_true he] at hs4
     refine dw_seq ?_; refine dw_seq ?_; refine dwk [(17, .v (.int .i64 (↑bs.length))), (18, .v (.bool true))] TRA_ok hnt fun K hK => ?_; refine And.intro (dintE (by rw [eTys_len])) ?_; refine And.intro auT ?_; refine hK _ _ ?_; clear hK K; refine dw_cond (t := true) rfl ?_; rw [if_pos rfl]; refine dw_skip ?_; refine dw_seq ?_; refine dw_block ?_; refine dw_seq ?_; refine dwkD [(24, .q [.sl 2 (eTys bs[j].args) none, .v (.int .i64 bs[j].base)]), (29, .q [.sl 2 (eTys t.binds[j].args) none, .v (.int .i64 t.binds[j].base)])] TRA_ok hnt fun K hK => ?_
     refine And.intro (elo (eTys_len bs)) ?_; refine And.intro (elv (eTys_getD bs j) (eTy_eq _)) ?_; refine And.intro (elo (eTys_len t.binds)) ?_; refine And.intro (elv (eTys_getD t.binds j) (eTy_eq _)) ?_; refine dcl (hs4) ?_; refine hK _ _ (by kernel_rfl) ?_; clear hK K; refine dw_cond (t := false) rfl ?_; rw [if_neg (by simp)]; refine dw_skip ?_; refine dwk [(20, .v (.int .i64 (↑(j + 1))))] TRA_ok hnt fun K hK => ?_
     refine And.intro auI ?_; refine hK _ _ ?_; clear hK K
     refine ⟨⟨j + 1, by rw [List.take_add_one, List.take_add_one, hj, List.getElem?_eq_getElem hlt, List.getElem?_eq_getElem hlt2, he]⟩, by first | omega | (dsimp only; omega), VS.toA⟩
    ·rw [decide_eq_false he] at hs4
     have hne : bs ≠ t.binds := fun e => he (by subst e; rfl)
     rw [decide_eq_false hne, Bool.false_and]
     refine dw_seq ?_; refine dw_seq ?_; refine dwk [(17, .v (.int .i64 (↑bs.length))), (18, .v (.bool true))] TRA_ok hnt fun K hK => ?_; refine And.intro (dintE (by rw [eTys_len])) ?_; refine And.intro auT ?_; refine hK _ _ ?_; clear hK K; refine dw_cond (t := true) rfl ?_; rw [if_pos rfl]; refine dw_skip ?_; refine dw_seq ?_; refine dw_block ?_; refine dw_seq ?_; refine dwkD [(24, .q [.sl 2 (eTys bs[j].args) none, .v (.int .i64 bs[j].base)]), (29, .q [.sl 2 (eTys t.binds[j].args) none, .v (.int .i64 t.binds[j].base)])] TRA_ok hnt fun K hK => ?_
     refine And.intro (elo (eTys_len bs)) ?_; refine And.intro (elv (eTys_getD bs j) (eTy_eq _)) ?_; refine And.intro (elo (eTys_len t.binds)) ?_; refine And.intro (elv (eTys_getD t.binds j) (eTy_eq _)) ?_; refine dcl (hs4) ?_; refine hK _ _ (by kernel_rfl) ?_; clear hK K; refine dw_cond (t := true) rfl ?_; rw [if_pos rfl]; refine dw_seq ?_; refine dwk [] TRA_ok hnt fun K hK => ?_; refine hK _ _ ?_; clear hK K
     refine dw_ret ?_
     exact reta rfl
   ·rw [List.take_of_length_le (by omega), List.take_of_length_le (by omega)] at hj
    rw [decide_eq_true hj, Bool.true_and]
    by_cases hk : k = 2
    ·rw [decide_eq_true hk, Bool.true_or]
     refine dw_seq ?_; refine dw_seq ?_; refine dwk [(17, .v (.int .i64 (↑bs.length))), (18, .v (.bool false))] TRA_ok hnt fun K hK => ?_; refine And.intro (dintE (by rw [eTys_len])) ?_; refine And.intro auF ?_; refine hK _ _ ?_; clear hK K; refine dw_cond (t := false) rfl ?_; rw [if_neg (by simp)]; refine dw_exit ?_; refine dw_seq ?_; refine dw_seq ?_; refine dwk [(36, .v (.bool true))] TRA_ok hnt fun K hK => ?_
     refine And.intro (beqT hk) ?_; refine hK _ _ ?_; clear hK K; refine dw_cond (t := true) rfl ?_; rw [if_pos rfl]; refine dw_seq ?_; refine dwk [] TRA_ok hnt fun K hK => ?_; refine hK _ _ ?_; clear hK K; refine dw_ret ?_
     exact reta rfl
    ·rw [decide_eq_false hk, Bool.false_or]
     by_cases hc1 : k = t.kind ∧ i = t.index
     ·rw [decide_eq_true hc1.1, decide_eq_true hc1.2, Bool.true_and, Bool.true_and]
      by_cases hc2 : a.length = t.args.length
      ·rw [decide_eq_true hc2, Bool.true_and]
       refine dw_seq ?_; refine dw_seq ?_; refine dwk [(17, .v (.int .i64 (↑bs.length))), (18, .v (.bool false))] TRA_ok hnt fun K hK => ?_; refine And.intro (dintE (by rw [eTys_len])) ?_; refine And.intro auF ?_; refine hK _ _ ?_; clear hK K; refine dw_cond (t := false) rfl ?_; rw [if_neg (by simp)]; refine dw_exit ?_; refine dw_seq ?_; refine dw_seq ?_; refine dwk [(36, .v (.bool false))] TRA_ok hnt fun K hK => ?_
       refine And.intro (beqF hk) ?_; refine hK _ _ ?_; clear hK K; refine dw_cond (t := false) rfl ?_; rw [if_neg (by simp)]; refine dw_skip ?_; refine dw_seq ?_; refine dw_seq ?_; refine dwk [(41, .v (.bool false)), (45, .v (.int .i64 (↑a.length))), (48, .v (.int .i64 (↑t.args.length))), (49, .v (.bool false))] TRA_ok hnt fun K hK => ?_; refine And.intro (VLe.of_eq (by congr 2; simp [hc1])) ?_; refine And.intro (dintE (by rw [eTms_len])) ?_
       refine And.intro (dintE (by rw [eTms_len])) ?_; refine And.intro (bneF (by omega)) ?_; refine hK _ _ ?_; clear hK K; refine dw_cond (t := false) rfl ?_; rw [if_neg (by simp)]; refine dw_skip ?_; refine dw_seq ?_; refine dw_seq ?_; refine dwk [] TRA_ok hnt fun K hK => ?_; refine hK _ _ ?_; clear hK K; refine dw_block ?_
       refine dw_loop (ι := { j : Nat // Pn.rigBs (a.take j) t.args = true }) (fun j => [(.t 2, .p 0 0), (.t 3, .p 1 0), (.t 6, .v (.int .i64 ↑j.1)), (.c 0 3, .sl 4 (eTms a) none), (.c 1 3, .sl 4 (eTms t.args) none)]) 2 (fun j => a.length - j.1) (⟨0, by rw [List.take_zero, Pn.rigBs]⟩) (VS.toA) fun q => ?_
       obtain ⟨q, hq⟩ := q
       dsimp only
       by_cases hlq : q < a.length
       ·have hlq2 : q < t.args.length := by omega
        have hst := Pn.rigBs_take a t.args q hlq hlq2 hq
        have hm1 := full_mem (List.getElem_mem hlq)
        have hm2 := full_mem (List.getElem_mem hlq2)
        have hih := ih a[q] (List.getElem_mem hlq) t.args[q] (by omega) (by omega)
        rw [eTm_eq, eTm_eq] at hih
        cases hr : Pn.rigB a[q] t.args[q] with
        | true =>
         rw [hr] at hih hst
         refine dw_seq ?_; refine dw_seq ?_; refine dwk [(54, .v (.int .i64 (↑a.length))), (55, .v (.bool true))] TRA_ok hnt fun K hK => ?_; refine And.intro (dintE (by rw [eTms_len])) ?_; refine And.intro auT ?_; refine hK _ _ ?_; clear hK K; refine dw_cond (t := true) rfl ?_; rw [if_pos rfl]; refine dw_skip ?_; refine dw_seq ?_; refine dw_block ?_; refine dw_seq ?_; refine dwkD [(61, .q [.sl 2 (eTys a[q].binds) none, .v (.int .i64 a[q].kind), .v (.int .i64 a[q].index), .sl 4 (eTms a[q].args) none]), (66, .q [.sl 2 (eTys t.args[q].binds) none, .v (.int .i64 t.args[q].kind), .v (.int .i64 t.args[q].index), .sl 4 (eTms t.args[q].args) none])] TRA_ok hnt fun K hK => ?_
         refine And.intro (elo (eTms_len a)) ?_; refine And.intro (elv (eTms_getD a q) (eTm_eq _)) ?_; refine And.intro (elo (eTms_len t.args)) ?_; refine And.intro (elv (eTms_getD t.args q) (eTm_eq _)) ?_; refine dcl (hih) ?_; refine hK _ _ (by kernel_rfl) ?_; clear hK K; refine dw_cond (t := false) rfl ?_; rw [if_neg (by simp)]; refine dw_skip ?_; refine dwk [(57, .v (.int .i64 (↑(q + 1))))] TRA_ok hnt fun K hK => ?_
         refine And.intro auI ?_; refine hK _ _ ?_; clear hK K
         refine ⟨⟨q + 1, hst⟩, by first | omega | (dsimp only; omega), VS.toA⟩
        | false =>
         rw [hr] at hih hst
         rw [Pn.rigBs_stop a t.args (q + 1) hst]
         refine dw_seq ?_; refine dw_seq ?_; refine dwk [(54, .v (.int .i64 (↑a.length))), (55, .v (.bool true))] TRA_ok hnt fun K hK => ?_; refine And.intro (dintE (by rw [eTms_len])) ?_; refine And.intro auT ?_; refine hK _ _ ?_; clear hK K; refine dw_cond (t := true) rfl ?_; rw [if_pos rfl]; refine dw_skip ?_; refine dw_seq ?_; refine dw_block ?_; refine dw_seq ?_; refine dwkD [(61, .q [.sl 2 (eTys a[q].binds) none, .v (.int .i64 a[q].kind), .v (.int .i64 a[q].index), .sl 4 (eTms a[q].args) none]), (66, .q [.sl 2 (eTys t.args[q].binds) none, .v (.int .i64 t.args[q].kind), .v (.int .i64 t.args[q].index), .sl 4 (eTms t.args[q].args) none])] TRA_ok hnt fun K hK => ?_
         refine And.intro (elo (eTms_len a)) ?_; refine And.intro (elv (eTms_getD a q) (eTm_eq _)) ?_; refine And.intro (elo (eTms_len t.args)) ?_; refine And.intro (elv (eTms_getD t.args q) (eTm_eq _)) ?_; refine dcl (hih) ?_; refine hK _ _ (by kernel_rfl) ?_; clear hK K; refine dw_cond (t := true) rfl ?_; rw [if_pos rfl]; refine dw_seq ?_; refine dwk [] TRA_ok hnt fun K hK => ?_; refine hK _ _ ?_; clear hK K
         refine dw_ret ?_
         exact reta rfl
       ·rw [List.take_of_length_le (by omega)] at hq
        rw [hq]
        refine dw_seq ?_; refine dw_seq ?_; refine dwk [(54, .v (.int .i64 (↑a.length))), (55, .v (.bool false))] TRA_ok hnt fun K hK => ?_; refine And.intro (dintE (by rw [eTms_len])) ?_; refine And.intro auF ?_; refine hK _ _ ?_; clear hK K; refine dw_cond (t := false) rfl ?_; rw [if_neg (by simp)]; refine dw_exit ?_; refine dw_seq ?_; refine dwk [] TRA_ok hnt fun K hK => ?_; refine hK _ _ ?_; clear hK K
        refine dw_ret ?_
        exact reta rfl
      ·rw [decide_eq_false hc2, Bool.false_and]
       refine dw_seq ?_; refine dw_seq ?_; refine dwk [(17, .v (.int .i64 (↑bs.length))), (18, .v (.bool false))] TRA_ok hnt fun K hK => ?_; refine And.intro (dintE (by rw [eTys_len])) ?_; refine And.intro auF ?_; refine hK _ _ ?_; clear hK K; refine dw_cond (t := false) rfl ?_; rw [if_neg (by simp)]; refine dw_exit ?_; refine dw_seq ?_; refine dw_seq ?_; refine dwk [(36, .v (.bool false))] TRA_ok hnt fun K hK => ?_
       refine And.intro (beqF hk) ?_; refine hK _ _ ?_; clear hK K; refine dw_cond (t := false) rfl ?_; rw [if_neg (by simp)]; refine dw_skip ?_; refine dw_seq ?_; refine dw_seq ?_; refine dwk [(41, .v (.bool false)), (45, .v (.int .i64 (↑a.length))), (48, .v (.int .i64 (↑t.args.length))), (49, .v (.bool true))] TRA_ok hnt fun K hK => ?_; refine And.intro (VLe.of_eq (by congr 2; simp [hc1])) ?_; refine And.intro (dintE (by rw [eTms_len])) ?_
       refine And.intro (dintE (by rw [eTms_len])) ?_; refine And.intro (bneT (by omega)) ?_; refine hK _ _ ?_; clear hK K; refine dw_cond (t := true) rfl ?_; rw [if_pos rfl]; refine dw_seq ?_; refine dwk [] TRA_ok hnt fun K hK => ?_; refine hK _ _ ?_; clear hK K; refine dw_ret ?_
       exact reta rfl
     ·have e : (decide (k = t.kind) && decide (i = t.index)) = false := by
       by_cases h1 : k = t.kind
       ·by_cases h2 : i = t.index
        ·exact absurd ⟨h1, h2⟩ hc1
        ·simp [h2]
       ·simp [h1]
      rw [e, Bool.false_and]
      refine dw_seq ?_; refine dw_seq ?_; refine dwk [(17, .v (.int .i64 (↑bs.length))), (18, .v (.bool false))] TRA_ok hnt fun K hK => ?_; refine And.intro (dintE (by rw [eTys_len])) ?_; refine And.intro auF ?_; refine hK _ _ ?_; clear hK K; refine dw_cond (t := false) rfl ?_; rw [if_neg (by simp)]; refine dw_exit ?_; refine dw_seq ?_; refine dw_seq ?_; refine dwk [(36, .v (.bool false))] TRA_ok hnt fun K hK => ?_
      refine And.intro (beqF hk) ?_; refine hK _ _ ?_; clear hK K; refine dw_cond (t := false) rfl ?_; rw [if_neg (by simp)]; refine dw_skip ?_; refine dw_seq ?_; refine dw_seq ?_; refine dwk [(41, .v (.bool true))] TRA_ok hnt fun K hK => ?_; refine And.intro (VLe.of_eq (by congr 2; by_cases h1 : k = t.kind <;> by_cases h2 : i = t.index <;> simp_all)) ?_; refine hK _ _ ?_; clear hK K; refine dw_cond (t := true) rfl ?_
      rw [if_pos rfl]; refine dw_seq ?_; refine dwk [] TRA_ok hnt fun K hK => ?_; refine hK _ _ ?_; clear hK K; refine dw_ret ?_
      exact reta rfl
 ·have hne : bs ≠ t.binds := fun e => hlen (by rw [e])
  rw [decide_eq_false hne, Bool.false_and]
  refine calldw 0 70 [ResultVar.tmp 4] TRA_ok Try.func86 rfl Try.ntmps86 rfl fun cx hnt hn0 => ?_
  ·skip
   refine dw_seq ?_; refine dwk [] TRA_ok hnt fun K hK => ?_; refine hK _ _ ?_; clear hK K; refine dw_seq ?_; refine dw_seq ?_; refine dwk [(9, .v (.int .i64 (↑bs.length))), (12, .v (.int .i64 (↑t.binds.length))), (13, .v (.bool true))] TRA_ok hnt fun K hK => ?_; refine And.intro (dintE (by rw [eTys_len])) ?_; refine And.intro (dintE (by rw [eTys_len])) ?_; refine And.intro (bneT (by omega)) ?_; refine hK _ _ ?_; clear hK K
   refine dw_cond (t := true) rfl ?_; rw [if_pos rfl]; refine dw_seq ?_; refine dwk [] TRA_ok hnt fun K hK => ?_; refine hK _ _ ?_; clear hK K; refine dw_ret ?_
   exact reta rfl

namespace Pn
theorem getT_bfind (l : Bd) (m : Int) : getT l m = match bfind l m with | some z => (z, true) | none => (Tm.zero, false) := by
  have key : ∀ l : Bd, getP l m = l.find? fun p => p.1 == m := by
    intro l
    unfold getP
    induction l with
    | nil => rfl
    | cons p l ih =>
      rw [idxOf, List.find?_cons]
      by_cases h : p.1 = m
      · simp [h]
      · have h2 : (p.1 == m) = false := by simp [h]
        rw [if_neg h, h2, ← ih]
        cases idxOf m l <;> simp
  unfold getT bfind
  rw [key]
  cases l.find? (fun p => p.1 == m) <;> rfl
theorem bfind_ss (b : Bd) (m : Int) : bfind (So.ss b) m = bfind b m := by
  unfold bfind
  rw [← List.head?_filter, ← List.head?_filter, So.ss_same b m]
def useS (T : Tm) : List Use → Bd → Option Bd
  | [], s => some s
  | u :: l, s => match (atP u.path T).map (·.1) with
    | none => none
    | some x => if (take (.mk [] x.kind x.index x.args) u.binds u.vars).2 = 0 then (match bfind s u.mt with
      | some z => if (take (.mk [] x.kind x.index x.args) u.binds u.vars).1 = z then useS T l s else none
      | none => useS T l (So.ss (s ++ [(u.mt, (take (.mk [] x.kind x.index x.args) u.binds u.vars).1)]))) else none
theorem useS_ss (T : Tm) : ∀ (l : List Use) (b : Bd), useS T l (So.ss b) = (useB T l b).map So.ss
  | [], b => rfl
  | u :: l, b => by
    rw [useS, useB]
    cases (atP u.path T).map (·.1) with
    | none => rfl
    | some x =>
      dsimp only
      split
      · rw [bfind_ss]
        obtain ⟨y, hy⟩ : ∃ y, (take (.mk [] x.kind x.index x.args) u.binds u.vars).1 = y := ⟨_, rfl⟩
        rw [hy]
        unfold bput
        cases bfind b u.mt with
        | none =>
          dsimp only
          rw [if_pos rfl, ← useS_ss T l (b ++ [(u.mt, y)])]
          rw [show So.ss (So.ss b ++ [(u.mt, y)]) = So.ss (b ++ [(u.mt, y)]) from So.ss_cong ((So.ss_same b).app (So.Same.refl _))]
        | some z =>
          dsimp only
          by_cases h : y = z
          · rw [if_pos h, if_pos (decide_eq_true h), useS_ss T l b]
          · rw [if_neg h, if_neg (by simp [h])]; rfl
      · rfl
def refL : List (Tm × Tm) → Bd → Option Bd
  | [], s => some s
  | p :: l, s => if rigB p.1 p.2 then (useS p.2 (uses p.1 [] []).1 s).bind (refL l) else none
theorem refL_ss : ∀ (l : List (Tm × Tm)) (b : Bd), (∀ p ∈ l, (uses p.1 [] []).2 = true) → refL l (So.ss b) = (walkL l b).map So.ss
  | [], b, _ => rfl
  | p :: l, b, h => by
    have hw := walk_ok p.1 p.2 [] b [] p.2 p.2.binds (h p (by simp)) rfl
    unfold WalkOk at hw
    rw [refL, walkL]
    cases hr : rigB p.1 p.2 with
    | false =>
      rw [hr] at hw
      rw [if_neg (by simp), if_neg (by rw [hw.1]; simp)]; rfl
    | true =>
      rw [hr, Bool.true_and] at hw
      rw [if_pos rfl, useS_ss]
      cases hu : useB p.2 (uses p.1 [] []).1 b with
      | none =>
        rw [hu] at hw
        rw [if_neg (by rw [hw.1]; simp)]; rfl
      | some b' =>
        rw [hu] at hw
        have h1 : (walk p.1 p.2 [] b).1 = true := hw.1
        have h2 := hw.2 h1
        rw [if_pos h1]
        injection h2 with h2
        rw [← h2]
        show refL l (So.ss b') = _
        exact refL_ss l b' fun q hq => h q (by simp [hq])
theorem use_at (p : Tm) : ∀ (t : Tm) (ar : List Ty) (pa : List Int) (T : Tm) (l : List Ty), rigB p t = true → atP pa T = some (t, l) → ∀ u ∈ (uses p ar pa).1, ∃ r, atP u.path T = some r := by
  induction p using Tm.ind with
  | h bs k i a ih =>
    intro t ar pa T l hr hT u hu
    rw [uses_eq] at hu
    rw [rigB] at hr
    simp only [Bool.and_eq_true, Bool.or_eq_true, decide_eq_true_eq] at hr
    by_cases hk : k = 2
    · rw [if_pos hk] at hu
      cases hv : varsL ((ar ++ bs).length : Nat) a [] with
      | none => rw [hv] at hu; cases hu
      | some v => rw [hv] at hu; simp only [List.mem_singleton] at hu; subst hu; exact ⟨_, hT⟩
    · rw [if_neg hk] at hu
      rcases hr.2 with h | h
      · exact absurd h hk
      · have hlen := h.2.1
        have key : ∀ (m : List Tm) (j : Nat) (ts : List Tm), (∀ x ∈ m, x ∈ a) → t.args.drop j = ts → m.length = ts.length → rigBs m ts = true → ∀ u ∈ (usess m (ar ++ bs) pa j).1, ∃ r, atP u.path T = some r := by
          intro m
          induction m with
          | nil => intro j ts _ _ _ _ u hu; simp [usess] at hu
          | cons x m ihm =>
            intro j ts hm hd hl hr u hu
            cases ts with
            | nil => simp at hl
            | cons y ts =>
              have hj : j < t.args.length := by
                have := congrArg List.length hd
                rw [List.length_drop, List.length_cons] at this; omega
              rw [List.drop_eq_getElem_cons hj] at hd
              injection hd with hd1 hd2
              rw [rigBs, List.headD_cons, List.tail_cons, Bool.and_eq_true] at hr
              have hx := ih x (hm x (by simp)) y (ar ++ bs) (pa ++ [(j : Int)]) T _ hr.1 (by rw [atP_snoc hT hj, hd1])
              rw [usess] at hu
              split at hu
              · rcases List.mem_append.1 hu with hu | hu
                · exact hx u hu
                · exact ihm (j + 1) ts (fun y hy => hm y (by simp [hy])) hd2 (by simpa using hl) hr.2 u hu
              · exact hx u hu
        exact key a 0 t.args (fun _ h => h) rfl hlen h.2.2 u hu
theorem use_sz (p : Tm) : ∀ (ar : List Ty) (pa : List Int), ∀ u ∈ (uses p ar pa).1, Ty.sizes u.binds ≤ Ty.sizes ar + p.full ∧ u.vars.length ≤ p.full ∧ u.path.length ≤ pa.length + p.full ∧ ∀ x ∈ u.path, x ∈ pa ∨ (0 ≤ x ∧ x ≤ (p.full : Int)) := by
  induction p using Tm.ind with
  | h bs k i a ih =>
    intro ar pa u hu
    rw [uses_eq] at hu
    rw [Tm.full_eq]
    have hal := fulls_len a
    by_cases hk : k = 2
    · rw [if_pos hk] at hu
      cases hv : varsL ((ar ++ bs).length : Nat) a [] with
      | none => rw [hv] at hu; cases hu
      | some v =>
        have hvl := varsL_len _ _ _ _ hv
        rw [hv] at hu; simp only [List.mem_singleton] at hu; subst hu
        refine ⟨by dsimp only; rw [Ty.sizes_append]; omega, by dsimp only; simp at hvl; omega, by dsimp only; omega, fun x hx => .inl hx⟩
    · rw [if_neg hk] at hu
      have key : ∀ (m : List Tm) (j : Nat), (∀ x ∈ m, x ∈ a) → j + m.length ≤ a.length → ∀ u ∈ (usess m (ar ++ bs) pa j).1, ∃ x ∈ a, ∃ j' : Nat, j' ≤ a.length ∧ u ∈ (uses x (ar ++ bs) (pa ++ [(j' : Int)])).1 := by
        intro m
        induction m with
        | nil => intro j _ _ u hu; simp [usess] at hu
        | cons x m ihm =>
          intro j hm hl u hu
          rw [List.length_cons] at hl
          rw [usess] at hu
          split at hu
          · rcases List.mem_append.1 hu with hu | hu
            · exact ⟨x, hm x (by simp), j, by omega, hu⟩
            · exact ihm (j + 1) (fun y hy => hm y (by simp [hy])) (by omega) u hu
          · exact ⟨x, hm x (by simp), j, by omega, hu⟩
      obtain ⟨x, hx, j', hj', hu⟩ := key a 0 (fun _ h => h) (by omega) u hu
      obtain ⟨h1, h2, h3, h4⟩ := ih x hx _ _ u hu
      have hm := full_mem hx
      rw [Ty.sizes_append] at h1
      refine ⟨by omega, by omega, by rw [List.length_append] at h3; simp at h3; omega, fun y hy => ?_⟩
      rcases h4 y hy with h | h
      · rcases List.mem_append.1 h with h | h
        · exact .inl h
        · rw [List.mem_singleton] at h; right; omega
      · right; omega
theorem atP_part : ∀ (p : List Int) (T : Tm) (r : Tm × List Ty), atP p T = some r → lowB T = true → T.Fit → lowB r.1 = true ∧ r.1.Fit
  | [], T, r, h, hl, hf => by rw [atP] at h; cases h; exact ⟨hl, hf⟩
  | j :: p, T, r, h, hl, hf => by
    rw [atP] at h
    split at h
    · rename_i hj
      have hlt : j.toNat < T.args.length := by omega
      have e : T.args.getD j.toNat Tm.zero = T.args[j.toNat] := by rw [List.getD_eq_getElem?_getD, List.getElem?_eq_getElem hlt]; rfl
      rw [e] at h
      cases h2 : atP p T.args[j.toNat] with
      | none => rw [h2] at h; cases h
      | some r' =>
        rw [h2] at h; cases h
        have hla : ∀ u ∈ T.args, lowB u = true := by obtain ⟨b', k', i', a'⟩ := T; rw [lowB_eq] at hl; simp only [Bool.and_eq_true] at hl; exact low_mem hl.2
        exact atP_part p _ r' h2 (hla _ (List.getElem_mem hlt)) (fit_args hf _ (List.getElem_mem hlt))
    · cases h
theorem useS_app (T : Tm) : ∀ (l r : List Use) (s : Bd), useS T (l ++ r) s = (useS T l s).bind (useS T r)
  | [], r, s => rfl
  | u :: l, r, s => by
    rw [List.cons_append, useS, useS]
    cases (atP u.path T).map (·.1) with
    | none => rfl
    | some x =>
      dsimp only
      split
      · cases bfind s u.mt with
        | none => exact useS_app T l r _
        | some z =>
          dsimp only
          split
          · exact useS_app T l r _
          · rfl
      · rfl
theorem useS_at (T : Tm) (l : List Use) (j : Nat) (hj : j < l.length) {s s0 : Bd} (h : useS T (l.take j) s0 = some s) : useS T (l.take (j + 1)) s0 = useS T [l[j]] s ∧ (useS T [l[j]] s = none → useS T l s0 = none) := by
  constructor
  · rw [List.take_add_one, List.getElem?_eq_getElem hj, useS_app, h]; rfl
  · intro h0
    have e : l = l.take j ++ ([l[j]] ++ l.drop (j + 1)) := by
      rw [List.singleton_append, ← List.drop_eq_getElem_cons hj, List.take_append_drop]
    have : useS T (l.take j ++ ([l[j]] ++ l.drop (j + 1))) s0 = none := by rw [useS_app, h, Option.bind_some, useS_app, h0]; rfl
    rw [← e] at this; exact this
theorem refL_app (l r : List (Tm × Tm)) : ∀ s, refL (l ++ r) s = (refL l s).bind (refL r) := by
  induction l with
  | nil => intro s; rfl
  | cons p l ih =>
    intro s
    rw [List.cons_append, refL, refL]
    split
    · cases useS p.2 (uses p.1 [] []).1 s with
      | none => rfl
      | some b => exact ih b
    · rfl
theorem refL_at (l : List (Tm × Tm)) (j : Nat) (hj : j < l.length) {s : Bd} (h : refL (l.take j) [] = some s) : refL (l.take (j + 1)) [] = refL [l[j]] s ∧ (refL [l[j]] s = none → refL l [] = none) := by
  constructor
  · rw [List.take_add_one, List.getElem?_eq_getElem hj, refL_app, h]; rfl
  · intro h0
    have e : l = l.take j ++ ([l[j]] ++ l.drop (j + 1)) := by
      rw [List.singleton_append, ← List.drop_eq_getElem_cons hj, List.take_append_drop]
    have : refL (l.take j ++ ([l[j]] ++ l.drop (j + 1))) [] = none := by rw [refL_app, h, Option.bind_some, refL_app, h0]; rfl
    rw [← e] at this; exact this
theorem may_uses {p : Tm} (h : may p = 0) : (uses p [] []).2 = true := by
  unfold may at h
  split at h
  · cases h
  · split at h
    · cases h
    · rename_i h2; simpa using h2
theorem mayAll_mem {l : List (Tm × Tm)} (h : mayAll l = 0) : ∀ p ∈ l, may p.1 = 0 := by
  induction l with
  | nil => intro p hp; cases hp
  | cons q l ih =>
    rw [mayAll] at h
    split at h
    · rename_i h0
      intro p hp
      rcases List.mem_cons.1 hp with rfl | hp
      · exact h0
      · exact ih h p hp
    · rename_i h0; exact absurd h h0
theorem mAll_ref (l : List (Tm × Tm)) (h : mayAll l = 0) : mAll l = match refL l [] with | some s => (s, 0) | none => ([], 9) := by
  unfold mAll
  rw [if_pos h]
  have := refL_ss l [] fun p hp => may_uses (mayAll_mem h p hp)
  rw [So.ss_nil] at this
  rw [this]
  cases walkL l [] <;> rfl
end Pn
end Go.Proofs.Ytcblpjheoclkeaa

namespace Go.Proofs.Ytcblpjheoclkeaa
open Go.RowKit
def TRE_27 : TI := ⟨4, true, [Value.slice none 0 0, Value.int IntKind.i64 0, Value.int IntKind.i64 0, Value.slice none 0 0], [(0, 1, false), (1, 2, true), (3, 1, false)], none, 64, 6, none, false⟩
theorem TRE_27_ok : TypOk Try.prog 27 TRE_27 := ⟨by kernel_rfl, by kernel_rfl, by kernel_rfl, by kernel_rfl, by kernel_rfl⟩
def TRE_3 : TI := ⟨1, false, [Value.int IntKind.i64 0], [], none, 8, 2, none, false⟩
theorem TRE_3_ok : TypOk Try.prog 3 TRE_3 := ⟨by kernel_rfl, by kernel_rfl, by kernel_rfl, by kernel_rfl, by kernel_rfl⟩
def TRE_107 : TI := ⟨1, false, [Value.slice none 0 0], [], some 106, 24, 5, none, false⟩
theorem TRE_107_ok : TypOk Try.prog 107 TRE_107 := ⟨by kernel_rfl, by kernel_rfl, by kernel_rfl, by kernel_rfl, by kernel_rfl⟩
def TRE_106 : TI := ⟨8, true, [Value.slice none 0 0, Value.int IntKind.i64 0, Value.int IntKind.i64 0, Value.slice none 0 0, Value.slice none 0 0, Value.int IntKind.i64 0, Value.int IntKind.i64 0, Value.slice none 0 0], [(0, 4, true), (4, 4, true)], none, 128, 6, none, false⟩
theorem TRE_106_ok : TypOk Try.prog 106 TRE_106 := ⟨by kernel_rfl, by kernel_rfl, by kernel_rfl, by kernel_rfl, by kernel_rfl⟩
def TRE_176 : TI := ⟨1, false, [Value.slice none 0 0], [], some 180, 24, 5, none, false⟩
theorem TRE_176_ok : TypOk Try.prog 176 TRE_176 := ⟨by kernel_rfl, by kernel_rfl, by kernel_rfl, by kernel_rfl, by kernel_rfl⟩
def TRE_180 : TI := ⟨4, true, [Value.int IntKind.i64 0, Value.slice none 0 0, Value.slice none 0 0, Value.slice none 0 0], [(0, 1, false), (1, 1, false), (2, 1, false), (3, 1, false)], none, 80, 6, none, false⟩
theorem TRE_180_ok : TypOk Try.prog 180 TRE_180 := ⟨by kernel_rfl, by kernel_rfl, by kernel_rfl, by kernel_rfl, by kernel_rfl⟩
def TRE_50 : TI := ⟨1, false, [Value.slice none 0 0], [], some 118, 24, 5, none, false⟩
theorem TRE_50_ok : TypOk Try.prog 50 TRE_50 := ⟨by kernel_rfl, by kernel_rfl, by kernel_rfl, by kernel_rfl, by kernel_rfl⟩
def TRE_43 : TI := ⟨1, false, [Value.slice none 0 0], [], some 3, 24, 5, none, false⟩
theorem TRE_43_ok : TypOk Try.prog 43 TRE_43 := ⟨by kernel_rfl, by kernel_rfl, by kernel_rfl, by kernel_rfl, by kernel_rfl⟩
def TRE_22 : TI := ⟨1, false, [Value.slice none 0 0], [], some 123, 24, 5, none, false⟩
theorem TRE_22_ok : TypOk Try.prog 22 TRE_22 := ⟨by kernel_rfl, by kernel_rfl, by kernel_rfl, by kernel_rfl, by kernel_rfl⟩
def TRE_118 : TI := ⟨5, true, [Value.int IntKind.i64 0, Value.slice none 0 0, Value.int IntKind.i64 0, Value.int IntKind.i64 0, Value.slice none 0 0], [(0, 1, false), (1, 4, true)], none, 72, 6, none, false⟩
theorem TRE_118_ok : TypOk Try.prog 118 TRE_118 := ⟨by kernel_rfl, by kernel_rfl, by kernel_rfl, by kernel_rfl, by kernel_rfl⟩
def TRE_123 : TI := ⟨2, true, [Value.slice none 0 0, Value.int IntKind.i64 0], [(0, 1, false), (1, 1, false)], none, 32, 6, none, false⟩
theorem TRE_123_ok : TypOk Try.prog 123 TRE_123 := ⟨by kernel_rfl, by kernel_rfl, by kernel_rfl, by kernel_rfl, by kernel_rfl⟩
def TRE : List (Nat × TI) := [(27, TRE_27), (3, TRE_3), (107, TRE_107), (106, TRE_106), (176, TRE_176), (180, TRE_180), (50, TRE_50), (43, TRE_43), (22, TRE_22), (118, TRE_118), (123, TRE_123)]
theorem TRE_ok : TabOk Try.prog TRE := ((((((((((((TabOk.nil _).cons TRE_123_ok).cons TRE_118_ok).cons TRE_22_ok).cons TRE_43_ok).cons TRE_50_ok).cons TRE_180_ok).cons TRE_176_ok).cons TRE_106_ok).cons TRE_107_ok).cons TRE_3_ok).cons TRE_27_ok)

theorem eUse_eq (u : Pn.Use) : eUse u = [.v (.int .i64 u.mt), .sl 1 (eIs u.vars) none, .sl 2 (eTys u.binds) none, .sl 1 (eIs u.path) none] := rfl
theorem eUses_getD (l : List Pn.Use) (i : Nat) (h : i < l.length) : (eUses l).getD i [] = eUse l[i] := by
  rw [eUses, List.getD_eq_getElem?_getD, List.getElem?_map, List.getElem?_eq_getElem h]; rfl
theorem refL_one (p : Tm × Tm) (s : Pn.Bd) : Pn.refL [p] s = if Pn.rigB p.1 p.2 then Pn.useS p.2 (Pn.uses p.1 [] []).1 s else none := by
  rw [Pn.refL]
  by_cases h2 : Pn.rigB p.1 p.2 = true
  · rw [if_pos h2, if_pos h2]; cases Pn.useS p.2 (Pn.uses p.1 [] []).1 s <;> rfl
  · rw [if_neg h2, if_neg h2]
theorem useS_one (T : Tm) (u : Pn.Use) (s : Pn.Bd) {x : Tm} {l : List Ty} (h : Pn.atP u.path T = some (x, l)) : Pn.useS T [u] s = if (Pn.take (.mk [] x.kind x.index x.args) u.binds u.vars).2 = 0 then (match Pn.bfind s u.mt with
      | some z => if (Pn.take (.mk [] x.kind x.index x.args) u.binds u.vars).1 = z then some s else none
      | none => some (So.ss (s ++ [(u.mt, (Pn.take (.mk [] x.kind x.index x.args) u.binds u.vars).1)]))) else none := by
  rw [Pn.useS, h]
  first
  | (simp only [Option.map_some, Pn.useS]; done)
  | (simp only [Option.map_some, Pn.useS]
     by_cases h2 : (Pn.take (.mk [] x.kind x.index x.args) u.binds u.vars).2 = 0
     · rw [if_pos h2, if_pos h2]; cases Pn.bfind s u.mt <;> rfl
     · rw [if_neg h2, if_neg h2])
set_option maxHeartbeats 4000000 in
theorem rAll_d (l : List (Tm × Tm)) (hl : l.length ≤ 100) (hp : ∀ p ∈ l, PPok p) : PureC Try.prog 52 [.sl 8 (ePPs l) none] (.tu [.sl 5 (ePairs (Pn.mAll l).1) none, .v (.int .i64 (Pn.mAll l).2)]) := by
 refine calldw 0 130 [ResultVar.tmp 2, ResultVar.tmp 3] TRE_ok Try.func52 rfl Try.ntmps52 rfl fun cx hnt hn0 => ?_
 ·skip
  refine dw_seq ?_; refine dwk [] TRE_ok hnt fun K hK => ?_; refine hK _ _ ?_; clear hK K; refine dw_seq ?_; refine dw_seq ?_; refine dwk [] TRE_ok hnt fun K hK => ?_; refine hK _ _ ?_; clear hK K; refine dw_block ?_
  refine dw_loop (ι := { j : Nat // Pn.mayAll (l.take j) = 0 }) (fun j => [(.t 0, .sl 8 (ePPs l) none), (.t 4, .v (.int .i64 ↑j.1))]) 0 (fun j => l.length - j.1) (⟨0, rfl⟩) ((VS.toK (by omega) (by repeat first | exact trivial | refine And.intro (And.intro (by first | rfl | simp [D.ok, D.oks, D.okss, D.okm, upto, keyOk, argsT]) (by first | exact Or.inl rfl | exact Or.inr ⟨_, rfl, (by repeat first | exact VLe.refl _ | exact VLe.nil _ | exact VLe.untag _ _ _ | refine VLe.ag ?_ | refine VLe.tu ?_ | refine VLeL.cons ?_ ?_ | exact VLeL.nil), trivial⟩ | simp [get, Key.eq, argsT])) ?_))) fun j => ?_
  obtain ⟨j, hj⟩ := j
  dsimp only
  by_cases hlt : j < l.length
  ·have hst := Pn.mayAll_at l j hlt hj
   have hok := hp _ (List.getElem_mem hlt)
   have hm := rmay12_d l[j].1 (by have := hok.1; omega) hok.2.1
   rw [eTm_eq] at hm
   by_cases h0 : Pn.may l[j].1 = 0
   ·rw [h0] at hm
    refine dw_seq ?_; refine dw_seq ?_; refine dwk [(20, .v (.int .i64 (↑l.length))), (21, .v (.bool true))] TRE_ok hnt fun K hK => ?_; refine And.intro (dintE (by rw [ePPs_len])) ?_; refine And.intro auT ?_; refine hK _ _ ?_; clear hK K; refine dw_cond (t := true) rfl ?_; rw [if_pos rfl]; refine dw_skip ?_; refine dw_seq ?_; refine dw_block ?_; refine dw_seq ?_; refine dwk [(26, .q [.sl 2 (eTys l[j].1.binds) none, .v (.int .i64 l[j].1.kind), .v (.int .i64 l[j].1.index), .sl 4 (eTms l[j].1.args) none, .sl 2 (eTys l[j].2.binds) none, .v (.int .i64 l[j].2.kind), .v (.int .i64 l[j].2.index), .sl 4 (eTms l[j].2.args) none])] TRE_ok hnt fun K hK => ?_
    refine And.intro (elo (ePPs_len l)) ?_; refine And.intro (elv (ePPs_getD l j) (ePP_eq _)) ?_; refine dcl (hm) ?_; refine hK _ _ ?_; clear hK K; refine dw_seq ?_; refine dwk [(31, .v (.bool false))] TRE_ok hnt fun K hK => ?_; refine And.intro (VLe.refl _) ?_; refine hK _ _ ?_; clear hK K; refine dw_cond (t := false) rfl ?_; rw [if_neg (by simp)]; refine dw_skip ?_; refine dwk [(23, .v (.int .i64 (↑(j + 1))))] TRE_ok hnt fun K hK => ?_
    refine And.intro auI ?_; refine hK _ _ ?_; clear hK K
    refine ⟨⟨j + 1, hst.1 h0⟩, by first | omega | (dsimp only; omega), VS.toA⟩
   ·have hv : Pn.mAll l = ([], Pn.may l[j].1) := by unfold Pn.mAll; rw [hst.2 h0, if_neg h0]
    rw [hv]
    refine dw_seq ?_; refine dw_seq ?_; refine dwk [(20, .v (.int .i64 (↑l.length))), (21, .v (.bool true))] TRE_ok hnt fun K hK => ?_; refine And.intro (dintE (by rw [ePPs_len])) ?_; refine And.intro auT ?_; refine hK _ _ ?_; clear hK K; refine dw_cond (t := true) rfl ?_; rw [if_pos rfl]; refine dw_skip ?_; refine dw_seq ?_; refine dw_block ?_; refine dw_seq ?_; refine dwk [(26, .q [.sl 2 (eTys l[j].1.binds) none, .v (.int .i64 l[j].1.kind), .v (.int .i64 l[j].1.index), .sl 4 (eTms l[j].1.args) none, .sl 2 (eTys l[j].2.binds) none, .v (.int .i64 l[j].2.kind), .v (.int .i64 l[j].2.index), .sl 4 (eTms l[j].2.args) none])] TRE_ok hnt fun K hK => ?_
    refine And.intro (elo (ePPs_len l)) ?_; refine And.intro (elv (ePPs_getD l j) (ePP_eq _)) ?_; refine dcl (hm) ?_; refine hK _ _ ?_; clear hK K; refine dw_seq ?_; refine dwk [(31, .v (.bool true))] TRE_ok hnt fun K hK => ?_; refine And.intro (bneT h0) ?_; refine hK _ _ ?_; clear hK K; refine dw_cond (t := true) rfl ?_; rw [if_pos rfl]; refine dw_seq ?_; refine dwk [] TRE_ok hnt fun K hK => ?_; refine hK _ _ ?_; clear hK K
    refine dw_ret ?_
    exact reta rfl
  ·rw [List.take_of_length_le (by omega)] at hj
   have href := Pn.mAll_ref l hj
   refine dw_seq ?_; refine dw_seq ?_; refine dwk [(20, .v (.int .i64 (↑l.length))), (21, .v (.bool false))] TRE_ok hnt fun K hK => ?_; refine And.intro (dintE (by rw [ePPs_len])) ?_; refine And.intro auF ?_; refine hK _ _ ?_; clear hK K; refine dw_cond (t := false) rfl ?_; rw [if_neg (by simp)]; refine dw_exit ?_; refine dw_seq ?_; refine dwk [] TRE_ok hnt fun K hK => ?_; refine hK _ _ ?_; clear hK K
   refine DW.vs (VS.rowT (x := 6) (by rw [hnt]; decide) 118 5 rfl) ?_
   refine dw_seq ?_; refine dw_seq ?_; refine dwk [] TRE_ok hnt fun K hK => ?_; refine hK _ _ ?_; clear hK K; refine dw_block ?_
   refine dw_loop (ι := { q : Nat × Pn.Bd // Pn.refL (l.take q.1) [] = some q.2 ∧ q.2.length ≤ 250 * q.1 ∧ q.1 ≤ l.length }) (fun q => [(.t 0, .sl 8 (ePPs l) none), (.t 6, .sl 5 (ePairs q.1.2) (some 5)), (.t 7, .v (.int .i64 ↑q.1.1)), (.r 5, .rw 118 5 q.1.2.length)]) 6 (fun q => l.length - q.1.1) (⟨(0, []), rfl, Nat.zero_le _, Nat.zero_le _⟩) ((VS.toK (by omega) (by repeat first | exact trivial | refine And.intro (And.intro (by first | rfl | simp [D.ok, D.oks, D.okss, D.okm, upto, keyOk, ePairs]) (by first | exact Or.inl rfl | exact Or.inr ⟨_, rfl, (by repeat first | exact VLe.refl _ | exact VLe.nil _ | exact VLe.untag _ _ _ | refine VLe.ag ?_ | refine VLe.tu ?_ | refine VLeL.cons ?_ ?_ | exact VLeL.nil), trivial⟩ | simp [get, Key.eq, ePairs])) ?_))) fun q => ?_
   obtain ⟨⟨k, s⟩, hs, hsl, hkl⟩ := q
   dsimp only at hs hsl hkl ⊢
   by_cases hlt : k < l.length
   ·obtain ⟨ok1, ok2, ok3, ok4, ok5⟩ := hp _ (List.getElem_mem hlt)
    have hst := Pn.refL_at l k hlt hs
    have hmay := Pn.mayAll_mem hj _ (List.getElem_mem hlt)
    have huok := Pn.may_uses hmay
    have hrg := rrigid_d l[k].1 l[k].2 (by omega) (by omega)
    have hus := ruses_d l[k].1 (by omega) ok2
    rw [huok, if_pos rfl] at hus
    have husz := Pn.use_sz l[k].1 [] []
    have huat := fun (h : Pn.rigB l[k].1 l[k].2 = true) => Pn.use_at l[k].1 l[k].2 [] [] l[k].2 _ h rfl
    have hulen := Pn.uses_len l[k].1 [] []
    rw [refL_one] at hst
    obtain ⟨us, hU⟩ : ∃ us, (Pn.uses l[k].1 [] []).1 = us := ⟨_, rfl⟩
    rw [hU] at hus hst husz huat hulen
    rw [eTm_eq, eTm_eq] at hrg
    rw [eTm_eq] at hus
    cases hr : Pn.rigB l[k].1 l[k].2 with
    | false =>
     rw [hr] at hrg
     have hv : Pn.mAll l = ([], 9) := by rw [href, hst.2 (by rw [hr]; rfl)]
     rw [hv]
     refine dw_seq ?_; refine dw_seq ?_; refine dwk [(35, .v (.int .i64 (↑l.length))), (36, .v (.bool true))] TRE_ok hnt fun K hK => ?_; refine And.intro (dintE (by rw [ePPs_len])) ?_; refine And.intro auT ?_; refine hK _ _ ?_; clear hK K; refine dw_cond (t := true) rfl ?_; rw [if_pos rfl]; refine dw_skip ?_; refine dw_seq ?_; refine dw_block ?_; refine dw_seq ?_; refine dw_seq ?_; refine dwkD [(41, .q [.sl 2 (eTys l[k].1.binds) none, .v (.int .i64 l[k].1.kind), .v (.int .i64 l[k].1.index), .sl 4 (eTms l[k].1.args) none, .sl 2 (eTys l[k].2.binds) none, .v (.int .i64 l[k].2.kind), .v (.int .i64 l[k].2.index), .sl 4 (eTms l[k].2.args) none]), (46, .q [.sl 2 (eTys l[k].1.binds) none, .v (.int .i64 l[k].1.kind), .v (.int .i64 l[k].1.index), .sl 4 (eTms l[k].1.args) none, .sl 2 (eTys l[k].2.binds) none, .v (.int .i64 l[k].2.kind), .v (.int .i64 l[k].2.index), .sl 4 (eTms l[k].2.args) none])] TRE_ok hnt fun K hK => ?_
     refine And.intro (elo (ePPs_len l)) ?_; refine And.intro (elv (ePPs_getD l k) (ePP_eq _)) ?_; refine And.intro (elo (ePPs_len l)) ?_; refine And.intro (elv (ePPs_getD l k) (ePP_eq _)) ?_; refine dcl (hrg) ?_; refine hK _ _ (by kernel_rfl) ?_; clear hK K; refine dw_cond (t := true) rfl ?_; rw [if_pos rfl]; refine dw_seq ?_; refine dwk [] TRE_ok hnt fun K hK => ?_; refine hK _ _ ?_; clear hK K; refine dw_ret ?_
     exact reta rfl
    | true =>
     rw [hr] at hrg
     rw [hr, if_pos rfl] at hst
     have huat := huat hr
     refine dw_seq ?_; refine dw_seq ?_; refine dwk [(35, .v (.int .i64 (↑l.length))), (36, .v (.bool true))] TRE_ok hnt fun K hK => ?_; refine And.intro (dintE (by rw [ePPs_len])) ?_; refine And.intro auT ?_; refine hK _ _ ?_; clear hK K; refine dw_cond (t := true) rfl ?_; rw [if_pos rfl]; refine dw_skip ?_; refine dw_seq ?_; refine dw_block ?_; refine dw_seq ?_; refine dw_seq ?_; refine dwkD [(41, .q [.sl 2 (eTys l[k].1.binds) none, .v (.int .i64 l[k].1.kind), .v (.int .i64 l[k].1.index), .sl 4 (eTms l[k].1.args) none, .sl 2 (eTys l[k].2.binds) none, .v (.int .i64 l[k].2.kind), .v (.int .i64 l[k].2.index), .sl 4 (eTms l[k].2.args) none]), (46, .q [.sl 2 (eTys l[k].1.binds) none, .v (.int .i64 l[k].1.kind), .v (.int .i64 l[k].1.index), .sl 4 (eTms l[k].1.args) none, .sl 2 (eTys l[k].2.binds) none, .v (.int .i64 l[k].2.kind), .v (.int .i64 l[k].2.index), .sl 4 (eTms l[k].2.args) none])] TRE_ok hnt fun K hK => ?_
     refine And.intro (elo (ePPs_len l)) ?_; refine And.intro (elv (ePPs_getD l k) (ePP_eq _)) ?_; refine And.intro (elo (ePPs_len l)) ?_; refine And.intro (elv (ePPs_getD l k) (ePP_eq _)) ?_; refine dcl (hrg) ?_; refine hK _ _ (by kernel_rfl) ?_; clear hK K; refine dw_cond (t := false) rfl ?_; rw [if_neg (by simp)]; refine dw_skip ?_; refine dw_seq ?_; refine dwk [(54, .q [.sl 2 (eTys l[k].1.binds) none, .v (.int .i64 l[k].1.kind), .v (.int .i64 l[k].1.index), .sl 4 (eTms l[k].1.args) none, .sl 2 (eTys l[k].2.binds) none, .v (.int .i64 l[k].2.kind), .v (.int .i64 l[k].2.index), .sl 4 (eTms l[k].2.args) none])] TRE_ok hnt fun K hK => ?_
     refine And.intro (elo (ePPs_len l)) ?_; refine And.intro (elv (ePPs_getD l k) (ePP_eq _)) ?_; refine dcl (hus) ?_; refine hK _ _ ?_; clear hK K; refine dw_seq ?_; refine dwk [] TRE_ok hnt fun K hK => ?_; refine hK _ _ ?_; clear hK K; refine dw_block ?_
     refine dw_loop (ι := { r : Nat × Pn.Bd // Pn.useS l[k].2 (us.take r.1) s = some r.2 ∧ r.2.length ≤ s.length + r.1 ∧ r.1 ≤ us.length }) (fun r => [(.t 6, .sl 5 (ePairs r.1.2) (some 5)), (.r 5, .rw 118 5 r.1.2.length), (.t 0, .sl 8 (ePPs l) none), (.t 7, .v (.int .i64 ↑k)), (.t 8, .sl 4 (eUses us) none), (.t 10, .v (.int .i64 ↑r.1.1))]) 6 (fun r => us.length - r.1.1) (⟨(0, s), rfl, Nat.le_refl _, Nat.zero_le _⟩) (VS.toA) fun r => ?_
     obtain ⟨⟨j, b⟩, hb, hbl, hjl⟩ := r
     dsimp only at hb hbl hjl ⊢
     by_cases hltu : j < us.length
     ·have hstu := Pn.useS_at l[k].2 us j hltu hb
      have hmu := List.getElem_mem hltu
      obtain ⟨z1, z2, z3, z4⟩ := husz _ hmu
      obtain ⟨⟨x, ar⟩, hx⟩ := huat _ hmu
      have hA := rat_d us[j].path l[k].2 (by omega) (by simp at z3; omega) (fun y hy => by rcases z4 y hy with h | h; cases h; omega)
      have hxs := atP_sizes _ _ _ hx
      have hxp := Pn.atP_part _ _ _ hx ok4 ok5
      have hxn := Pn.nb_full x
      dsimp only at hxs hxp
      have hbl2 := Ty.le_sizes us[j].binds
      have hT := rtake_d (.mk [] x.kind x.index x.args) us[j].binds us[j].vars (by simp [Ty.sizes] at z1; omega) (by omega) (by have : (Tm.mk [] x.kind x.index x.args).full ≤ x.full := hxn; omega) (Pn.nb_low hxp.1)
      rw [hx] at hA
      unfold atV at hA
      dsimp only at hA
      rw [useS_one _ _ _ hx] at hstu
      obtain ⟨⟨y, e⟩, hy⟩ : ∃ y, Pn.take (.mk [] x.kind x.index x.args) us[j].binds us[j].vars = y := ⟨_, rfl⟩
      rw [hy] at hT hstu
      dsimp only at hT hstu
      rw [eTm_eq, eTm_eq] at hA hT
      simp only [binds_mk', kind_mk', index_mk', args_mkT, eTys] at hT
      refine dw_seq ?_; refine dw_seq ?_; refine dwk [(62, .v (.int .i64 (↑us.length))), (63, .v (.bool true))] TRE_ok hnt fun K hK => ?_; refine And.intro (dintE (by rw [eUses_len])) ?_; refine And.intro auT ?_; refine hK _ _ ?_; clear hK K; refine dw_cond (t := true) rfl ?_; rw [if_pos rfl]; refine dw_skip ?_; refine dw_seq ?_; refine dw_block ?_; refine dw_seq ?_; refine dwkD [(69, .q [.sl 2 (eTys l[k].1.binds) none, .v (.int .i64 l[k].1.kind), .v (.int .i64 l[k].1.index), .sl 4 (eTms l[k].1.args) none, .sl 2 (eTys l[k].2.binds) none, .v (.int .i64 l[k].2.kind), .v (.int .i64 l[k].2.index), .sl 4 (eTms l[k].2.args) none]), (74, .q [.v (.int .i64 us[j].mt), .sl 1 (eIs us[j].vars) none, .sl 2 (eTys us[j].binds) none, .sl 1 (eIs us[j].path) none])] TRE_ok hnt fun K hK => ?_
      refine And.intro (elo (ePPs_len l)) ?_; refine And.intro (elv (ePPs_getD l k) (ePP_eq _)) ?_; refine And.intro (elo (eUses_len us)) ?_; refine And.intro (elv (eUses_getD us j) (eUse_eq _)) ?_; refine dcl (hA) ?_; refine hK _ _ (by kernel_rfl) ?_; clear hK K; refine dw_seq ?_; refine dwk [] TRE_ok hnt fun K hK => ?_; refine hK _ _ ?_; clear hK K
      by_cases he : e = 0
      ·rw [if_pos he] at hstu
       have hG := rget_d b (by omega) us[j].mt
       rw [Pn.getT_bfind] at hG
       refine dw_seq ?_; refine dwkD [(83, .ag [.sl 2 [] none, .v (.int .i64 x.kind), .v (.int .i64 x.index), .sl 4 (eTms x.args) none]), (86, .q [.v (.int .i64 us[j].mt), .sl 1 (eIs us[j].vars) none, .sl 2 (eTys us[j].binds) none, .sl 1 (eIs us[j].path) none]), (91, .q [.v (.int .i64 us[j].mt), .sl 1 (eIs us[j].vars) none, .sl 2 (eTys us[j].binds) none, .sl 1 (eIs us[j].path) none])] TRE_ok hnt fun K hK => ?_
       refine And.intro (auV) ?_; refine And.intro (elo (eUses_len us)) ?_; refine And.intro (elv (eUses_getD us j) (eUse_eq _)) ?_; refine And.intro (elo (eUses_len us)) ?_; refine And.intro (elv (eUses_getD us j) (eUse_eq _)) ?_; refine dcl (hT) ?_; refine hK _ _ (by kernel_rfl) ?_; clear hK K; refine dw_seq ?_; refine dw_seq ?_; refine dwk [(98, .v (.bool false))] TRE_ok hnt fun K hK => ?_; refine And.intro (bneF he) ?_
       refine hK _ _ ?_; clear hK K; refine dw_cond (t := false) rfl ?_; rw [if_neg (by simp)]
       cases hbf : Pn.bfind b us[j].mt with
       | some z =>
        rw [hbf] at hG hstu
        dsimp only at hG hstu
        rw [eTm_eq] at hG
        have hS := same2_d y z
        rw [eTm_eq, eTm_eq] at hS
        refine dw_skip ?_; refine dw_seq ?_; refine dwk [(100, .sl 5 (ePairs b) none), (103, .q [.v (.int .i64 us[j].mt), .sl 1 (eIs us[j].vars) none, .sl 2 (eTys us[j].binds) none, .sl 1 (eIs us[j].path) none])] TRE_ok hnt fun K hK => ?_; refine And.intro (VLe.untag _ _ _) ?_; refine And.intro (elo (eUses_len us)) ?_; refine And.intro (elv (eUses_getD us j) (eUse_eq _)) ?_; refine dcl (hG) ?_; refine hK _ _ ?_; clear hK K
        by_cases hyz : y = z
        ·rw [decide_eq_true hyz] at hS
         rw [if_pos hyz] at hstu; refine dw_seq ?_; refine dw_seq ?_; refine dwk [] TRE_ok hnt fun K hK => ?_; refine dcl (hS) ?_; refine hK _ _ ?_; clear hK K; refine dw_cond (t := false) rfl ?_; rw [if_neg (by simp)]; refine dw_skip ?_; refine dw_seq ?_; refine dwk [] TRE_ok hnt fun K hK => ?_; refine hK _ _ ?_; clear hK K; refine dw_cond (t := false) rfl ?_; rw [if_neg (by simp)]; refine dw_skip ?_; refine dwk [(65, .v (.int .i64 (↑(j + 1))))] TRE_ok hnt fun K hK => ?_
         refine And.intro auI ?_; refine hK _ _ ?_; clear hK K
         refine ⟨⟨(j + 1, b), hstu.1, by dsimp only; omega, hltu⟩, by first | omega | (dsimp only; omega), VS.toA⟩
        ·rw [decide_eq_false hyz] at hS
         rw [if_neg hyz] at hstu
         have hv : Pn.mAll l = ([], 9) := by rw [href, hst.2 (hstu.2 rfl)]
         rw [hv]
         refine dw_seq ?_; refine dw_seq ?_; refine dwk [] TRE_ok hnt fun K hK => ?_; refine dcl (hS) ?_; refine hK _ _ ?_; clear hK K; refine dw_cond (t := true) rfl ?_; rw [if_pos rfl]; refine dw_seq ?_; refine dwk [] TRE_ok hnt fun K hK => ?_; refine hK _ _ ?_; clear hK K; refine dw_ret ?_
         exact reta rfl
       | none =>
        rw [hbf] at hG hstu
        dsimp only at hG hstu
        rw [eTm_eq] at hG
        have hsn := ePairs_snoc' b (us[j].mt, y)
        dsimp only at hsn
        have hso := rsortedN_d (b ++ [(us[j].mt, y)]) (by simp; omega)
        have hsl2 : (So.ss (b ++ [(us[j].mt, y)])).length = b.length + 1 := by rw [So.ss_len]; simp
        obtain ⟨b2, hb2⟩ : ∃ b2, So.ss (b ++ [(us[j].mt, y)]) = b2 := ⟨_, rfl⟩
        rw [hb2] at hso hstu hsl2
        have hbl3 : (b ++ [(us[j].mt, y)]).length = b2.length := by rw [hsl2]; simp
        rw [hbl3] at hso
        refine dw_skip ?_; refine dw_seq ?_; refine dwk [(100, .sl 5 (ePairs b) none), (103, .q [.v (.int .i64 us[j].mt), .sl 1 (eIs us[j].vars) none, .sl 2 (eTys us[j].binds) none, .sl 1 (eIs us[j].path) none])] TRE_ok hnt fun K hK => ?_; refine And.intro (VLe.untag _ _ _) ?_; refine And.intro (elo (eUses_len us)) ?_; refine And.intro (elv (eUses_getD us j) (eUse_eq _)) ?_; refine dcl (hG) ?_; refine hK _ _ ?_; clear hK K
        refine dw_seq ?_; refine dw_seq ?_; refine dwk [] TRE_ok hnt fun K hK => ?_; refine hK _ _ ?_; clear hK K; refine dw_cond (t := false) rfl ?_; rw [if_neg (by simp)]; refine dw_skip ?_; refine dw_seq ?_; refine dwk [] TRE_ok hnt fun K hK => ?_; refine hK _ _ ?_; clear hK K; refine dw_cond (t := true) rfl ?_; rw [if_pos rfl]; refine dwkD [(121, .q [.v (.int .i64 us[j].mt), .sl 1 (eIs us[j].vars) none, .sl 2 (eTys us[j].binds) none, .sl 1 (eIs us[j].path) none]), (127, .sl 5 (ePairs (b ++ [(us[j].mt, y)])) none)] TRE_ok hnt fun K hK => ?_
        refine And.intro (elo (eUses_len us)) ?_; refine And.intro (elv (eUses_getD us j) (eUse_eq _)) ?_; refine And.intro (⟨by rw [ePairs_len], by rw [ePairs_len]; simp; omega⟩) ?_; refine And.intro ((by rw [← hsn]; exact VLe.untag _ _ _)) ?_; refine dcn (hso _) ?_; refine hK _ _ (by kernel_rfl) ?_; clear hK K; refine dwk [(65, .v (.int .i64 (↑(j + 1))))] TRE_ok hnt fun K hK => ?_; refine And.intro auI ?_
        refine hK _ _ ?_; clear hK K
        refine ⟨⟨(j + 1, b2), hstu.1, by dsimp only; omega, hltu⟩, by dsimp only; omega, ?_⟩
        dsimp only
        exact VS.rowAs (x := 6) (k := 83) (g := 5) (n := 5) [(.t 0, .sl 8 (ePPs l) none), (.t 7, .v (.int .i64 ↑k)), (.t 8, .sl 4 (eUses us) none), (.t 10, .v (.int .i64 ↑(j + 1)))] hn0 rfl rfl (by decide) (ePairs_ok _ _ _) (by simp [D.ok, ePPs_ok, eUses_ok]) (by intro p hp; simp only [List.mem_cons, List.not_mem_nil, or_false] at hp; rcases hp with rfl | rfl | rfl | rfl <;> exact .inl rfl)
      ·rw [if_neg he] at hstu
       have hv : Pn.mAll l = ([], 9) := by rw [href, hst.2 (hstu.2 rfl)]
       rw [hv]
       refine dw_seq ?_; refine dwkD [(83, .ag [.sl 2 [] none, .v (.int .i64 x.kind), .v (.int .i64 x.index), .sl 4 (eTms x.args) none]), (86, .q [.v (.int .i64 us[j].mt), .sl 1 (eIs us[j].vars) none, .sl 2 (eTys us[j].binds) none, .sl 1 (eIs us[j].path) none]), (91, .q [.v (.int .i64 us[j].mt), .sl 1 (eIs us[j].vars) none, .sl 2 (eTys us[j].binds) none, .sl 1 (eIs us[j].path) none])] TRE_ok hnt fun K hK => ?_
       refine And.intro (auV) ?_; refine And.intro (elo (eUses_len us)) ?_; refine And.intro (elv (eUses_getD us j) (eUse_eq _)) ?_; refine And.intro (elo (eUses_len us)) ?_; refine And.intro (elv (eUses_getD us j) (eUse_eq _)) ?_; refine dcl (hT) ?_; refine hK _ _ (by kernel_rfl) ?_; clear hK K; refine dw_seq ?_; refine dw_seq ?_; refine dwk [(98, .v (.bool true))] TRE_ok hnt fun K hK => ?_; refine And.intro (bneT he) ?_
       refine hK _ _ ?_; clear hK K; refine dw_cond (t := true) rfl ?_; rw [if_pos rfl]; refine dw_seq ?_; refine dwk [] TRE_ok hnt fun K hK => ?_; refine hK _ _ ?_; clear hK K; refine dw_ret ?_
       exact reta rfl
     ·rw [List.take_of_length_le (by omega)] at hb
      rw [hb] at hst
      refine dw_seq ?_; refine dw_seq ?_; refine dwk [(62, .v (.int .i64 (↑us.length))), (63, .v (.bool false))] TRE_ok hnt fun K hK => ?_; refine And.intro (dintE (by rw [eUses_len])) ?_; refine And.intro auF ?_; refine hK _ _ ?_; clear hK K; refine dw_cond (t := false) rfl ?_; rw [if_neg (by simp)]; refine dw_exit ?_; refine dwk [(38, .v (.int .i64 (↑(k + 1))))] TRE_ok hnt fun K hK => ?_; refine And.intro auI ?_
      refine hK _ _ ?_; clear hK K
      refine ⟨⟨(k + 1, b), hst.1, by dsimp only; omega, hlt⟩, by first | omega | (dsimp only; omega), VS.toA⟩
   ·rw [List.take_of_length_le (by omega)] at hs
    have hv : Pn.mAll l = (s, 0) := by rw [href, hs]
    rw [hv]
    refine dw_seq ?_; refine dw_seq ?_; refine dwk [(35, .v (.int .i64 (↑l.length))), (36, .v (.bool false))] TRE_ok hnt fun K hK => ?_; refine And.intro (dintE (by rw [ePPs_len])) ?_; refine And.intro auF ?_; refine hK _ _ ?_; clear hK K; refine dw_cond (t := false) rfl ?_; rw [if_neg (by simp)]; refine dw_exit ?_; refine dw_seq ?_; refine dwk [] TRE_ok hnt fun K hK => ?_; refine hK _ _ ?_; clear hK K
    refine dw_ret ?_
    exact reta rfl
end Go.Proofs.Ytcblpjheoclkeaa

namespace Go.Proofs.Ytcblpjheoclkeaa
open Go.RowKit
def TTO_3 : TI := ⟨1, false, [Value.int IntKind.i64 0], [], none, 8, 2, none, false⟩
theorem TTO_3_ok : TypOk Try.prog 3 TTO_3 := ⟨by kernel_rfl, by kernel_rfl, by kernel_rfl, by kernel_rfl, by kernel_rfl⟩
def TTO_123 : TI := ⟨2, true, [Value.slice none 0 0, Value.int IntKind.i64 0], [(0, 1, false), (1, 1, false)], none, 32, 6, none, false⟩
theorem TTO_123_ok : TypOk Try.prog 123 TTO_123 := ⟨by kernel_rfl, by kernel_rfl, by kernel_rfl, by kernel_rfl, by kernel_rfl⟩
def TTO_83 : TI := ⟨2, true, [Value.slice none 0 0, Value.int IntKind.i64 0], [(0, 1, false), (1, 1, false)], none, 32, 6, none, false⟩
theorem TTO_83_ok : TypOk Try.prog 83 TTO_83 := ⟨by kernel_rfl, by kernel_rfl, by kernel_rfl, by kernel_rfl, by kernel_rfl⟩
def TTO_27 : TI := ⟨4, true, [Value.slice none 0 0, Value.int IntKind.i64 0, Value.int IntKind.i64 0, Value.slice none 0 0], [(0, 1, false), (1, 2, true), (3, 1, false)], none, 64, 6, none, false⟩
theorem TTO_27_ok : TypOk Try.prog 27 TTO_27 := ⟨by kernel_rfl, by kernel_rfl, by kernel_rfl, by kernel_rfl, by kernel_rfl⟩
def TTO_34 : TI := ⟨4, true, [Value.slice none 0 0, Value.int IntKind.i64 0, Value.int IntKind.i64 0, Value.slice none 0 0], [(0, 1, false), (1, 2, true), (3, 1, false)], none, 64, 6, none, false⟩
theorem TTO_34_ok : TypOk Try.prog 34 TTO_34 := ⟨by kernel_rfl, by kernel_rfl, by kernel_rfl, by kernel_rfl, by kernel_rfl⟩
def TTO_22 : TI := ⟨1, false, [Value.slice none 0 0], [], some 123, 24, 5, none, false⟩
theorem TTO_22_ok : TypOk Try.prog 22 TTO_22 := ⟨by kernel_rfl, by kernel_rfl, by kernel_rfl, by kernel_rfl, by kernel_rfl⟩
def TTO_30 : TI := ⟨1, false, [Value.slice none 0 0], [], some 83, 24, 5, none, false⟩
theorem TTO_30_ok : TypOk Try.prog 30 TTO_30 := ⟨by kernel_rfl, by kernel_rfl, by kernel_rfl, by kernel_rfl, by kernel_rfl⟩
def TTO_25 : TI := ⟨1, false, [Value.slice none 0 0], [], some 27, 24, 5, none, false⟩
theorem TTO_25_ok : TypOk Try.prog 25 TTO_25 := ⟨by kernel_rfl, by kernel_rfl, by kernel_rfl, by kernel_rfl, by kernel_rfl⟩
def TTO_32 : TI := ⟨1, false, [Value.slice none 0 0], [], some 34, 24, 5, none, false⟩
theorem TTO_32_ok : TypOk Try.prog 32 TTO_32 := ⟨by kernel_rfl, by kernel_rfl, by kernel_rfl, by kernel_rfl, by kernel_rfl⟩
def TTO_24 : TI := ⟨2, true, [Value.int IntKind.i64 0, Value.int IntKind.i64 0], [(0, 1, false), (1, 1, false)], none, 16, 6, none, true⟩
theorem TTO_24_ok : TypOk Try.prog 24 TTO_24 := ⟨by kernel_rfl, by kernel_rfl, by kernel_rfl, by kernel_rfl, by kernel_rfl⟩
def TTO_31 : TI := ⟨2, true, [Value.int IntKind.i64 0, Value.int IntKind.i64 0], [(0, 1, false), (1, 1, false)], none, 16, 6, none, true⟩
theorem TTO_31_ok : TypOk Try.prog 31 TTO_31 := ⟨by kernel_rfl, by kernel_rfl, by kernel_rfl, by kernel_rfl, by kernel_rfl⟩
def TTO : List (Nat × TI) := [(3, TTO_3), (123, TTO_123), (83, TTO_83), (27, TTO_27), (34, TTO_34), (22, TTO_22), (30, TTO_30), (25, TTO_25), (32, TTO_32), (24, TTO_24), (31, TTO_31)]
theorem TTO_ok : TabOk Try.prog TTO := ((((((((((((TabOk.nil _).cons TTO_31_ok).cons TTO_24_ok).cons TTO_32_ok).cons TTO_25_ok).cons TTO_30_ok).cons TTO_22_ok).cons TTO_34_ok).cons TTO_27_ok).cons TTO_83_ok).cons TTO_123_ok).cons TTO_3_ok)
theorem eTys_tlen (l : List Ty) (j : Nat) (h : j ≤ l.length) : (eTys (l.take j)).length = j := by rw [eTys_len, List.length_take]; omega
theorem eTms_tlen (l : List Tm) (j : Nat) (h : j ≤ l.length) : (eTms (l.take j)).length = j := by rw [eTms_len, List.length_take]; omega
theorem to4D_d : ∀ t : Ty, t.size ≤ 900000 → PureC Try.prog 64 [.ag (eTy t)] (.ag (eTy t)) := by
 intro t
 induction t using Ty.ind with
 | h ar base ih =>
  intro hz
  rw [Ty.size_eq] at hz
  have hal := Ty.le_sizes ar
  rw [eTy_eq]
  dsimp only [Ty.args, Ty.base]
  refine calldw 0 27 [ResultVar.cell 2 83] TTO_ok Try.func64 rfl Try.ntmps64 rfl fun cx hnt hn0 => ?_
  ·skip
   refine dw_seq ?_; refine dwk [] TTO_ok hnt fun K hK => ?_; refine hK _ _ ?_; clear hK K; refine dw_seq ?_; refine dwk [] TTO_ok hnt fun K hK => ?_; refine hK _ _ ?_; clear hK K
   refine DW.vs (VS.row (k := 5) (off := 0) 83 2 rfl) ?_
   refine dw_seq ?_; refine dw_seq ?_; refine dwk [] TTO_ok hnt fun K hK => ?_; refine hK _ _ ?_; clear hK K; refine dw_block ?_
   refine dw_loop (ι := { j : Nat // j ≤ ar.length }) (fun j => [(.t 1, .p 0 0), (.t 2, .p 1 0), (.t 3, .p 5 0), (.t 4, .v (.int .i64 ↑j.1)), (.c 0 0, .sl 2 (eTys ar) none), (.c 0 1, .v (.int .i64 base)), (.c 1 0, .v (.slice none 0 0)), (.c 1 1, .v (.int .i64 0)), (.c 5 0, .sl 2 (eTys (ar.take j.1)) (some 7)), (.c 5 1, .v (.int .i64 base)), (.r 7, .rw 83 2 j.1)]) 8 (fun j => ar.length - j.1) (⟨0, Nat.zero_le _⟩) ((VS.toK (by omega) (by repeat first | exact trivial | refine And.intro (And.intro (by first | rfl | simp [D.ok, D.oks, D.okss, D.okm, upto, keyOk, argsT]) (by first | exact Or.inl rfl | exact Or.inr ⟨_, rfl, (by repeat first | exact VLe.refl _ | exact VLe.nil _ | exact VLe.untag _ _ _ | refine VLe.ag ?_ | refine VLe.tu ?_ | refine VLeL.cons ?_ ?_ | exact VLeL.nil), trivial⟩ | simp [get, Key.eq, argsT])) ?_))) fun j => ?_
   obtain ⟨j, hj⟩ := j
   dsimp only
   by_cases hlt : j < ar.length
   ·have hmem := List.getElem_mem hlt
    have hsz := Ty.size_mem hmem
    have hc := ih _ hmem (by omega)
    rw [eTy_eq] at hc
    have hl1 := eTys_tlen ar j hj
    have hl2 := eTys_tlen ar (j + 1) hlt
    refine dw_seq ?_; refine dw_seq ?_; refine dwk [(11, .v (.int .i64 (↑ar.length))), (12, .v (.bool true))] TTO_ok hnt fun K hK => ?_; refine And.intro (dintE (by rw [eTys_len])) ?_; refine And.intro auT ?_; refine hK _ _ ?_; clear hK K; refine dw_cond (t := true) rfl ?_; rw [if_pos rfl]; refine dw_skip ?_; refine dw_seq ?_; refine dw_block ?_; refine dwkD [(20, .q [.sl 2 (eTys ar[j].args) none, .v (.int .i64 ar[j].base)])] TTO_ok hnt fun K hK => ?_
    refine And.intro (elo (eTys_len ar)) ?_; refine And.intro (elv (eTys_getD ar j) (eTy_eq _)) ?_; refine dcl (hc) ?_; refine And.intro (⟨by omega, by rw [hl1]; simp; omega⟩) ?_; refine hK _ _ (by kernel_rfl) ?_; clear hK K
    rw [eTys_snoc ar j hlt, hl2]
    refine dwk [(14, .v (.int .i64 (↑(j + 1))))] TTO_ok hnt fun K hK => ?_; refine And.intro auI ?_; refine hK _ _ ?_; clear hK K
    refine ⟨⟨j + 1, hlt⟩, by first | omega | (dsimp only; omega), VS.toA⟩
   ·rw [List.take_of_length_le (by omega)]
    refine dw_seq ?_; refine dw_seq ?_; refine dwk [(11, .v (.int .i64 (↑ar.length))), (12, .v (.bool false))] TTO_ok hnt fun K hK => ?_; refine And.intro (dintE (by rw [eTys_len])) ?_; refine And.intro auF ?_; refine hK _ _ ?_; clear hK K; refine dw_cond (t := false) rfl ?_; rw [if_neg (by simp)]; refine dw_exit ?_; refine dw_seq ?_; refine dwk [] TTO_ok hnt fun K hK => ?_; refine hK _ _ ?_; clear hK K
    refine dw_ret ?_
    exact reta rfl
theorem of4D_d : ∀ t : Ty, t.size ≤ 900000 → PureC Try.prog 82 [.ag (eTy t)] (.ag (eTy t)) := by
 intro t
 induction t using Ty.ind with
 | h ar base ih =>
  intro hz
  rw [Ty.size_eq] at hz
  have hal := Ty.le_sizes ar
  rw [eTy_eq]
  dsimp only [Ty.args, Ty.base]
  refine calldw 0 27 [ResultVar.cell 2 123] TTO_ok Try.func82 rfl Try.ntmps82 rfl fun cx hnt hn0 => ?_
  ·skip
   refine dw_seq ?_; refine dwk [] TTO_ok hnt fun K hK => ?_; refine hK _ _ ?_; clear hK K; refine dw_seq ?_; refine dwk [] TTO_ok hnt fun K hK => ?_; refine hK _ _ ?_; clear hK K
   refine DW.vs (VS.row (k := 5) (off := 0) 123 2 rfl) ?_
   refine dw_seq ?_; refine dw_seq ?_; refine dwk [] TTO_ok hnt fun K hK => ?_; refine hK _ _ ?_; clear hK K; refine dw_block ?_
   refine dw_loop (ι := { j : Nat // j ≤ ar.length }) (fun j => [(.t 1, .p 0 0), (.t 2, .p 1 0), (.t 3, .p 5 0), (.t 4, .v (.int .i64 ↑j.1)), (.c 0 0, .sl 2 (eTys ar) none), (.c 0 1, .v (.int .i64 base)), (.c 1 0, .v (.slice none 0 0)), (.c 1 1, .v (.int .i64 0)), (.c 5 0, .sl 2 (eTys (ar.take j.1)) (some 7)), (.c 5 1, .v (.int .i64 base)), (.r 7, .rw 123 2 j.1)]) 8 (fun j => ar.length - j.1) (⟨0, Nat.zero_le _⟩) ((VS.toK (by omega) (by repeat first | exact trivial | refine And.intro (And.intro (by first | rfl | simp [D.ok, D.oks, D.okss, D.okm, upto, keyOk, argsT]) (by first | exact Or.inl rfl | exact Or.inr ⟨_, rfl, (by repeat first | exact VLe.refl _ | exact VLe.nil _ | exact VLe.untag _ _ _ | refine VLe.ag ?_ | refine VLe.tu ?_ | refine VLeL.cons ?_ ?_ | exact VLeL.nil), trivial⟩ | simp [get, Key.eq, argsT])) ?_))) fun j => ?_
   obtain ⟨j, hj⟩ := j
   dsimp only
   by_cases hlt : j < ar.length
   ·have hmem := List.getElem_mem hlt
    have hsz := Ty.size_mem hmem
    have hc := ih _ hmem (by omega)
    rw [eTy_eq] at hc
    have hl1 := eTys_tlen ar j hj
    have hl2 := eTys_tlen ar (j + 1) hlt
    refine dw_seq ?_; refine dw_seq ?_; refine dwk [(11, .v (.int .i64 (↑ar.length))), (12, .v (.bool true))] TTO_ok hnt fun K hK => ?_; refine And.intro (dintE (by rw [eTys_len])) ?_; refine And.intro auT ?_; refine hK _ _ ?_; clear hK K; refine dw_cond (t := true) rfl ?_; rw [if_pos rfl]; refine dw_skip ?_; refine dw_seq ?_; refine dw_block ?_; refine dwkD [(20, .q [.sl 2 (eTys ar[j].args) none, .v (.int .i64 ar[j].base)])] TTO_ok hnt fun K hK => ?_
    refine And.intro (elo (eTys_len ar)) ?_; refine And.intro (elv (eTys_getD ar j) (eTy_eq _)) ?_; refine dcl (hc) ?_; refine And.intro (⟨by omega, by rw [hl1]; simp; omega⟩) ?_; refine hK _ _ (by kernel_rfl) ?_; clear hK K
    rw [eTys_snoc ar j hlt, hl2]
    refine dwk [(14, .v (.int .i64 (↑(j + 1))))] TTO_ok hnt fun K hK => ?_; refine And.intro auI ?_; refine hK _ _ ?_; clear hK K
    refine ⟨⟨j + 1, hlt⟩, by first | omega | (dsimp only; omega), VS.toA⟩
   ·rw [List.take_of_length_le (by omega)]
    refine dw_seq ?_; refine dw_seq ?_; refine dwk [(11, .v (.int .i64 (↑ar.length))), (12, .v (.bool false))] TTO_ok hnt fun K hK => ?_; refine And.intro (dintE (by rw [eTys_len])) ?_; refine And.intro auF ?_; refine hK _ _ ?_; clear hK K; refine dw_cond (t := false) rfl ?_; rw [if_neg (by simp)]; refine dw_exit ?_; refine dw_seq ?_; refine dwk [] TTO_ok hnt fun K hK => ?_; refine hK _ _ ?_; clear hK K
    refine dw_ret ?_
    exact reta rfl
theorem toTys_d (l : List Ty) (hz : Ty.sizes l ≤ 900000) : PureC Try.prog 29 [.sl 2 (eTys l) none] (.sl 2 (eTys l) none) := by
 have hal := Ty.le_sizes l
 refine calldw 0 20 [ResultVar.tmp 2] TTO_ok Try.func29 rfl Try.ntmps29 rfl fun cx hnt hn0 => ?_
 ·skip
  refine dw_seq ?_; refine dwk [] TTO_ok hnt fun K hK => ?_; refine hK _ _ ?_; clear hK K
  refine dw_cut (τ := [(.t 0, .sl 2 (eTys l) none), (.t 3, .v (.slice none 0 0))]) (N1 := 0) ?_ ?_
  ·skip
   refine dwk [] TTO_ok hnt fun K hK => ?_; refine hK _ _ ?_; clear hK K
   exact cut_ok (VS.toK (by omega) (by repeat first | exact trivial | refine And.intro (And.intro (by first | rfl | simp [D.ok, D.oks, D.okss, D.okm, upto, keyOk, argsT]) (by first | exact Or.inl rfl | exact Or.inr ⟨_, rfl, (by repeat first | exact VLe.refl _ | exact VLe.nil _ | exact VLe.untag _ _ _ | refine VLe.ag ?_ | refine VLe.tu ?_ | refine VLeL.cons ?_ ?_ | exact VLeL.nil), trivial⟩ | simp [get, Key.eq, argsT])) ?_))
  ·refine DW.vs (VS.rowT (x := 3) (by rw [hnt]; decide) 83 2 rfl) ?_
   refine dw_seq ?_; refine dw_seq ?_; refine dwk [] TTO_ok hnt fun K hK => ?_; refine hK _ _ ?_; clear hK K; refine dw_block ?_
   refine dw_loop (ι := { j : Nat // j ≤ l.length }) (fun j => [(.t 0, .sl 2 (eTys l) none), (.t 3, .sl 2 (eTys (l.take j.1)) (some 0)), (.t 4, .v (.int .i64 ↑j.1)), (.r 0, .rw 83 2 j.1)]) 1 (fun j => l.length - j.1) (⟨0, Nat.zero_le _⟩) ((VS.toK (by omega) (by repeat first | exact trivial | refine And.intro (And.intro (by first | rfl | simp [D.ok, D.oks, D.okss, D.okm, upto, keyOk, argsT]) (by first | exact Or.inl rfl | exact Or.inr ⟨_, rfl, (by repeat first | exact VLe.refl _ | exact VLe.nil _ | exact VLe.untag _ _ _ | refine VLe.ag ?_ | refine VLe.tu ?_ | refine VLeL.cons ?_ ?_ | exact VLeL.nil), trivial⟩ | simp [get, Key.eq, argsT])) ?_))) fun j => ?_
   obtain ⟨j, hj⟩ := j
   dsimp only
   by_cases hlt : j < l.length
   ·have hsz := Ty.size_mem (List.getElem_mem hlt)
    have hc := to4D_d l[j] (by omega)
    rw [eTy_eq] at hc
    have hl1 := eTys_tlen l j hj
    have hl2 := eTys_tlen l (j + 1) hlt
    refine dw_seq ?_; refine dw_seq ?_; refine dwk [(7, .v (.int .i64 (↑l.length))), (8, .v (.bool true))] TTO_ok hnt fun K hK => ?_; refine And.intro (dintE (by rw [eTys_len])) ?_; refine And.intro auT ?_; refine hK _ _ ?_; clear hK K; refine dw_cond (t := true) rfl ?_; rw [if_pos rfl]; refine dw_skip ?_; refine dw_seq ?_; refine dw_block ?_; refine dwk [(14, .q [.sl 2 (eTys l[j].args) none, .v (.int .i64 l[j].base)])] TTO_ok hnt fun K hK => ?_
    refine And.intro (elo (eTys_len l)) ?_; refine And.intro (elv (eTys_getD l j) (eTy_eq _)) ?_; refine dcl (hc) ?_; refine And.intro (⟨by omega, by rw [hl1]; simp; omega⟩) ?_; refine hK _ _ ?_; clear hK K
    rw [eTys_snoc l j hlt, hl2]
    refine dwk [(10, .v (.int .i64 (↑(j + 1))))] TTO_ok hnt fun K hK => ?_; refine And.intro auI ?_; refine hK _ _ ?_; clear hK K
    refine ⟨⟨j + 1, hlt⟩, by first | omega | (dsimp only; omega), VS.toA⟩
   ·rw [List.take_of_length_le (by omega)]
    refine dw_seq ?_; refine dw_seq ?_; refine dwk [(7, .v (.int .i64 (↑l.length))), (8, .v (.bool false))] TTO_ok hnt fun K hK => ?_; refine And.intro (dintE (by rw [eTys_len])) ?_; refine And.intro auF ?_; refine hK _ _ ?_; clear hK K; refine dw_cond (t := false) rfl ?_; rw [if_neg (by simp)]; refine dw_exit ?_; refine dw_seq ?_; refine dwk [] TTO_ok hnt fun K hK => ?_; refine hK _ _ ?_; clear hK K; refine dw_ret ?_
    exact reta rfl
theorem ofTys_d (l : List Ty) (hz : Ty.sizes l ≤ 900000) : PureC Try.prog 46 [.sl 2 (eTys l) none] (.sl 2 (eTys l) none) := by
 have hal := Ty.le_sizes l
 refine calldw 0 20 [ResultVar.tmp 2] TTO_ok Try.func46 rfl Try.ntmps46 rfl fun cx hnt hn0 => ?_
 ·skip
  refine dw_seq ?_; refine dwk [] TTO_ok hnt fun K hK => ?_; refine hK _ _ ?_; clear hK K
  refine dw_cut (τ := [(.t 0, .sl 2 (eTys l) none), (.t 3, .v (.slice none 0 0))]) (N1 := 0) ?_ ?_
  ·skip
   refine dwk [] TTO_ok hnt fun K hK => ?_; refine hK _ _ ?_; clear hK K
   exact cut_ok (VS.toK (by omega) (by repeat first | exact trivial | refine And.intro (And.intro (by first | rfl | simp [D.ok, D.oks, D.okss, D.okm, upto, keyOk, argsT]) (by first | exact Or.inl rfl | exact Or.inr ⟨_, rfl, (by repeat first | exact VLe.refl _ | exact VLe.nil _ | exact VLe.untag _ _ _ | refine VLe.ag ?_ | refine VLe.tu ?_ | refine VLeL.cons ?_ ?_ | exact VLeL.nil), trivial⟩ | simp [get, Key.eq, argsT])) ?_))
  ·refine DW.vs (VS.rowT (x := 3) (by rw [hnt]; decide) 123 2 rfl) ?_
   refine dw_seq ?_; refine dw_seq ?_; refine dwk [] TTO_ok hnt fun K hK => ?_; refine hK _ _ ?_; clear hK K; refine dw_block ?_
   refine dw_loop (ι := { j : Nat // j ≤ l.length }) (fun j => [(.t 0, .sl 2 (eTys l) none), (.t 3, .sl 2 (eTys (l.take j.1)) (some 0)), (.t 4, .v (.int .i64 ↑j.1)), (.r 0, .rw 123 2 j.1)]) 1 (fun j => l.length - j.1) (⟨0, Nat.zero_le _⟩) ((VS.toK (by omega) (by repeat first | exact trivial | refine And.intro (And.intro (by first | rfl | simp [D.ok, D.oks, D.okss, D.okm, upto, keyOk, argsT]) (by first | exact Or.inl rfl | exact Or.inr ⟨_, rfl, (by repeat first | exact VLe.refl _ | exact VLe.nil _ | exact VLe.untag _ _ _ | refine VLe.ag ?_ | refine VLe.tu ?_ | refine VLeL.cons ?_ ?_ | exact VLeL.nil), trivial⟩ | simp [get, Key.eq, argsT])) ?_))) fun j => ?_
   obtain ⟨j, hj⟩ := j
   dsimp only
   by_cases hlt : j < l.length
   ·have hsz := Ty.size_mem (List.getElem_mem hlt)
    have hc := of4D_d l[j] (by omega)
    rw [eTy_eq] at hc
    have hl1 := eTys_tlen l j hj
    have hl2 := eTys_tlen l (j + 1) hlt
    refine dw_seq ?_; refine dw_seq ?_; refine dwk [(7, .v (.int .i64 (↑l.length))), (8, .v (.bool true))] TTO_ok hnt fun K hK => ?_; refine And.intro (dintE (by rw [eTys_len])) ?_; refine And.intro auT ?_; refine hK _ _ ?_; clear hK K; refine dw_cond (t := true) rfl ?_; rw [if_pos rfl]; refine dw_skip ?_; refine dw_seq ?_; refine dw_block ?_; refine dwk [(14, .q [.sl 2 (eTys l[j].args) none, .v (.int .i64 l[j].base)])] TTO_ok hnt fun K hK => ?_
    refine And.intro (elo (eTys_len l)) ?_; refine And.intro (elv (eTys_getD l j) (eTy_eq _)) ?_; refine dcl (hc) ?_; refine And.intro (⟨by omega, by rw [hl1]; simp; omega⟩) ?_; refine hK _ _ ?_; clear hK K
    rw [eTys_snoc l j hlt, hl2]
    refine dwk [(10, .v (.int .i64 (↑(j + 1))))] TTO_ok hnt fun K hK => ?_; refine And.intro auI ?_; refine hK _ _ ?_; clear hK K
    refine ⟨⟨j + 1, hlt⟩, by first | omega | (dsimp only; omega), VS.toA⟩
   ·rw [List.take_of_length_le (by omega)]
    refine dw_seq ?_; refine dw_seq ?_; refine dwk [(7, .v (.int .i64 (↑l.length))), (8, .v (.bool false))] TTO_ok hnt fun K hK => ?_; refine And.intro (dintE (by rw [eTys_len])) ?_; refine And.intro auF ?_; refine hK _ _ ?_; clear hK K; refine dw_cond (t := false) rfl ?_; rw [if_neg (by simp)]; refine dw_exit ?_; refine dw_seq ?_; refine dwk [] TTO_ok hnt fun K hK => ?_; refine hK _ _ ?_; clear hK K; refine dw_ret ?_
    exact reta rfl
theorem to6D_d : ∀ t : Tm, t.full ≤ 900000 → PureC Try.prog 9 [.ag (eTm t)] (.ag (eTm t)) := by
  intro t
  induction t using Tm.ind with
  | h bs k i ar ih =>
    intro hz
    rw [Tm.full_eq] at hz
    have hbs := toTys_d bs (by omega)
    have hal : ar.length ≤ Tm.fulls ar := by
      clear ih hz
      induction ar with
      | nil => simp
      | cons u l ih => have : 1 ≤ u.full := by obtain ⟨b, k, i, a⟩ := u; rw [Tm.full_eq]; omega
                       simp only [List.length_cons, Tm.fulls]; omega
    rw [eTm_eq]
    dsimp only [Tm.binds, Tm.kind, Tm.index, Tm.args]
    refine calldw 0 35 [ResultVar.cell 2 34] TTO_ok Try.func9 rfl Try.ntmps9 rfl fun cx hnt hn0 => ?_
    · skip
      refine dw_seq ?_
      refine dwk [] TTO_ok hnt fun K hK => ?_
      refine hK _ _ ?_; clear hK K
      refine dw_seq ?_
      refine dwkD [] TTO_ok hnt fun K hK => ?_
      refine dcl (hbs) ?_
      refine hK _ _ (by kernel_rfl) ?_; clear hK K
      refine DW.vs (VS.row (k := 13) (off := 3) 34 4 rfl) ?_
      refine dw_seq ?_
      refine dw_seq ?_
      refine dwk [] TTO_ok hnt fun K hK => ?_
      refine hK _ _ ?_; clear hK K
      refine dw_block ?_
      refine dw_loop (ι := { j : Nat // j ≤ ar.length }) (fun j => [(.t 1, .p 0 0), (.t 2, .p 1 0), (.t 3, .p 13 0), (.t 4, .v (.int .i64 ↑j.1)), (.c 0 0, .sl 2 (eTys bs) none), (.c 0 1, .v (.int .i64 k)), (.c 0 2, .v (.int .i64 i)), (.c 0 3, .sl 4 (eTms ar) none), (.c 1 0, .v (.slice none 0 0)), (.c 1 1, .v (.int .i64 0)), (.c 1 2, .v (.int .i64 0)), (.c 1 3, .v (.slice none 0 0)), (.c 13 0, .sl 2 (eTys bs) none), (.c 13 1, .v (.int .i64 k)), (.c 13 2, .v (.int .i64 i)), (.c 13 3, .sl 4 (eTms (ar.take j.1)) (some 15)), (.r 15, .rw 34 4 j.1)]) 16 (fun j => ar.length - j.1) (⟨0, Nat.zero_le _⟩) ((VS.toK (by omega) (by repeat first | exact trivial | refine And.intro (And.intro (by first | rfl | simp [D.ok, D.oks, D.okss, D.okm, upto, keyOk, argsT]) (by first | exact Or.inl rfl | exact Or.inr ⟨_, rfl, (by repeat first | exact VLe.refl _ | exact VLe.nil _ | exact VLe.untag _ _ _ | refine VLe.ag ?_ | refine VLe.tu ?_ | refine VLeL.cons ?_ ?_ | exact VLeL.nil), trivial⟩ | simp [get, Key.eq, argsT])) ?_))) fun j => ?_
      obtain ⟨j, hj⟩ := j
      dsimp only
      by_cases hlt : j < ar.length
      · have hmem := List.getElem_mem hlt
        have hsz := Tm.full_mem hmem
        have hc := ih _ hmem (by omega)
        rw [eTm_eq] at hc
        have hl1 := eTms_tlen ar j hj
        have hl2 := eTms_tlen ar (j + 1) hlt
        refine dw_seq ?_
        refine dw_seq ?_
        refine dwk [(19, .v (.int .i64 (↑ar.length))), (20, .v (.bool true))] TTO_ok hnt fun K hK => ?_
        refine And.intro (dintE (by rw [eTms_len])) ?_
        refine And.intro auT ?_
        refine hK _ _ ?_; clear hK K
        refine dw_cond (t := true) rfl ?_
        rw [if_pos rfl]
        refine dw_skip ?_
        refine dw_seq ?_
        refine dw_block ?_
        refine dwkD [(28, .q [.sl 2 (eTys ar[j].binds) none, .v (.int .i64 ar[j].kind), .v (.int .i64 ar[j].index), .sl 4 (eTms ar[j].args) none])] TTO_ok hnt fun K hK => ?_
        refine And.intro (elo (eTms_len ar)) ?_
        refine And.intro (elv (eTms_getD ar j) (eTm_eq _)) ?_
        refine dcl (hc) ?_
        refine And.intro (⟨by omega, by rw [hl1]; simp; omega⟩) ?_
        refine hK _ _ (by kernel_rfl) ?_; clear hK K
        rw [eTms_snoc ar j hlt, hl2]
        refine dwk [(22, .v (.int .i64 (↑(j + 1))))] TTO_ok hnt fun K hK => ?_
        refine And.intro auI ?_
        refine hK _ _ ?_; clear hK K
        refine ⟨⟨j + 1, hlt⟩, by first | omega | (dsimp only; omega), VS.toA⟩
      · rw [List.take_of_length_le (by omega)]
        refine dw_seq ?_
        refine dw_seq ?_
        refine dwk [(19, .v (.int .i64 (↑ar.length))), (20, .v (.bool false))] TTO_ok hnt fun K hK => ?_
        refine And.intro (dintE (by rw [eTms_len])) ?_
        refine And.intro auF ?_
        refine hK _ _ ?_; clear hK K
        refine dw_cond (t := false) rfl ?_
        rw [if_neg (by simp)]
        refine dw_exit ?_
        refine dw_seq ?_
        refine dwk [] TTO_ok hnt fun K hK => ?_
        refine hK _ _ ?_; clear hK K
        refine dw_ret ?_
        exact reta rfl
theorem of6D_d : ∀ t : Tm, t.full ≤ 900000 → PureC Try.prog 12 [.ag (eTm t)] (.ag (eTm t)) := by
  intro t
  induction t using Tm.ind with
  | h bs k i ar ih =>
    intro hz
    rw [Tm.full_eq] at hz
    have hbs := ofTys_d bs (by omega)
    have hal : ar.length ≤ Tm.fulls ar := by
      clear ih hz
      induction ar with
      | nil => simp
      | cons u l ih => have : 1 ≤ u.full := by obtain ⟨b, k, i, a⟩ := u; rw [Tm.full_eq]; omega
                       simp only [List.length_cons, Tm.fulls]; omega
    rw [eTm_eq]
    dsimp only [Tm.binds, Tm.kind, Tm.index, Tm.args]
    refine calldw 0 35 [ResultVar.cell 2 27] TTO_ok Try.func12 rfl Try.ntmps12 rfl fun cx hnt hn0 => ?_
    · skip
      refine dw_seq ?_
      refine dwk [] TTO_ok hnt fun K hK => ?_
      refine hK _ _ ?_; clear hK K
      refine dw_seq ?_
      refine dwkD [] TTO_ok hnt fun K hK => ?_
      refine dcl (hbs) ?_
      refine hK _ _ (by kernel_rfl) ?_; clear hK K
      refine DW.vs (VS.row (k := 13) (off := 3) 27 4 rfl) ?_
      refine dw_seq ?_
      refine dw_seq ?_
      refine dwk [] TTO_ok hnt fun K hK => ?_
      refine hK _ _ ?_; clear hK K
      refine dw_block ?_
      refine dw_loop (ι := { j : Nat // j ≤ ar.length }) (fun j => [(.t 1, .p 0 0), (.t 2, .p 1 0), (.t 3, .p 13 0), (.t 4, .v (.int .i64 ↑j.1)), (.c 0 0, .sl 2 (eTys bs) none), (.c 0 1, .v (.int .i64 k)), (.c 0 2, .v (.int .i64 i)), (.c 0 3, .sl 4 (eTms ar) none), (.c 1 0, .v (.slice none 0 0)), (.c 1 1, .v (.int .i64 0)), (.c 1 2, .v (.int .i64 0)), (.c 1 3, .v (.slice none 0 0)), (.c 13 0, .sl 2 (eTys bs) none), (.c 13 1, .v (.int .i64 k)), (.c 13 2, .v (.int .i64 i)), (.c 13 3, .sl 4 (eTms (ar.take j.1)) (some 15)), (.r 15, .rw 27 4 j.1)]) 16 (fun j => ar.length - j.1) (⟨0, Nat.zero_le _⟩) ((VS.toK (by omega) (by repeat first | exact trivial | refine And.intro (And.intro (by first | rfl | simp [D.ok, D.oks, D.okss, D.okm, upto, keyOk, argsT]) (by first | exact Or.inl rfl | exact Or.inr ⟨_, rfl, (by repeat first | exact VLe.refl _ | exact VLe.nil _ | exact VLe.untag _ _ _ | refine VLe.ag ?_ | refine VLe.tu ?_ | refine VLeL.cons ?_ ?_ | exact VLeL.nil), trivial⟩ | simp [get, Key.eq, argsT])) ?_))) fun j => ?_
      obtain ⟨j, hj⟩ := j
      dsimp only
      by_cases hlt : j < ar.length
      · have hmem := List.getElem_mem hlt
        have hsz := Tm.full_mem hmem
        have hc := ih _ hmem (by omega)
        rw [eTm_eq] at hc
        have hl1 := eTms_tlen ar j hj
        have hl2 := eTms_tlen ar (j + 1) hlt
        refine dw_seq ?_
        refine dw_seq ?_
        refine dwk [(19, .v (.int .i64 (↑ar.length))), (20, .v (.bool true))] TTO_ok hnt fun K hK => ?_
        refine And.intro (dintE (by rw [eTms_len])) ?_
        refine And.intro auT ?_
        refine hK _ _ ?_; clear hK K
        refine dw_cond (t := true) rfl ?_
        rw [if_pos rfl]
        refine dw_skip ?_
        refine dw_seq ?_
        refine dw_block ?_
        refine dwkD [(28, .q [.sl 2 (eTys ar[j].binds) none, .v (.int .i64 ar[j].kind), .v (.int .i64 ar[j].index), .sl 4 (eTms ar[j].args) none])] TTO_ok hnt fun K hK => ?_
        refine And.intro (elo (eTms_len ar)) ?_
        refine And.intro (elv (eTms_getD ar j) (eTm_eq _)) ?_
        refine dcl (hc) ?_
        refine And.intro (⟨by omega, by rw [hl1]; simp; omega⟩) ?_
        refine hK _ _ (by kernel_rfl) ?_; clear hK K
        rw [eTms_snoc ar j hlt, hl2]
        refine dwk [(22, .v (.int .i64 (↑(j + 1))))] TTO_ok hnt fun K hK => ?_
        refine And.intro auI ?_
        refine hK _ _ ?_; clear hK K
        refine ⟨⟨j + 1, hlt⟩, by first | omega | (dsimp only; omega), VS.toA⟩
      · rw [List.take_of_length_le (by omega)]
        refine dw_seq ?_
        refine dw_seq ?_
        refine dwk [(19, .v (.int .i64 (↑ar.length))), (20, .v (.bool false))] TTO_ok hnt fun K hK => ?_
        refine And.intro (dintE (by rw [eTms_len])) ?_
        refine And.intro auF ?_
        refine hK _ _ ?_; clear hK K
        refine dw_cond (t := false) rfl ?_
        rw [if_neg (by simp)]
        refine dw_exit ?_
        refine dw_seq ?_
        refine dwk [] TTO_ok hnt fun K hK => ?_
        refine hK _ _ ?_; clear hK K
        refine dw_ret ?_
        exact reta rfl

end Go.Proofs.Ytcblpjheoclkeaa

namespace Go.Proofs.Ytcblpjheoclkeaa
open Go.RowKit

theorem of6_d (t : Tm) (h : t.full ≤ 900000) : PureC Try.prog 12 [.ag (eTm t)] (.ag (eTm t)) := of6D_d t h
theorem ePairs_take (l : List (Int × Tm)) (j : Nat) (h : j < l.length) : ePairs (l.take (j + 1)) = ePairs (l.take j) ++ [ePair l[j]] := by
  unfold ePairs; rw [List.take_succ_eq_append_getElem h, List.map_append]; rfl
set_option maxHeartbeats 1000000 in
theorem of9_d (l : List (Int × Tm)) (hl : l.length ≤ 100000) (hf : ∀ p ∈ l, p.2.full ≤ 900000) : PureC Try.prog 21 [.sl 5 (ePairs l) none] (.sl 5 (ePairs l) none) := by
 refine call_of_dw 0 27 [ResultVar.tmp 2] TL9_ok (by kernel_rfl) Try.func21 rfl Try.ntmps21 rfl (by simp) ?dwords ?dbody
 case dwords => simp [wordsOk, D.ok, D.oks, rnames, ePairs_ok]
 case dbody =>
  intro cx hnt hn0
  refine dw_seq ?_; refine dwk [] TL9_ok hnt fun K hK => ?_; refine hK _ _ ?_; clear hK K; refine dw_seq ?_; refine dwk [] TL9_ok hnt fun K hK => ?_; refine hK _ _ ?_; clear hK K; refine dw_seq (dw_seq ?_); refine dwk [] TL9_ok hnt fun K hK => ?_; refine hK _ _ ?_; clear hK K; refine dw_block ?_
  refine dw_loop (ι := Nat) (fun j => (.t 0, .sl 5 (ePairs l) none) :: (.t 4, .v (.int .i64 (j : Int))) :: (.t 3, .sl 5 (ePairs (l.take j)) (some 3)) :: (.r 3, .rw 118 5 (l.take j).length) :: []) 4 (fun j => l.length - j) 0 (VS.trans (VS.rowT (x := 3) (by rw [hnt]; decide) 118 5 rfl) VS.toA) fun j => ?_
  refine dw_seq (dw_seq ?_)
  by_cases hlt : j < l.length
  ·have ho := of6_d l[j].2 (hf _ (List.getElem_mem hlt))
   rw [eTm_eq] at ho
   have hq : (ePairs l).getD (j : Int).toNat [] = [.v (.int .i64 l[j].1), .sl 2 (eTys l[j].2.binds) none, .v (.int .i64 l[j].2.kind), .v (.int .i64 l[j].2.index), .sl 4 (eTms l[j].2.args) none] := by rw [Int.toNat_natCast, ePairs_getD l j hlt, ePair_eq]
   have hb : (0 : Int) ≤ (j : Int) ∧ (j : Int) < ((ePairs l).length : Int) := ⟨by omega, by rw [ePairs_len]; omega⟩
   refine dwk [(8, .v (.bool true))] TL9_ok hnt fun K hK => ?_; refine And.intro (dtrue (by rw [ePairs_len]; omega)) ?_; refine hK _ _ ?_; clear hK K; refine dw_cond (t := true) rfl ?_; rw [if_pos rfl]; refine dw_skip ?_; refine dw_seq (dw_block ?_); refine dwkD [(14, .q [.v (.int .i64 l[j].1), .sl 2 (eTys l[j].2.binds) none, .v (.int .i64 l[j].2.kind), .v (.int .i64 l[j].2.index), .sl 4 (eTms l[j].2.args) none]), (19, .q [.v (.int .i64 l[j].1), .sl 2 (eTys l[j].2.binds) none, .v (.int .i64 l[j].2.kind), .v (.int .i64 l[j].2.index), .sl 4 (eTms l[j].2.args) none]), (25, .sl 5 (ePairs (l.take (j + 1))) (some 3))] TL9_ok hnt fun K hK => ?_
   refine And.intro (hb) ?_; refine And.intro (VLe.of_eq (by rw [hq])) ?_; refine And.intro (hb) ?_; refine And.intro (VLe.of_eq (by rw [hq])) ?_; refine dcl (ho) ?_; refine And.intro (⟨by rw [ePairs_len], by rw [ePairs_len, List.length_take]; simp; omega⟩) ?_; refine And.intro (VLe.of_eq (by rw [ePairs_take l j hlt, ePair_eq])) ?_; refine hK _ _ (by kernel_rfl) ?_; clear hK K; refine dwk [(10, .v (.int .i64 ((j + 1 : Nat) : Int)))] TL9_ok hnt fun K hK => ?_
   refine And.intro (dintE (by rw [IntWalk.i64_in _ (by omega)]; omega)) ?_; refine hK _ _ ?_; clear hK K
   have hl2 : (l.take (j + 1)).length = j + 1 := by rw [List.length_take]; omega
   have hl3 : (ePairs (l.take j)).length = j := by rw [ePairs_len, List.length_take]; omega
   refine ⟨j + 1, by omega, ?_⟩
   rw [hl2]
   exact (by try simp only [List.length_append, List.length_take, List.length_cons, List.length_nil, Nat.zero_add, hl3]; exact VS.toA)
  ·skip
   refine dwk [(8, .v (.bool false))] TL9_ok hnt fun K hK => ?_; refine And.intro (dfalse (by rw [ePairs_len]; omega)) ?_; refine hK _ _ ?_; clear hK K; refine dw_cond (t := false) rfl ?_; rw [if_neg (by simp)]; refine dw_exit ?_; refine dw_seq ?_
   rw [List.take_of_length_le (by omega)]
   refine dwk [] TL9_ok hnt fun K hK => ?_; refine hK _ _ ?_; clear hK K; refine dw_ret ?_
   exact retv (N := 0) (.inr rfl) rfl (by repeat first | exact VLe.refl _ | exact VLe.nil _ | exact VLe.untag _ _ _ | refine VLe.ag ?_ | refine VLe.tu ?_ | refine VLeL.cons ?_ ?_ | exact VLeL.nil) trivial
end Go.Proofs.Ytcblpjheoclkeaa

