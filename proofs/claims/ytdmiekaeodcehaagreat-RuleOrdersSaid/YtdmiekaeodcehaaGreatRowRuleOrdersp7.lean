/-
  Package rule, walked in the deep way: met, term. Terms that are the same, as deep contracts. Package rule, walked in the deep way: Own, Of, Equal, Variant. The document's uses, and what is taken out, walked in the deep way. The document's numbers of a pair (order, renamed) are those of package rule. The document's answer of layer 17: order, renamed, Own, Variant. Package lift, walked in the deep way: variables, each, term. A loop over a function, whose round writes to what its own assignment laid. The reference's loose indexes, and terms that grow. The document's heads of a term. The document's Heads and Count. term.Count. slices.Sort and slices.Compact of ints of the call's own; what they hand back rises. A function that has run loops over functions leaves with a mark for each; rows of ints that grow within such rounds. term.Metas. Package lift, walked in the deep way: may, done, Over, Closed, Subst; spot.Close. Package match, walked in the deep way: put. Package match, walked in the deep way: walk, may. Deep values: regions with steps through a map. Package match, walked in the deep way: what was found as a substitution; several at once. The known answer of the laws of layer 12. Lists of pairs, there and back. Lists of pairs in the laws of layer 9: To, Few. Package subst's lists, walked in the deep way: Clone, Without, Set, Domain, Get. Package subst's lists, walked in the deep way: Set, Domain, Get, Equal; terms that are the same. Package subst's lists, walked in the deep way: Get, Equal. The document's lists of pairs, walked in the deep way: Sorted, Get, Without, Domain, Same. LiftSubsts, walked in the deep way. How large long forms are, and that their indexes fit. How large lifted terms are, and that their indexes fit. The document's Take, walked in the deep way; what is wrong with a pattern. The document's Like. The document's Metas. Which of two types is less: by size, by how many arguments, argument by argument, by base; and what that order promises. Which of two terms is less: the plain law. sign, cmp.Compare and cmp.Or of ints. The document's order of types. The document's order of terms.
-/
import Derived.Test.YtdmiekaeodcehaaGreatRowRuleOrdersp6
import Derived.Test.YtdmiekaeodcehaaGreatRowRuleOrdersp5
import Derived.Test.YtdmiekaeodcehaaGreatRowRuleOrdersp1
import Derived.Test.YtdmiekaeodcehaaGreatRowRuleOrdersp4
import Derived.Deep.QuietTactic
import Derived.BigQuiet
import Derived.WalkSmall
import Derived.Lib.OwnBridge
import Derived.Sort.OwnSortedInts
import Derived.RangeFuncBox
import Derived.Maps.RangeRun
set_option maxRecDepth 100000
set_option maxHeartbeats 1000000
set_option linter.unusedVariables false
set_option linter.unusedSimpArgs false
namespace Go.Proofs.YtdmiekaeodcehaaGreat
open Go.RowKit
def TRA_36 : TI := ⟨4, true, [Value.slice none 0 0, Value.int IntKind.i64 0, Value.int IntKind.i64 0, Value.slice none 0 0], [(0, 1, false), (1, 2, true), (3, 1, false)], none, 64, 6, none, false⟩
theorem TRA_36_ok : TypOk Tryz.prog 36 TRA_36 := ⟨by kernel_rfl, by kernel_rfl, by kernel_rfl, by kernel_rfl, by kernel_rfl⟩
def TRA_34 : TI := ⟨1, false, [Value.slice none 0 0], [], some 36, 24, 5, none, false⟩
theorem TRA_34_ok : TypOk Tryz.prog 34 TRA_34 := ⟨by kernel_rfl, by kernel_rfl, by kernel_rfl, by kernel_rfl, by kernel_rfl⟩
def TRA_82 : TI := ⟨1, false, [Value.slice none 0 0], [], some 3, 24, 5, none, false⟩
theorem TRA_82_ok : TypOk Tryz.prog 82 TRA_82 := ⟨by kernel_rfl, by kernel_rfl, by kernel_rfl, by kernel_rfl, by kernel_rfl⟩
def TRA_84 : TI := ⟨2, true, [Value.map none, Value.slice none 0 0], [(0, 1, false), (1, 1, false)], none, 32, 6, none, false⟩
theorem TRA_84_ok : TypOk Tryz.prog 84 TRA_84 := ⟨by kernel_rfl, by kernel_rfl, by kernel_rfl, by kernel_rfl, by kernel_rfl⟩
def TRA_3 : TI := ⟨1, false, [Value.int IntKind.i64 0], [], none, 8, 2, none, false⟩
theorem TRA_3_ok : TypOk Tryz.prog 3 TRA_3 := ⟨by kernel_rfl, by kernel_rfl, by kernel_rfl, by kernel_rfl, by kernel_rfl⟩
def TRA_81 : TI := ⟨1, false, [Value.map none], [], none, 8, 7, some 3, false⟩
theorem TRA_81_ok : TypOk Tryz.prog 81 TRA_81 := ⟨by kernel_rfl, by kernel_rfl, by kernel_rfl, by kernel_rfl, by kernel_rfl⟩
def TRA_86 : TI := ⟨1, true, [Value.pointer none], [(0, 1, false)], none, 8, 6, none, false⟩
theorem TRA_86_ok : TypOk Tryz.prog 86 TRA_86 := ⟨by kernel_rfl, by kernel_rfl, by kernel_rfl, by kernel_rfl, by kernel_rfl⟩
def TRA_80 : TI := ⟨1, false, [Value.pointer none], [], none, 8, 4, none, false⟩
theorem TRA_80_ok : TypOk Tryz.prog 80 TRA_80 := ⟨by kernel_rfl, by kernel_rfl, by kernel_rfl, by kernel_rfl, by kernel_rfl⟩
def TRA_33 : TI := ⟨2, true, [Value.int IntKind.i64 0, Value.int IntKind.i64 0], [(0, 1, false), (1, 1, false)], none, 16, 6, none, true⟩
theorem TRA_33_ok : TypOk Tryz.prog 33 TRA_33 := ⟨by kernel_rfl, by kernel_rfl, by kernel_rfl, by kernel_rfl, by kernel_rfl⟩
def TRA : List (Nat × TI) := [(36, TRA_36), (34, TRA_34), (82, TRA_82), (84, TRA_84), (3, TRA_3), (81, TRA_81), (86, TRA_86), (80, TRA_80), (33, TRA_33)]
theorem TRA_ok : TabOk Tryz.prog TRA := ((((((((((TabOk.nil _).cons TRA_33_ok).cons TRA_80_ok).cons TRA_86_ok).cons TRA_81_ok).cons TRA_3_ok).cons TRA_84_ok).cons TRA_82_ok).cons TRA_34_ok).cons TRA_36_ok)

namespace Ru
def ix (m : Int) : List Int → Nat
  | [] => 0
  | x :: l => if x = m then 0 else ix m l + 1
def met (o : List Int) (m : Int) : List Int := if m ∈ o then o else o ++ [m]
mutual
def tr : Tm → List Int → List Int × Tm
  | .mk b k i a, o => ((trs a (if k = 2 then met o i else o)).1, .mk b k (if k = 2 then (ix i o : Int) else i) (trs a (if k = 2 then met o i else o)).2)
def trs : List Tm → List Int → List Int × List Tm
  | [], o => (o, [])
  | t :: l, o => ((trs l (tr t o).1).1, (tr t o).2 :: (trs l (tr t o).1).2)
end
theorem tr_eq (b : List Ty) (k i : Int) (a : List Tm) (o : List Int) : tr (.mk b k i a) o = ((trs a (if k = 2 then met o i else o)).1, .mk b k (if k = 2 then (ix i o : Int) else i) (trs a (if k = 2 then met o i else o)).2) := by rw [tr]
theorem trs_snoc : ∀ (l : List Tm) (o : List Int) (j : Nat) (h : j < l.length), trs (l.take (j + 1)) o = ((tr l[j] (trs (l.take j) o).1).1, (trs (l.take j) o).2 ++ [(tr l[j] (trs (l.take j) o).1).2])
  | [], _, _, h => by simp at h
  | t :: l, o, 0, _ => by simp [trs]
  | t :: l, o, j + 1, h => by
    have := trs_snoc l (tr t o).1 j (by simpa using h)
    simp only [List.take_succ_cons, trs, List.getElem_cons_succ]
    rw [this]; rfl
theorem trs_len : ∀ (l : List Tm) (o : List Int), (trs l o).2.length = l.length
  | [], _ => rfl
  | t :: l, o => by rw [trs]; simp [trs_len l]
theorem met_len (o : List Int) (m : Int) : (met o m).length ≤ o.length + 1 := by
  unfold met; split
  · omega
  · simp
theorem trs_grow_of {l : List Tm} (h : ∀ t ∈ l, ∀ o, (tr t o).1.length ≤ o.length + t.full) : ∀ o, (trs l o).1.length ≤ o.length + Tm.fulls l := by
  induction l with
  | nil => intro o; simp [trs, Tm.fulls]
  | cons t l ih =>
    intro o
    have h1 := h t (by simp) o
    have h2 := ih (fun u hu => h u (by simp [hu])) (tr t o).1
    rw [trs, Tm.fulls]
    dsimp only
    omega
theorem tr_grow (t : Tm) : ∀ o, (tr t o).1.length ≤ o.length + t.full := by
  induction t using Tm.ind with
  | h b k i a ih =>
    intro o
    have h2 : (if k = 2 then met o i else o).length ≤ o.length + 1 := by
      split
      · exact met_len o i
      · omega
    rw [tr_eq, Tm.full_eq]
    dsimp only
    generalize (if k = 2 then met o i else o) = o1 at h2 ⊢
    have h1 := trs_grow_of ih o1
    omega
theorem trs_grow (l : List Tm) (o : List Int) : (trs l o).1.length ≤ o.length + Tm.fulls l := trs_grow_of (fun t _ => tr_grow t) o
def eN : List Int → Nat → List (Int × D)
  | [], _ => []
  | x :: l, n => (x, .v (.int .i64 ((n : Nat) : Int))) :: eN l (n + 1)
theorem eN_find (m : Int) : ∀ (o : List Int) (n : Nat), mfind (eN o n) m = if m ∈ o then some (.v (.int .i64 ((n + ix m o : Nat) : Int))) else none
  | [], n => rfl
  | x :: l, n => by
    show (if m = x then _ else mfind (eN l (n + 1)) m) = _
    by_cases h : m = x
    · rw [if_pos h, if_pos (by simp [h])]
      have : ix m (x :: l) = 0 := by rw [ix, if_pos h.symm]
      rw [this]; rfl
    · have h1 : ix m (x :: l) = ix m l + 1 := by rw [ix, if_neg fun e => h e.symm]
      rw [if_neg h, eN_find m l (n + 1), h1]
      have h2 : (m ∈ x :: l) ↔ m ∈ l := by simp [h]
      by_cases h3 : m ∈ l
      · rw [if_pos h3, if_pos (h2.2 h3), show n + 1 + ix m l = n + (ix m l + 1) by omega]
      · rw [if_neg h3, if_neg (fun h => h3 (h2.1 h))]
theorem eN_put (m : Int) : ∀ (o : List Int) (n : Nat), m ∉ o → mput (eN o n) m (.v (.int .i64 ((n + o.length : Nat) : Int))) = eN (o ++ [m]) n
  | [], n, _ => rfl
  | x :: l, n, h => by
    show (if m = x then _ else _ :: mput (eN l (n + 1)) m _) = _
    have hx : m ≠ x := fun e => h (by simp [e])
    have := eN_put m l (n + 1) (fun h2 => h (by simp [h2]))
    rw [if_neg hx, show n + (x :: l).length = n + 1 + l.length by simp; omega, this]; rfl
@[simp] theorem eN_ok (f g : Nat → Bool) : ∀ (o : List Int) (n : Nat), D.okm f g (eN o n) = true
  | [], _ => by simp [eN, D.okm]
  | x :: l, n => by simp [eN, D.okm, D.ok, eN_ok f g l (n + 1)]
theorem ix_no {m : Int} : ∀ {o : List Int}, m ∉ o → ix m o = o.length
  | [], _ => rfl
  | x :: l, h => by rw [ix, if_neg fun e => h (by simp [e]), ix_no fun h2 => h (by simp [h2])]; rfl
end Ru
set_option maxHeartbeats 1000000 in
theorem rumet_d (o : List Int) (m : Int) (hl : o.length ≤ 900000) : CallG Tryz.prog 90 [.p 5 0, .v (.int .i64 m)] [(.c 5 0, .mo 3), (.c 5 1, .sl 1 (eIs o) (some 9)), (.o 3, .mp (Ru.eN o 0)), (.r 9, .rw 3 1 o.length)] [(.c 5 0, .mo 3), (.c 5 1, .sl 1 (eIs (Ru.met o m)) (some 9)), (.o 3, .mp (Ru.eN (Ru.met o m) 0)), (.r 9, .rw 3 1 (Ru.met o m).length)] (.v (.int .i64 (Ru.ix m o : Int))) := by
 have hf := Ru.eN_find m o 0
 unfold Ru.met
 by_cases h : m ∈ o
 ·rw [if_pos h] at hf ⊢
  rw [Nat.zero_add] at hf
  refine callG_of_dw 10 40 [ResultVar.tmp 4] TRA_ok (by kernel_rfl) Tryz.func90 rfl Tryz.ntmps90 rfl (by simp) ?dwords ?dbody
  case dwords => simp [wordsG, rowN, rowsR, gkey, Key.eq, D.ok, D.oks, D.okss, rnames, inN, ckey, eIs_ok, Ru.eN_ok]
  case dbody =>
   intro cx hnt hn0
   refine dw_seq ?_; refine dwk [] TRA_ok hnt fun K hK => ?_; refine hK _ _ ?_; clear hK K; refine dw_seq ?_; refine dwk [(13, .tu [.v (.int .i64 ↑(Ru.ix m o)), .v (.bool true)])] TRA_ok hnt fun K hK => ?_; refine And.intro (VLe.of_eq (by unfold lookD; rw [hf]; rfl)) ?_; refine hK _ _ ?_; clear hK K; refine dw_seq ?_; refine dw_seq ?_; refine dwk [] TRA_ok hnt fun K hK => ?_; refine hK _ _ ?_; clear hK K
   refine dw_cond (t := false) rfl ?_; rw [if_neg (by simp)]; refine dw_skip ?_; refine dw_seq ?_; refine dwk [] TRA_ok hnt fun K hK => ?_; refine hK _ _ ?_; clear hK K; refine dw_ret ?_
   exact reta rfl
 ·rw [if_neg h] at hf ⊢
  have hp := Ru.eN_put m o 0 h
  rw [Nat.zero_add] at hp
  rw [Ru.ix_no h]
  refine callG_of_dw 10 40 [ResultVar.tmp 4] TRA_ok (by kernel_rfl) Tryz.func90 rfl Tryz.ntmps90 rfl (by simp) ?dwords ?dbody
  case dwords => simp [wordsG, rowN, rowsR, gkey, Key.eq, D.ok, D.oks, D.okss, rnames, inN, ckey, eIs_ok, Ru.eN_ok]
  case dbody =>
   intro cx hnt hn0
   refine dw_seq ?_; refine dwk [] TRA_ok hnt fun K hK => ?_; refine hK _ _ ?_; clear hK K; refine dw_seq ?_; refine dwk [(13, .tu [.v (.int .i64 0), .v (.bool false)])] TRA_ok hnt fun K hK => ?_; refine And.intro (VLe.of_eq (by unfold lookD; rw [hf]; rfl)) ?_; refine hK _ _ ?_; clear hK K; refine dw_seq ?_; refine dw_seq ?_; refine dwk [] TRA_ok hnt fun K hK => ?_; refine hK _ _ ?_; clear hK K; refine dw_cond (t := true) rfl ?_
   rw [if_pos rfl]; refine dw_seq ?_; refine dwk [(22, .v (.int .i64 (↑o.length)))] TRA_ok hnt fun K hK => ?_; refine And.intro (dintE (by rw [eIs_len])) ?_; refine hK _ _ ?_; clear hK K; refine dw_seq ?_; refine dwk [] TRA_ok hnt fun K hK => ?_; refine hK _ _ ?_; clear hK K
   rw [hp]
   refine dwk [(36, .sl 1 (eIs (o ++ [m])) (some 9))] TRA_ok hnt fun K hK => ?_; refine And.intro (⟨by rw [eIs_len], by rw [eIs_len]; simp; omega⟩) ?_; refine And.intro (VLe.of_eq (by rw [eIs_append]; rfl)) ?_; refine hK _ _ ?_; clear hK K
   rw [show (eIs o ++ [[D.v (.int .i64 m)]]).length = (o ++ [m]).length by simp [eIs_len]]
   refine dw_seq ?_; refine dwk [] TRA_ok hnt fun K hK => ?_; refine hK _ _ ?_; clear hK K; refine dw_ret ?_
   exact reta rfl
def TrC (t : Tm) : Prop := ∀ o : List Int, o.length + t.full ≤ 700000 →
  CallG Tryz.prog 43 [.ag [.p 5 0], .ag (eTm t)] [(.c 5 0, .mo 3), (.c 5 1, .sl 1 (eIs o) (some 9)), (.o 3, .mp (Ru.eN o 0)), (.r 9, .rw 3 1 o.length)] [(.c 5 0, .mo 3), (.c 5 1, .sl 1 (eIs (Ru.tr t o).1) (some 9)), (.o 3, .mp (Ru.eN (Ru.tr t o).1 0)), (.r 9, .rw 3 1 (Ru.tr t o).1.length)] (.ag (eTm (Ru.tr t o).2))
set_option maxHeartbeats 2000000 in
theorem rutr_d (t : Tm) : TrC t := by
 induction t using Tm.ind with
 | h b k i a ih =>
 intro o hz
 rw [Tm.full_eq] at hz
 have hal := cFulls_len a
 have hfl := pflex_d (.mk b k i a)
 have hme := rumet_d o i (by omega)
 have hml := Ru.met_len o i
 rw [Ru.tr_eq]
 obtain ⟨o1, ho1⟩ : ∃ o1, (if k = 2 then Ru.met o i else o) = o1 := ⟨_, rfl⟩
 have hol : o1.length ≤ o.length + 1 := by
  rw [← ho1]; split
  ·exact hml
  ·omega
 obtain ⟨A, hA⟩ : ∃ A : Nat → List Int, A = fun j => (Ru.trs (a.take j) o1).1 := ⟨_, rfl⟩
 obtain ⟨B, hB⟩ : ∃ B : Nat → List Tm, B = fun j => (Ru.trs (a.take j) o1).2 := ⟨_, rfl⟩
 have hA0 : A 0 = o1 := by rw [hA]; rfl
 have hB0 : B 0 = [] := by rw [hB]; rfl
 have hAe : (Ru.trs a o1).1 = A a.length := by rw [hA]; simp
 have hBe : (Ru.trs a o1).2 = B a.length := by rw [hB]; simp
 have hAs : ∀ j (h : j < a.length), (Ru.tr a[j] (A j)).1 = A (j + 1) := fun j h => by rw [hA]; dsimp only; rw [Ru.trs_snoc a o1 j h]
 have hBs : ∀ j (h : j < a.length), eTms (B j) ++ [[.sl 2 (eTys (Ru.tr a[j] (A j)).2.binds) none, .v (.int .i64 (Ru.tr a[j] (A j)).2.kind), .v (.int .i64 (Ru.tr a[j] (A j)).2.index), .sl 4 (eTms (Ru.tr a[j] (A j)).2.args) none]] = eTms (B (j + 1)) := fun j h => by
  rw [hA, hB]; dsimp only; rw [Ru.trs_snoc a o1 j h, ← eTm_eq]
  dsimp only; rw [eTms_append]; rfl
 have hBl : ∀ j, j ≤ a.length → (eTms (B j)).length = j := fun j h => by rw [eTms_len, hB]; dsimp only; rw [Ru.trs_len, List.length_take]; omega
 have hAl : ∀ j, j ≤ a.length → (A j).length ≤ o1.length + Tm.fulls (a.take j) := fun j h => by rw [hA]; exact Ru.trs_grow _ _
 have hI : ∀ j (h : j < a.length), CallG Tryz.prog 43 [.ag [.p 5 0], .ag (eTm a[j])] [(.c 5 0, .mo 3), (.c 5 1, .sl 1 (eIs (A j)) (some 9)), (.o 3, .mp (Ru.eN (A j) 0)), (.r 9, .rw 3 1 (A j).length)] [(.c 5 0, .mo 3), (.c 5 1, .sl 1 (eIs (A (j + 1))) (some 9)), (.o 3, .mp (Ru.eN (A (j + 1)) 0)), (.r 9, .rw 3 1 (A (j + 1)).length)] (.ag (eTm (Ru.tr a[j] (A j)).2)) := fun j h => by
  rw [← hAs j h]
  refine ih _ (List.getElem_mem h) (A j) ?_
  have h1 := hAl j (by omega)
  have h2 := Tm.fulls_take a j h
  have h3 := Tm.fulls_take_le a (j + 1)
  omega
 rw [ho1, hAe, hBe]
 rw [eTm_eq] at hfl
 rw [eTm_eq, eTm_eq]
 simp only [bindsT, kindT, indexT, argsTm] at hfl ⊢
 have heN : eTms [] = [] := rfl
 have hfl : ∀ c : Bool, decide (k = 2) = c → PureC Tryz.prog 89 [.ag [.sl 2 (eTys b) none, .v (.int .i64 k), .v (.int .i64 i), .sl 4 (eTms a) none]] (.v (.bool c)) := fun c h => h ▸ hfl
 clear hA hB hAe hBe ih
 by_cases hk : k = 2
 ·rw [if_pos hk] at ho1 ⊢
  have hfl := hfl _ (decide_eq_true hk)
  rw [ho1] at hme
  refine callG_of_dw 10 39 [ResultVar.cell 4 36] TRA_ok (by kernel_rfl) Tryz.func43 rfl Tryz.ntmps43 rfl (by simp) ?dwords ?dbody
  case dwords => simp [wordsG, rowN, rowsR, gkey, Key.eq, D.ok, D.oks, D.okss, rnames, inN, ckey, eTys_ok, eTms_ok, eIs_ok, Ru.eN_ok]
  case dbody =>
   intro cx hnt hn0
   refine dw_seq ?_; refine dwk [] TRA_ok hnt fun K hK => ?_; refine hK _ _ ?_; clear hK K; refine dw_seq ?_; refine dw_seq ?_; refine dwk [] TRA_ok hnt fun K hK => ?_; refine dcl (hfl) ?_; refine hK _ _ ?_; clear hK K; refine dw_cond (t := true) rfl ?_; rw [if_pos rfl]; refine dwk [] TRA_ok hnt fun K hK => ?_; refine dcn (CallG.n (hme) _) ?_; refine hK _ _ ?_; clear hK K; refine dw_seq ?_; refine dwk [(20, .v (.int .i64 (↑a.length)))] TRA_ok hnt fun K hK => ?_
   refine And.intro (dintE (by rw [eTms_len])) ?_; refine And.intro (⟨by omega, by omega⟩) ?_; refine hK _ _ ?_; clear hK K; refine dw_seq ?_; refine dw_seq ?_; refine dwk [(24, .v (.int .i64 (↑a.length)))] TRA_ok hnt fun K hK => ?_; refine And.intro (dintE (by rw [eTms_len])) ?_; refine hK _ _ ?_; clear hK K; refine dw_block ?_
   refine dw_loop (ι := { j : Nat // j ≤ a.length }) (fun j => [(.t 2, .p 10 0), (.t 3, .p 11 0), (.t 4, .p 12 0), (.t 5, .sl 4 (eTms (B j.1)) (some 27)), (.t 23, .sl 4 (eTms a) none), (.t 24, .v (.int .i64 ↑a.length)), (.t 25, .v (.int .i64 ↑j.1)), (.c 10 0, .p 5 0), (.c 11 0, .sl 2 (eTys b) none), (.c 11 1, .v (.int .i64 k)), (.c 11 2, .v (.int .i64 ↑(Ru.ix i o))), (.c 11 3, .sl 4 (eTms a) none), (.c 12 0, .v (.slice none 0 0)), (.c 12 1, .v (.int .i64 0)), (.c 12 2, .v (.int .i64 0)), (.c 12 3, .v (.slice none 0 0)), (.r 27, .rw 36 4 j.1), (.c 5 0, .mo 3), (.c 5 1, .sl 1 (eIs (A j.1)) (some 9)), (.o 3, .mp (Ru.eN (A j.1) 0)), (.r 9, .rw 3 1 (A j.1).length)]) 28 (fun j => a.length - j.1) (⟨0, Nat.zero_le _⟩) ((by dsimp only; rw [hA0, hB0, heN]; exact VS.toA)) fun j => ?_
   obtain ⟨j, hj⟩ := j
   dsimp only
   by_cases hlt : j < a.length
   ·have hc := hI j hlt
    have hs := hBs j hlt
    have hlq := hBl j hj
    rw [eTm_eq, eTm_eq] at hc
    refine dw_seq ?_; refine dwk [(26, .v (.bool true))] TRA_ok hnt fun K hK => ?_; refine And.intro auT ?_; refine hK _ _ ?_; clear hK K; refine dw_seq ?_; refine dw_cond (t := true) rfl ?_; rw [if_pos rfl]; refine dw_skip ?_; refine dw_seq ?_; refine dw_block ?_; refine dw_seq ?_; refine dwk [(27, .q [.sl 2 (eTys a[j].binds) none, .v (.int .i64 a[j].kind), .v (.int .i64 a[j].index), .sl 4 (eTms a[j].args) none])] TRA_ok hnt fun K hK => ?_
    refine And.intro (elo (eTms_len a)) ?_; refine And.intro (elv (eTms_getD a j) (eTm_eq _)) ?_; refine hK _ _ ?_; clear hK K; refine dwk [(34, .sl 4 (eTms (B (j + 1))) (some 27))] TRA_ok hnt fun K hK => ?_; refine dcn (CallG.n (hc) _) ?_; refine And.intro (⟨by rw [hlq], by rw [hlq]; simp; omega⟩) ?_; refine And.intro (VLe.of_eq (by rw [hs])) ?_; refine hK _ _ ?_; clear hK K; refine dwk [(35, .v (.int .i64 (↑(j + 1))))] TRA_ok hnt fun K hK => ?_
    refine And.intro auI ?_; refine hK _ _ ?_; clear hK K
    refine ⟨⟨j + 1, hlt⟩, by first | omega | (dsimp only; omega), (by try simp only [List.length_append, List.length_take, List.length_cons, List.length_nil, Nat.zero_add, hlq]; exact VS.toA)⟩
   ·have hj2 : j = a.length := by omega
    subst hj2
    refine dw_seq ?_; refine dwk [(26, .v (.bool false))] TRA_ok hnt fun K hK => ?_; refine And.intro auF ?_; refine hK _ _ ?_; clear hK K; refine dw_seq ?_; refine dw_cond (t := false) rfl ?_; rw [if_neg (by simp)]; refine dw_exit ?_; refine dw_seq ?_; refine dwk [] TRA_ok hnt fun K hK => ?_; refine hK _ _ ?_; clear hK K; refine dw_seq ?_; refine dwk [] TRA_ok hnt fun K hK => ?_; refine hK _ _ ?_; clear hK K
    refine dw_ret ?_
    exact reta rfl
 ·rw [if_neg hk] at ho1 ⊢
  have hfl := hfl _ (decide_eq_false hk)
  subst ho1
  refine callG_of_dw 10 39 [ResultVar.cell 4 36] TRA_ok (by kernel_rfl) Tryz.func43 rfl Tryz.ntmps43 rfl (by simp) ?dwords ?dbody
  case dwords => simp [wordsG, rowN, rowsR, gkey, Key.eq, D.ok, D.oks, D.okss, rnames, inN, ckey, eTys_ok, eTms_ok, eIs_ok, Ru.eN_ok]
  case dbody =>
   intro cx hnt hn0
   refine dw_seq ?_; refine dwk [] TRA_ok hnt fun K hK => ?_; refine hK _ _ ?_; clear hK K; refine dw_seq ?_; refine dw_seq ?_; refine dwk [] TRA_ok hnt fun K hK => ?_; refine dcl (hfl) ?_; refine hK _ _ ?_; clear hK K; refine dw_cond (t := false) rfl ?_; rw [if_neg (by simp)]; refine dw_skip ?_; refine dw_seq ?_; refine dwk [(20, .v (.int .i64 (↑a.length)))] TRA_ok hnt fun K hK => ?_; refine And.intro (dintE (by rw [eTms_len])) ?_
   refine And.intro (⟨by omega, by omega⟩) ?_; refine hK _ _ ?_; clear hK K; refine dw_seq ?_; refine dw_seq ?_; refine dwk [(24, .v (.int .i64 (↑a.length)))] TRA_ok hnt fun K hK => ?_; refine And.intro (dintE (by rw [eTms_len])) ?_; refine hK _ _ ?_; clear hK K; refine dw_block ?_
   refine dw_loop (ι := { j : Nat // j ≤ a.length }) (fun j => [(.t 2, .p 10 0), (.t 3, .p 11 0), (.t 4, .p 12 0), (.t 5, .sl 4 (eTms (B j.1)) (some 18)), (.t 23, .sl 4 (eTms a) none), (.t 24, .v (.int .i64 ↑a.length)), (.t 25, .v (.int .i64 ↑j.1)), (.c 10 0, .p 5 0), (.c 11 0, .sl 2 (eTys b) none), (.c 11 1, .v (.int .i64 k)), (.c 11 2, .v (.int .i64 i)), (.c 11 3, .sl 4 (eTms a) none), (.c 12 0, .v (.slice none 0 0)), (.c 12 1, .v (.int .i64 0)), (.c 12 2, .v (.int .i64 0)), (.c 12 3, .v (.slice none 0 0)), (.r 18, .rw 36 4 j.1), (.c 5 0, .mo 3), (.c 5 1, .sl 1 (eIs (A j.1)) (some 9)), (.o 3, .mp (Ru.eN (A j.1) 0)), (.r 9, .rw 3 1 (A j.1).length)]) 19 (fun j => a.length - j.1) (⟨0, Nat.zero_le _⟩) ((by dsimp only; rw [hA0, hB0, heN]; exact VS.toA)) fun j => ?_
   obtain ⟨j, hj⟩ := j
   dsimp only
   by_cases hlt : j < a.length
   ·have hc := hI j hlt
    have hs := hBs j hlt
    have hlq := hBl j hj
    rw [eTm_eq, eTm_eq] at hc
    refine dw_seq ?_; refine dwk [(26, .v (.bool true))] TRA_ok hnt fun K hK => ?_; refine And.intro auT ?_; refine hK _ _ ?_; clear hK K; refine dw_seq ?_; refine dw_cond (t := true) rfl ?_; rw [if_pos rfl]; refine dw_skip ?_; refine dw_seq ?_; refine dw_block ?_; refine dw_seq ?_; refine dwk [(27, .q [.sl 2 (eTys a[j].binds) none, .v (.int .i64 a[j].kind), .v (.int .i64 a[j].index), .sl 4 (eTms a[j].args) none])] TRA_ok hnt fun K hK => ?_
    refine And.intro (elo (eTms_len a)) ?_; refine And.intro (elv (eTms_getD a j) (eTm_eq _)) ?_; refine hK _ _ ?_; clear hK K; refine dwk [(34, .sl 4 (eTms (B (j + 1))) (some 18))] TRA_ok hnt fun K hK => ?_; refine dcn (CallG.n (hc) _) ?_; refine And.intro (⟨by rw [hlq], by rw [hlq]; simp; omega⟩) ?_; refine And.intro (VLe.of_eq (by rw [hs])) ?_; refine hK _ _ ?_; clear hK K; refine dwk [(35, .v (.int .i64 (↑(j + 1))))] TRA_ok hnt fun K hK => ?_
    refine And.intro auI ?_; refine hK _ _ ?_; clear hK K
    refine ⟨⟨j + 1, hlt⟩, by first | omega | (dsimp only; omega), (by try simp only [List.length_append, List.length_take, List.length_cons, List.length_nil, Nat.zero_add, hlq]; exact VS.toA)⟩
   ·have hj2 : j = a.length := by omega
    subst hj2
    refine dw_seq ?_; refine dwk [(26, .v (.bool false))] TRA_ok hnt fun K hK => ?_; refine And.intro auF ?_; refine hK _ _ ?_; clear hK K; refine dw_seq ?_; refine dw_cond (t := false) rfl ?_; rw [if_neg (by simp)]; refine dw_exit ?_; refine dw_seq ?_; refine dwk [] TRA_ok hnt fun K hK => ?_; refine hK _ _ ?_; clear hK K; refine dw_seq ?_; refine dwk [] TRA_ok hnt fun K hK => ?_; refine hK _ _ ?_; clear hK K
    refine dw_ret ?_
    exact reta rfl
end Go.Proofs.YtdmiekaeodcehaaGreat

namespace Go.Proofs.YtdmiekaeodcehaaGreat
open Go.RowKit
end Go.Proofs.YtdmiekaeodcehaaGreat

namespace Go.Proofs.YtdmiekaeodcehaaGreat
open Go.RowKit
def TRB_38 : TI := ⟨9, true, [Value.slice none 0 0, Value.int IntKind.i64 0, Value.int IntKind.i64 0, Value.slice none 0 0, Value.slice none 0 0, Value.int IntKind.i64 0, Value.int IntKind.i64 0, Value.slice none 0 0, Value.slice none 0 0], [(0, 4, true), (4, 4, true), (8, 1, false)], none, 152, 6, none, false⟩
theorem TRB_38_ok : TypOk Tryz.prog 38 TRB_38 := ⟨by kernel_rfl, by kernel_rfl, by kernel_rfl, by kernel_rfl, by kernel_rfl⟩
def TRB_32 : TI := ⟨1, false, [Value.slice none 0 0], [], some 75, 24, 5, none, false⟩
theorem TRB_32_ok : TypOk Tryz.prog 32 TRB_32 := ⟨by kernel_rfl, by kernel_rfl, by kernel_rfl, by kernel_rfl, by kernel_rfl⟩
def TRB_36 : TI := ⟨4, true, [Value.slice none 0 0, Value.int IntKind.i64 0, Value.int IntKind.i64 0, Value.slice none 0 0], [(0, 1, false), (1, 2, true), (3, 1, false)], none, 64, 6, none, false⟩
theorem TRB_36_ok : TypOk Tryz.prog 36 TRB_36 := ⟨by kernel_rfl, by kernel_rfl, by kernel_rfl, by kernel_rfl, by kernel_rfl⟩
def TRB_75 : TI := ⟨2, true, [Value.slice none 0 0, Value.int IntKind.i64 0], [(0, 1, false), (1, 1, false)], none, 32, 6, none, false⟩
theorem TRB_75_ok : TypOk Tryz.prog 75 TRB_75 := ⟨by kernel_rfl, by kernel_rfl, by kernel_rfl, by kernel_rfl, by kernel_rfl⟩
def TRB_86 : TI := ⟨1, true, [Value.pointer none], [(0, 1, false)], none, 8, 6, none, false⟩
theorem TRB_86_ok : TypOk Tryz.prog 86 TRB_86 := ⟨by kernel_rfl, by kernel_rfl, by kernel_rfl, by kernel_rfl, by kernel_rfl⟩
def TRB_3 : TI := ⟨1, false, [Value.int IntKind.i64 0], [], none, 8, 2, none, false⟩
theorem TRB_3_ok : TypOk Tryz.prog 3 TRB_3 := ⟨by kernel_rfl, by kernel_rfl, by kernel_rfl, by kernel_rfl, by kernel_rfl⟩
def TRB_84 : TI := ⟨2, true, [Value.map none, Value.slice none 0 0], [(0, 1, false), (1, 1, false)], none, 32, 6, none, false⟩
theorem TRB_84_ok : TypOk Tryz.prog 84 TRB_84 := ⟨by kernel_rfl, by kernel_rfl, by kernel_rfl, by kernel_rfl, by kernel_rfl⟩
def TRB_82 : TI := ⟨1, false, [Value.slice none 0 0], [], some 3, 24, 5, none, false⟩
theorem TRB_82_ok : TypOk Tryz.prog 82 TRB_82 := ⟨by kernel_rfl, by kernel_rfl, by kernel_rfl, by kernel_rfl, by kernel_rfl⟩
def TRB_48 : TI := ⟨3, true, [Value.int IntKind.i64 0, Value.slice none 0 0, Value.slice none 0 0], [(0, 1, false), (1, 1, false), (2, 1, false)], none, 56, 6, none, false⟩
theorem TRB_48_ok : TypOk Tryz.prog 48 TRB_48 := ⟨by kernel_rfl, by kernel_rfl, by kernel_rfl, by kernel_rfl, by kernel_rfl⟩
def TRB_39 : TI := ⟨1, false, [Value.int IntKind.i64 0], [], none, 8, 2, none, false⟩
theorem TRB_39_ok : TypOk Tryz.prog 39 TRB_39 := ⟨by kernel_rfl, by kernel_rfl, by kernel_rfl, by kernel_rfl, by kernel_rfl⟩
def TRB_81 : TI := ⟨1, false, [Value.map none], [], none, 8, 7, some 3, false⟩
theorem TRB_81_ok : TypOk Tryz.prog 81 TRB_81 := ⟨by kernel_rfl, by kernel_rfl, by kernel_rfl, by kernel_rfl, by kernel_rfl⟩
def TRB_80 : TI := ⟨1, false, [Value.pointer none], [], none, 8, 4, none, false⟩
theorem TRB_80_ok : TypOk Tryz.prog 80 TRB_80 := ⟨by kernel_rfl, by kernel_rfl, by kernel_rfl, by kernel_rfl, by kernel_rfl⟩
def TRB_98 : TI := ⟨1, false, [Value.nilFunc], [], none, 8, 8, none, false⟩
theorem TRB_98_ok : TypOk Tryz.prog 98 TRB_98 := ⟨by kernel_rfl, by kernel_rfl, by kernel_rfl, by kernel_rfl, by kernel_rfl⟩
def TRB : List (Nat × TI) := [(38, TRB_38), (32, TRB_32), (36, TRB_36), (75, TRB_75), (86, TRB_86), (3, TRB_3), (84, TRB_84), (82, TRB_82), (48, TRB_48), (39, TRB_39), (81, TRB_81), (80, TRB_80), (98, TRB_98)]
theorem TRB_ok : TabOk Tryz.prog TRB := ((((((((((((((TabOk.nil _).cons TRB_98_ok).cons TRB_80_ok).cons TRB_81_ok).cons TRB_39_ok).cons TRB_48_ok).cons TRB_82_ok).cons TRB_84_ok).cons TRB_3_ok).cons TRB_86_ok).cons TRB_75_ok).cons TRB_36_ok).cons TRB_32_ok).cons TRB_38_ok)

namespace Ru
open Li (Pr)
def bad (M : List Ty) (x : Int) : Bool := decide (x < 0 ∨ (M.length : Int) ≤ x)
def mt (M : List Ty) (x : Int) : Ty := M.getD x.toNat (.mk [] 0)
def own (p : Pr) : Pr × Int :=
  if (tr p.r (tr p.l []).1).1.any (bad p.m) then (.z, 10) else (⟨(tr p.l []).2, (tr p.r (tr p.l []).1).2, (tr p.r (tr p.l []).1).1.map (mt p.m)⟩, 0)
theorem trs_full_of {l : List Tm} (h : ∀ t ∈ l, ∀ o, (tr t o).2.full = t.full) : ∀ o, Tm.fulls (trs l o).2 = Tm.fulls l := by
  induction l with
  | nil => intro o; simp [trs]
  | cons t l ih =>
    intro o
    have h1 := h t (by simp) o
    have h2 := ih (fun u hu => h u (by simp [hu])) (tr t o).1
    rw [trs, Tm.fulls]
    try dsimp only
    rw [Tm.fulls]; omega
theorem tr_full (t : Tm) : ∀ o, (tr t o).2.full = t.full := by
  induction t using Tm.ind with
  | h b k i a ih =>
    intro o
    rw [tr_eq, Tm.full_eq]
    try dsimp only
    rw [Tm.full_eq, trs_full_of ih]
theorem ix_le (m : Int) : ∀ o : List Int, ix m o ≤ o.length
  | [] => Nat.le_refl _
  | x :: l => by
    rw [ix]; split
    · exact Nat.zero_le _
    · have := ix_le m l; simp; omega
theorem trs_fit_of {l : List Tm} (h : ∀ t ∈ l, ∀ o, o.length + t.full ≤ 1000000 → t.Fit → (tr t o).2.Fit) : ∀ o, o.length + Tm.fulls l ≤ 1000000 → (∀ t ∈ l, t.Fit) → ∀ u ∈ (trs l o).2, u.Fit := by
  induction l with
  | nil => intro o _ _ u hu; simp [trs] at hu
  | cons t l ih =>
    intro o hz hf u hu
    rw [Tm.fulls] at hz
    have h1 := tr_grow t o
    rw [trs] at hu
    dsimp only at hu
    rcases List.mem_cons.1 hu with rfl | hu
    · exact h t (by simp) o (by omega) (hf t (by simp))
    · exact ih (fun u hu => h u (by simp [hu])) (tr t o).1 (by omega) (fun u hu => hf u (by simp [hu])) u hu
theorem tr_fit (t : Tm) : ∀ o, o.length + t.full ≤ 1000000 → t.Fit → (tr t o).2.Fit := by
  induction t using Tm.ind with
  | h b k i a ih =>
    intro o hz hf
    rw [Tm.full_eq] at hz
    obtain ⟨f1, f2, f3⟩ := Tm.fit_iff.1 hf
    have h1 := ix_le i o
    have h2 := met_len o i
    rw [tr_eq]
    try dsimp only
    refine Tm.fit_iff.2 ⟨?_, ?_, trs_fit_of ih _ ?_ f3⟩
    · split <;> omega
    · split <;> omega
    · split <;> omega
theorem mt_at {M : List Ty} {x : Nat} (h : x < M.length) : mt M (x : Int) = M[x] := by
  unfold mt; rw [Int.toNat_natCast, List.getD_eq_getElem?_getD, List.getElem?_eq_getElem h]; rfl
theorem map_snoc (f : Int → Ty) (o : List Int) (j : Nat) (h : j < o.length) : eTys ((o.map f).take j) ++ [[.sl 2 (eTys (f o[j]).args) none, .v (.int .i64 (f o[j]).base)]] = eTys ((o.map f).take (j + 1)) := by
  have h2 : j < (o.map f).length := by rw [List.length_map]; exact h
  rw [← eTys_snoc _ j h2, List.getElem_map]
end Ru
set_option maxHeartbeats 4000000 in
theorem ruown_d (p : Li.Pr) (hl : p.l.full ≤ 100000 ∧ p.l.Fit) (hr : p.r.full ≤ 100000 ∧ p.r.Fit) (hm : ∀ t ∈ p.m, t.size ≤ 100000) (hml : p.m.length ≤ 900000) : PureC Tryz.prog 8 [.ag (ePr p)] (.tu [.ag (ePr (Ru.own p).1), .v (.int .i64 (Ru.own p).2)]) := by
 have h1 : CallG Tryz.prog 43 [.ag [.p 5 0], .ag (eTm p.l)] [(.c 5 0, .mo 3), (.c 5 1, .sl 1 [] (some 9)), (.o 3, .mp []), (.r 9, .rw 3 1 0)] [(.c 5 0, .mo 3), (.c 5 1, .sl 1 (eIs (Ru.tr p.l []).1) (some 9)), (.o 3, .mp (Ru.eN (Ru.tr p.l []).1 0)), (.r 9, .rw 3 1 (Ru.tr p.l []).1.length)] (.ag (eTm (Ru.tr p.l []).2)) := rutr_d p.l [] (by simp; omega)
 have g1 := Ru.tr_grow p.l []
 have z1 := Ru.tr_full p.l []
 have f1 := Ru.tr_fit p.l [] (by simp; omega) hl.2
 unfold Ru.own
 obtain ⟨⟨o1, L⟩, hx1⟩ : ∃ x, Ru.tr p.l [] = x := ⟨_, rfl⟩
 rw [hx1] at h1 g1 z1 f1 ⊢
 try dsimp only at h1 g1 z1 f1 ⊢
 simp only [List.length_nil, Nat.zero_add] at g1
 have h2 := rutr_d p.r o1 (by omega)
 have g2 := Ru.tr_grow p.r o1
 have z2 := Ru.tr_full p.r o1
 have f2 := Ru.tr_fit p.r o1 (by omega) hr.2
 obtain ⟨⟨o, R⟩, hx2⟩ : ∃ x, Ru.tr p.r o1 = x := ⟨_, rfl⟩
 rw [hx2] at h2 g2 z2 f2 ⊢
 try dsimp only at h2 g2 z2 f2 ⊢
 have c1 := copyW_d L (by omega) f1
 have c2 := copyW_d R (by omega) f2
 obtain ⟨pl, pr, pm⟩ := p
 dsimp only at *
 rw [eTm_eq, eTm_eq] at h1 h2
 rw [eTm_eq] at c1 c2
 rw [ePr_eq]
 have hwl : (o.map (Ru.mt pm)).length = o.length := List.length_map ..
 have hwg := Ru.map_snoc (Ru.mt pm) o
 obtain ⟨W, hW⟩ : ∃ W, o.map (Ru.mt pm) = W := ⟨_, rfl⟩
 rw [hW] at hwl hwg ⊢
 clear hW
 refine calldw 0 57 [ResultVar.cell 2 38, ResultVar.tmp 3] TRB_ok Tryz.func8 rfl Tryz.ntmps8 rfl fun cx hnt hn0 => ?_
 ·skip
  refine dw_seq ?_; refine dwk [] TRB_ok hnt fun K hK => ?_; refine hK _ _ ?_; clear hK K; refine dw_seq ?_; refine dwk [] TRB_ok hnt fun K hK => ?_; refine hK _ _ ?_; clear hK K
  refine DW.vs (VS.row (k := 5) (off := 1) 3 1 rfl) ?_
  refine dw_seq ?_; refine dwk [] TRB_ok hnt fun K hK => ?_; refine dcn (CallG.n (h1) _) ?_; refine dcl (c1) ?_; refine hK _ _ ?_; clear hK K; refine dw_seq ?_; refine dwk [] TRB_ok hnt fun K hK => ?_; refine dcn (CallG.n (h2) _) ?_; refine dcl (c2) ?_; refine hK _ _ ?_; clear hK K
  refine DW.vs (VS.row (k := 16) (off := 8) 75 2 rfl) ?_
  refine dw_seq ?_; refine dw_seq ?_; refine dwk [(29, .v (.int .i64 (↑o.length)))] TRB_ok hnt fun K hK => ?_; refine And.intro (dintE (by rw [eIs_len])) ?_; refine hK _ _ ?_; clear hK K; refine dw_block ?_
  refine dw_loop (ι := { j : Nat // j ≤ o.length ∧ ∀ i (h : i < o.length), i < j → Ru.bad pm o[i] = false }) (fun j => [(.t 1, .p 0 0), (.t 2, .p 1 0), (.t 3, .v (.int .i64 0)), (.t 5, .p 16 0), (.t 28, .sl 1 (eIs o) none), (.t 29, .v (.int .i64 ↑o.length)), (.t 30, .v (.int .i64 ↑j.1)), (.c 0 0, .sl 2 (eTys pl.binds) none), (.c 0 1, .v (.int .i64 pl.kind)), (.c 0 2, .v (.int .i64 pl.index)), (.c 0 3, .sl 4 (eTms pl.args) none), (.c 0 4, .sl 2 (eTys pr.binds) none), (.c 0 5, .v (.int .i64 pr.kind)), (.c 0 6, .v (.int .i64 pr.index)), (.c 0 7, .sl 4 (eTms pr.args) none), (.c 0 8, .sl 2 (eTys pm) none), (.c 1 0, .v (.slice none 0 0)), (.c 1 1, .v (.int .i64 0)), (.c 1 2, .v (.int .i64 0)), (.c 1 3, .v (.slice none 0 0)), (.c 1 4, .v (.slice none 0 0)), (.c 1 5, .v (.int .i64 0)), (.c 1 6, .v (.int .i64 0)), (.c 1 7, .v (.slice none 0 0)), (.c 1 8, .v (.slice none 0 0)), (.c 16 0, .sl 2 (eTys L.binds) none), (.c 16 1, .v (.int .i64 L.kind)), (.c 16 2, .v (.int .i64 L.index)), (.c 16 3, .sl 4 (eTms L.args) none), (.c 16 4, .sl 2 (eTys R.binds) none), (.c 16 5, .v (.int .i64 R.kind)), (.c 16 6, .v (.int .i64 R.index)), (.c 16 7, .sl 4 (eTms R.args) none), (.c 16 8, .sl 2 (eTys (W.take j.1)) (some 25)), (.r 25, .rw 75 2 j.1)]) 26 (fun j => o.length - j.1) (⟨0, Nat.zero_le _, fun i h1 h2 => by omega⟩) (VS.toA) fun j => ?_
  obtain ⟨j, hj, hjb⟩ := j
  dsimp only
  by_cases hlt : j < o.length
  ·have hs := hwg j hlt
   have hlq : (eTys (W.take j)).length = j := by rw [eTys_len, List.length_take]; omega
   cases hb : Ru.bad pm o[j] with
   | true =>
    have ha : o.any (Ru.bad pm) = true := List.any_eq_true.2 ⟨_, List.getElem_mem hlt, hb⟩
    rw [if_pos ha, ePr_z]
    unfold Ru.bad at hb
    rw [decide_eq_true_eq] at hb
    by_cases hn : o[j] < 0
    ·skip
     refine dw_seq ?_; refine dwk [(31, .v (.bool true))] TRB_ok hnt fun K hK => ?_; refine And.intro auT ?_; refine hK _ _ ?_; clear hK K; refine dw_seq ?_; refine dw_cond (t := true) rfl ?_; rw [if_pos rfl]; refine dw_skip ?_; refine dw_seq ?_; refine dw_block ?_; refine dw_seq ?_; refine dwk [(32, .q [.v (.int .i64 (o[j]))])] TRB_ok hnt fun K hK => ?_; refine And.intro (elo (eIs_len o)) ?_; refine And.intro (elv (eIs_getD o j) rfl) ?_
     refine hK _ _ ?_; clear hK K; refine dw_seq ?_; refine dw_seq ?_; refine dwk [(35, .v (.bool true))] TRB_ok hnt fun K hK => ?_; refine And.intro auT ?_; refine hK _ _ ?_; clear hK K; refine dw_cond (t := true) rfl ?_; rw [if_pos rfl]; refine dw_seq ?_; refine dwk [] TRB_ok hnt fun K hK => ?_; refine hK _ _ ?_; clear hK K; refine dw_ret ?_
     exact reta rfl
    ·have hn2 : (pm.length : Int) ≤ o[j] := by omega
     refine dw_seq ?_; refine dwk [(31, .v (.bool true))] TRB_ok hnt fun K hK => ?_; refine And.intro auT ?_; refine hK _ _ ?_; clear hK K; refine dw_seq ?_; refine dw_cond (t := true) rfl ?_; rw [if_pos rfl]; refine dw_skip ?_; refine dw_seq ?_; refine dw_block ?_; refine dw_seq ?_; refine dwk [(32, .q [.v (.int .i64 (o[j]))])] TRB_ok hnt fun K hK => ?_; refine And.intro (elo (eIs_len o)) ?_; refine And.intro (elv (eIs_getD o j) rfl) ?_
     refine hK _ _ ?_; clear hK K; refine dw_seq ?_; refine dw_seq ?_; refine dwk [(35, .v (.bool false)), (40, .v (.int .i64 (↑pm.length))), (41, .v (.bool true))] TRB_ok hnt fun K hK => ?_; refine And.intro auF ?_; refine And.intro (dintE (by rw [eTys_len])) ?_; refine And.intro auT ?_; refine hK _ _ ?_; clear hK K; refine dw_cond (t := true) rfl ?_; rw [if_pos rfl]; refine dw_seq ?_; refine dwk [] TRB_ok hnt fun K hK => ?_
     refine hK _ _ ?_; clear hK K; refine dw_ret ?_
     exact reta rfl
   | false =>
    have hb2 := hb
    unfold Ru.bad at hb2
    rw [decide_eq_false_iff_not] at hb2
    obtain ⟨x, hx⟩ : ∃ x : Nat, o[j] = x := ⟨o[j].toNat, by omega⟩
    have hxl : x < pm.length := by omega
    have hc := arrow_d pm[x] [] (by have := hm _ (List.getElem_mem hxl); simp [Ty.sizes]; omega)
    rw [List.nil_append, show Ty.mk pm[x].args pm[x].base = pm[x] by generalize pm[x] = t; cases t; rfl] at hc
    have hc : PureC Tryz.prog 44 [.ag (eTy pm[x]), .v (.slice none 0 0)] (.ag (eTy pm[x])) := CallC.vle hc (.cons (VLe.refl _) (.cons (VLe.nil _) .nil)) (VLe.refl _)
    have hgo : (eIs o).getD j [] = [.v (.int .i64 ↑x)] := by rw [eIs_getD o j hlt, hx]
    rw [hx, Ru.mt_at hxl] at hs
    rw [eTy_eq] at hc
    refine dw_seq ?_; refine dwk [(31, .v (.bool true))] TRB_ok hnt fun K hK => ?_; refine And.intro auT ?_; refine hK _ _ ?_; clear hK K; refine dw_seq ?_; refine dw_cond (t := true) rfl ?_; rw [if_pos rfl]; refine dw_skip ?_; refine dw_seq ?_; refine dw_block ?_; refine dw_seq ?_; refine dwk [(32, .q [.v (.int .i64 ↑x)])] TRB_ok hnt fun K hK => ?_; refine And.intro (⟨by omega, by rw [eIs_len]; omega⟩) ?_
    refine And.intro (VLe.of_eq (by rw [Int.toNat_natCast, hgo])) ?_; refine hK _ _ ?_; clear hK K; refine dw_seq ?_; refine dw_seq ?_; refine dwk [(35, .v (.bool false)), (40, .v (.int .i64 (↑pm.length))), (41, .v (.bool false))] TRB_ok hnt fun K hK => ?_; refine And.intro auF ?_; refine And.intro (dintE (by rw [eTys_len])) ?_; refine And.intro auF ?_; refine hK _ _ ?_; clear hK K; refine dw_cond (t := false) rfl ?_
    rw [if_neg (by simp)]; refine dw_skip ?_; refine dwkD [(49, .q [.sl 2 (eTys pm[x].args) none, .v (.int .i64 pm[x].base)]), (53, .sl 2 (eTys (W.take (j + 1))) (some 25))] TRB_ok hnt fun K hK => ?_; refine And.intro (elo (eTys_len pm)) ?_; refine And.intro (elv (eTys_getD pm x) (eTy_eq _)) ?_; refine dcl (hc) ?_; refine And.intro (⟨by rw [hlq], by rw [hlq]; simp; omega⟩) ?_; refine And.intro (VLe.of_eq (by rw [hs])) ?_
    refine hK _ _ (by kernel_rfl) ?_; clear hK K; refine dwk [(55, .v (.int .i64 (↑(j + 1))))] TRB_ok hnt fun K hK => ?_; refine And.intro auI ?_; refine hK _ _ ?_; clear hK K
    refine ⟨⟨j + 1, hlt, fun i h1 h2 => if e : i = j then by subst e; exact hb else hjb i h1 (by omega)⟩, by first | omega | (dsimp only; omega), (by try simp only [List.length_append, List.length_take, List.length_cons, List.length_nil, Nat.zero_add, hlq]; exact VS.toA)⟩
  ·have ha : o.any (Ru.bad pm) = false := by
    rw [List.any_eq_false]
    intro x hx
    obtain ⟨i, hi, rfl⟩ := List.getElem_of_mem hx
    rw [hjb i hi (by omega)]; simp
   rw [if_neg (by rw [ha]; simp), ePr_eq]
   rw [List.take_of_length_le (by omega)]
   refine dw_seq ?_; refine dwk [(31, .v (.bool false))] TRB_ok hnt fun K hK => ?_; refine And.intro auF ?_; refine hK _ _ ?_; clear hK K; refine dw_seq ?_; refine dw_cond (t := false) rfl ?_; rw [if_neg (by simp)]; refine dw_exit ?_; refine dw_seq ?_; refine dwk [] TRB_ok hnt fun K hK => ?_; refine hK _ _ ?_; clear hK K; refine dw_ret ?_
   exact reta rfl
theorem ruequal_d (p q : Li.Pr) : PureC Tryz.prog 16 [.ag (ePr p), .ag (ePr q)] (.v (.bool (decide (p = q)))) := by
 obtain ⟨L, R, M⟩ := p
 obtain ⟨L', R', M'⟩ := q
 have c1 := equal2_d L L'
 have c2 := equal2_d R R'
 have c3 := eqTys_d M M' 52 rfl
 have e : decide ((⟨L, R, M⟩ : Li.Pr) = ⟨L', R', M'⟩) = ((decide (L = L') && decide (R = R')) && decide (M = M')) := by
  rw [Bool.eq_iff_iff]; simp [and_assoc]
 rw [e]
 rw [eTm_eq L, eTm_eq L'] at c1
 rw [eTm_eq R, eTm_eq R'] at c2
 rw [ePr_eq, ePr_eq]
 cases hA : decide (L = L') with
 | false =>
  rw [hA] at c1
  rw [Bool.false_and, Bool.false_and]
  refine calldw 0 24 [ResultVar.tmp 4] TRB_ok Tryz.func16 rfl Tryz.ntmps16 rfl fun cx hnt hn0 => ?_
  ·skip
   refine dw_seq ?_; refine dwk [] TRB_ok hnt fun K hK => ?_; refine hK _ _ ?_; clear hK K; refine dw_seq ?_; refine dwk [] TRB_ok hnt fun K hK => ?_; refine dcl (c1) ?_; refine hK _ _ ?_; clear hK K; refine dw_ret ?_
   exact reta rfl
 | true =>
  rw [hA] at c1
  cases hB : decide (R = R') with
  | false =>
   rw [hB] at c2
   rw [Bool.and_false, Bool.false_and]
   refine calldw 0 24 [ResultVar.tmp 4] TRB_ok Tryz.func16 rfl Tryz.ntmps16 rfl fun cx hnt hn0 => ?_
   ·skip
    refine dw_seq ?_; refine dwk [] TRB_ok hnt fun K hK => ?_; refine hK _ _ ?_; clear hK K; refine dw_seq ?_; refine dwk [] TRB_ok hnt fun K hK => ?_; refine dcl (c1) ?_; refine dcl (c2) ?_; refine hK _ _ ?_; clear hK K; refine dw_ret ?_
    exact reta rfl
  | true =>
   rw [hB] at c2
   rw [Bool.and_true, Bool.true_and]
   refine calldw 0 24 [ResultVar.tmp 4] TRB_ok Tryz.func16 rfl Tryz.ntmps16 rfl fun cx hnt hn0 => ?_
   ·skip
    refine dw_seq ?_; refine dwk [] TRB_ok hnt fun K hK => ?_; refine hK _ _ ?_; clear hK K; refine dw_seq ?_; refine dwk [] TRB_ok hnt fun K hK => ?_; refine dcl (c1) ?_; refine dcl (c2) ?_; refine dcl (c3) ?_; refine hK _ _ ?_; clear hK K; refine dw_ret ?_
    exact reta rfl
namespace Ru
def vari (p q : Li.Pr) : Bool := (decide ((own p).2 = 0) && decide ((own q).2 = 0)) && decide ((own p).1 = (own q).1)
end Ru
theorem ruvari_d (p q : Li.Pr) (hpl : p.l.full ≤ 100000 ∧ p.l.Fit) (hpr : p.r.full ≤ 100000 ∧ p.r.Fit) (hpm : ∀ t ∈ p.m, t.size ≤ 100000) (hpn : p.m.length ≤ 900000) (hql : q.l.full ≤ 100000 ∧ q.l.Fit) (hqr : q.r.full ≤ 100000 ∧ q.r.Fit) (hqm : ∀ t ∈ q.m, t.size ≤ 100000) (hqn : q.m.length ≤ 900000) : PureC Tryz.prog 17 [.ag (ePr p), .ag (ePr q)] (.v (.bool (Ru.vari p q))) := by
 have h1 := ruown_d p hpl hpr hpm hpn
 have h2 := ruown_d q hql hqr hqm hqn
 unfold Ru.vari
 generalize Ru.own p = x at h1 ⊢
 generalize Ru.own q = y at h2 ⊢
 obtain ⟨⟨xl, xr, xm⟩, xe⟩ := x
 obtain ⟨⟨yl, yr, ym⟩, ye⟩ := y
 dsimp only at h1 h2 ⊢
 have he := ruequal_d ⟨xl, xr, xm⟩ ⟨yl, yr, ym⟩
 rw [ePr_at] at h1 h2 ⊢
 rw [ePr_at q]
 rw [ePr_eq] at h1 h2
 rw [ePr_eq, ePr_eq] at he
 by_cases hx : xe = 0
 ·by_cases hy : ye = 0
  ·rw [decide_eq_true hx, decide_eq_true hy, Bool.true_and, Bool.true_and]
   refine calldw 0 30 [ResultVar.tmp 4] TRB_ok Tryz.func17 rfl Tryz.ntmps17 rfl fun cx hnt hn0 => ?_
   ·skip
    refine dw_seq ?_; refine dwk [] TRB_ok hnt fun K hK => ?_; refine hK _ _ ?_; clear hK K; refine dw_seq ?_; refine dwk [] TRB_ok hnt fun K hK => ?_; refine dcl (h1) ?_; refine hK _ _ ?_; clear hK K; refine dw_seq ?_; refine dwk [] TRB_ok hnt fun K hK => ?_; refine dcl (h2) ?_; refine hK _ _ ?_; clear hK K; refine dw_seq ?_; refine dwk [(20, .v (.bool true)), (23, .v (.bool true))] TRB_ok hnt fun K hK => ?_
    refine And.intro (beqT hx) ?_; refine And.intro (beqT hy) ?_; refine dcl (he) ?_; refine hK _ _ ?_; clear hK K; refine dw_ret ?_
    exact reta rfl
  ·rw [decide_eq_false hy, Bool.and_false, Bool.false_and]
   refine calldw 0 30 [ResultVar.tmp 4] TRB_ok Tryz.func17 rfl Tryz.ntmps17 rfl fun cx hnt hn0 => ?_
   ·skip
    refine dw_seq ?_; refine dwk [] TRB_ok hnt fun K hK => ?_; refine hK _ _ ?_; clear hK K; refine dw_seq ?_; refine dwk [] TRB_ok hnt fun K hK => ?_; refine dcl (h1) ?_; refine hK _ _ ?_; clear hK K; refine dw_seq ?_; refine dwk [] TRB_ok hnt fun K hK => ?_; refine dcl (h2) ?_; refine hK _ _ ?_; clear hK K; refine dw_seq ?_; refine dwk [(20, .v (.bool true)), (23, .v (.bool false))] TRB_ok hnt fun K hK => ?_
    refine And.intro (beqT hx) ?_; refine And.intro (beqF hy) ?_; refine hK _ _ ?_; clear hK K; refine dw_ret ?_
    exact reta rfl
 ·rw [decide_eq_false hx, Bool.false_and, Bool.false_and]
  refine calldw 0 30 [ResultVar.tmp 4] TRB_ok Tryz.func17 rfl Tryz.ntmps17 rfl fun cx hnt hn0 => ?_
  ·skip
   refine dw_seq ?_; refine dwk [] TRB_ok hnt fun K hK => ?_; refine hK _ _ ?_; clear hK K; refine dw_seq ?_; refine dwk [] TRB_ok hnt fun K hK => ?_; refine dcl (h1) ?_; refine hK _ _ ?_; clear hK K; refine dw_seq ?_; refine dwk [] TRB_ok hnt fun K hK => ?_; refine dcl (h2) ?_; refine hK _ _ ?_; clear hK K; refine dw_seq ?_; refine dwk [(20, .v (.bool false))] TRB_ok hnt fun K hK => ?_; refine And.intro (beqF hx) ?_
   refine hK _ _ ?_; clear hK K; refine dw_ret ?_
   exact reta rfl
end Go.Proofs.YtdmiekaeodcehaaGreat

namespace Go.Proofs.YtdmiekaeodcehaaGreat
open Go.RowKit
namespace Pn
end Pn
end Go.Proofs.YtdmiekaeodcehaaGreat

namespace Go.Proofs.YtdmiekaeodcehaaGreat
open Go.RowKit
namespace Ru
/-! renamed -/
mutual
def rn (l : List Int) : Tm → Tm
  | .mk b k i a => .mk b k (if k = 2 ∧ i ∈ l then (ix i l : Int) else i) (rns l a)
def rns (l : List Int) : List Tm → List Tm
  | [] => []
  | t :: r => rn l t :: rns l r
end
end Ru
end Go.Proofs.YtdmiekaeodcehaaGreat

namespace Go.Proofs.YtdmiekaeodcehaaGreat
open Go.RowKit
namespace Ru
end Ru
namespace Ru
def cur (l : List Int) (i : Int) (j : Nat) : Int := if i ∈ l.take j then (ix i l : Int) else i
end Ru
end Go.Proofs.YtdmiekaeodcehaaGreat

namespace Go.Proofs.YtdmiekaeodcehaaGreat
open Go.RowKit
/-! slices.Concat of terms -/
def eTmss (ls : List (List Tm)) : List (List D) := ls.map fun l => [.sl 4 (eTms l) none]
@[simp] theorem eTmss_ok (f g : Nat → Bool) (l : List (List Tm)) : D.okss f g (eTmss l) = true := D.okss_map _ l fun l _ => by simp [D.oks, D.ok, eTms_ok]
/-! variables -/
namespace Li
def vars (B : List Ty) (n : Int) : List Tm := B.mapIdx fun i b => Ty.Eta b 0 (n + B.length - 1 - i)
mutual
def lif (B : List Ty) : Tm → Int → Tm
  | .mk b k i a, n => .mk b k i ((if k = 2 then vars B (n + b.length) else []) ++ lifs B a (n + b.length))
def lifs (B : List Ty) : List Tm → Int → List Tm
  | [], _ => []
  | t :: l, n => lif B t n :: lifs B l n
end
end Li
end Go.Proofs.YtdmiekaeodcehaaGreat

namespace Go.Proofs.YtdmiekaeodcehaaGreat
open Go.RowKit
variable {β : Type} {Ok : Obj → Prop} {B : Nat} {I I' : β → World → Prop}

end Go.Proofs.YtdmiekaeodcehaaGreat

namespace Go.Proofs.YtdmiekaeodcehaaGreat
open Go.RowKit

def rpInt : Rp Int where
  n := 1
  R _ _ x v := x = [.int .i64 v]
  len := by rintro F w x a rfl; rfl
  one := by rintro F w x a rfl u hu; simp at hu; subst hu; rfl
  keep := fun h _ => h
  weaken := fun h _ => h

theorem infoI : (Tryz.prog.info? 3).map (fun i => (i.zero, i.size, i.bytes)) = some (some (.int .i64 0), 1, 8) := by kernel_rfl

def FreshInts (l : List Int) (w : World) (e : Ending) (w' : World) : Prop := ∃ a c, e = .returned (.slice a l.length c) ∧ IsSl rpInt (fun q => w.heap.size ≤ q) w' (.slice a l.length c) l ∧ Below w.heap.size w w'

end Go.Proofs.YtdmiekaeodcehaaGreat

namespace Go.Proofs.YtdmiekaeodcehaaGreat
open Go.RowKit

namespace Tm
mutual
def heads : Tm → Int → List (Int × Int)
  | .mk b k i a, n => (if k ≠ 0 then [(k, i)] else if n + (b.length : Int) ≤ i then [(0, i - (n + (b.length : Int)))] else []) ++ headss a (n + (b.length : Int))
def headss : List Tm → Int → List (Int × Int)
  | [], _ => []
  | t :: l, n => heads t n ++ headss l n
end
end Tm

end Go.Proofs.YtdmiekaeodcehaaGreat

namespace Go.Proofs.YtdmiekaeodcehaaGreat
open Go.RowKit

end Go.Proofs.YtdmiekaeodcehaaGreat

namespace Go.Proofs.YtdmiekaeodcehaaGreat
open Go.RowKit Go.Shelf
attribute [local go_sem] Oper.semAt_some

end Go.Proofs.YtdmiekaeodcehaaGreat

namespace Go.Proofs.YtdmiekaeodcehaaGreat
open Go.RowKit

def sortU (zs : List Int) : List Int := Lib.compact (zs.mergeSort fun x y => decide (x ≤ y))

theorem keeps_zero (d : Array Int) : Lib.keeps d 0 = true := by simp [Lib.keeps]
theorem upTo_rises (d : Array Int) : ∀ m, m ≤ d.size → (∀ i j, i ≤ j → j < d.size → d[i]! ≤ d[j]!) → (Lib.compactUpTo d m).Pairwise (· < ·) ∧ (∀ x ∈ Lib.compactUpTo d m, ∃ j, j < m ∧ d[j]! = x) ∧ (∀ j, j < m → d[j]! ∈ Lib.compactUpTo d m) := by
  intro m
  induction m with
  | zero => intro _ _; simp [Lib.compactUpTo]
  | succ m ih =>
    intro hm hs
    obtain ⟨h1, h2, h3⟩ := ih (by omega) hs
    rw [Lib.compactUpTo_succ]
    by_cases hk : Lib.keeps d m = true
    · rw [if_pos hk]
      refine ⟨?_, ?_, ?_⟩
      · rw [List.pairwise_append]
        refine ⟨h1, by simp, fun a ha b hb => ?_⟩
        obtain ⟨j, hj, rfl⟩ := h2 a ha
        simp at hb; subst hb
        have hle := hs j (m - 1) (by omega) (by omega)
        have hle2 := hs (m - 1) m (by omega) (by omega)
        have hne : d[m - 1]! ≠ d[m]! := by
          cases m with
          | zero => omega
          | succ k =>
            have : d[k + 1]! ≠ d[k]! := by simpa [Lib.keeps] using hk
            exact fun e => this e.symm
        omega
      · intro x hx
        rcases List.mem_append.1 hx with hx | hx
        · obtain ⟨j, hj, e⟩ := h2 x hx; exact ⟨j, by omega, e⟩
        · simp at hx; exact ⟨m, by omega, hx.symm⟩
      · intro j hj
        rw [List.mem_append]
        by_cases hjm : j = m
        · subst hjm; right; simp
        · left; exact h3 j (by omega)
    · rw [if_neg hk, List.append_nil]
      refine ⟨h1, fun x hx => by obtain ⟨j, hj, e⟩ := h2 x hx; exact ⟨j, by omega, e⟩, fun j hj => ?_⟩
      by_cases hjm : j = m
      · subst hjm
        cases j with
        | zero => exact absurd (keeps_zero d) hk
        | succ k =>
          have : d[k + 1]! = d[k]! := by simpa [Lib.keeps] using hk
          rw [this]; exact h3 k (by omega)
      · exact h3 j (by omega)

theorem sortU_spec (zs : List Int) : (sortU zs).Pairwise (· < ·) ∧ ∀ x, x ∈ sortU zs ↔ x ∈ zs := by
  obtain ⟨ss, hss⟩ : ∃ ss, (zs.mergeSort fun x y => decide (x ≤ y)) = ss := ⟨_, rfl⟩
  have hp : ss.Perm zs := by rw [← hss]; exact List.mergeSort_perm _ _
  have hs : ss.Pairwise (fun x y => x ≤ y) := by
    have := List.pairwise_mergeSort (le := fun x y : Int => decide (x ≤ y)) (fun a b c h1 h2 => by simp at *; omega) (fun a b => by simp; omega) zs
    rw [hss] at this
    simpa using this
  have hs' : ∀ i j, i ≤ j → j < ss.toArray.size → ss.toArray[i]! ≤ ss.toArray[j]! := by
    intro i j hij hj
    have hj' : j < ss.length := by simpa using hj
    have hi' : i < ss.length := by omega
    simp only [List.getElem!_toArray, getElem!_pos ss i hi', getElem!_pos ss j hj']
    by_cases e : i = j
    · subst e; exact Int.le_refl _
    · exact List.pairwise_iff_getElem.1 hs i j hi' hj' (by omega)
  obtain ⟨h1, h2, h3⟩ := upTo_rises ss.toArray ss.length (by simp) hs'
  unfold sortU
  rw [hss]
  refine ⟨h1, fun x => ?_⟩
  rw [← hp.mem_iff]
  constructor
  · intro hx
    obtain ⟨j, hj, e⟩ := h2 x hx
    rw [← e]
    simp only [List.getElem!_toArray, getElem!_pos ss j hj]
    exact List.getElem_mem hj
  · intro hx
    obtain ⟨j, hj, e⟩ := List.getElem_of_mem hx
    have := h3 j hj
    simp only [List.getElem!_toArray, getElem!_pos ss j hj, e] at this
    exact this
theorem sort_own {base : Nat} {w : World} {v : Value} {zs : List Int} (h : w.ownsRow base 3 1 v zs.length (zs.map (Value.int .i64))) (hl : zs.length ≤ 1000000) :
    Calls Tryz.prog 108 #[v] w fun e w' => e = .returned (.tuple #[]) ∧ w'.ownsRow base 3 1 v zs.length ((zs.mergeSort fun x y => decide (x ≤ y)).map (Value.int .i64)) ∧ w.grownBy w' v.ownBlock := by
  by_cases hv : v = .slice none 0 0
  · subst hv
    have h0 : zs = [] := by
      rcases h.2 with ⟨_, e⟩ | ⟨_, _, _, e, _⟩
      · exact List.eq_nil_of_length_eq_zero e
      · cases e
    subst h0
    refine (Tryz.slices_Sort_int_none none 0 w).mono ?_
    rintro e w' ⟨rfl, rfl⟩
    exact ⟨rfl, by simpa using h, ⟨rfl, rfl, rfl, Nat.le_refl _, fun _ _ _ => rfl⟩⟩
  · obtain ⟨g, cap, rfl, hb, hlt, hn, hm, _, hH⟩ := Lib.holds_of_ownsRow h hv
    refine (Tryz.slices_Sort_int g 0 cap zs w hH hlt (by omega)).mono ?_
    rintro e w' ⟨rfl, n, os, rfl⟩
    refine ⟨rfl, ?_, grownBy_sortedI _⟩
    rcases h.2 with ⟨e, _⟩ | ⟨g', cap', cur, e, _, hg, _, _, hc, _⟩
    · cases e
    · cases e
      exact ownsRow_sortedI (ss := zs) (by simp) hb hg hn hm hc

theorem compact_own {base : Nat} {w : World} {v : Value} {zs : List Int} (h : w.ownsRow base 3 1 v zs.length (zs.map (Value.int .i64))) (hl : zs.length ≤ 1000000) :
    Calls Tryz.prog 109 #[v] w fun e w' => ∃ v', e = .returned v' ∧ w'.ownsRow base 3 1 v' (Lib.compact zs).length ((Lib.compact zs).map (Value.int .i64)) ∧ w.grownBy w' v.ownBlock := by
  by_cases hv : v = .slice none 0 0
  · subst hv
    have h0 : zs = [] := by
      rcases h.2 with ⟨_, e⟩ | ⟨_, _, _, e, _⟩
      · exact List.eq_nil_of_length_eq_zero e
      · cases e
    subst h0
    refine (Tryz.slices_Compact_int_empty none 0 w).mono ?_
    rintro e w' ⟨rfl, rfl⟩
    exact ⟨_, rfl, h, ⟨rfl, rfl, rfl, Nat.le_refl _, fun _ _ _ => rfl⟩⟩
  · obtain ⟨g, cap, rfl, hb, hlt, hn, hm, _, hH⟩ := Lib.holds_of_ownsRow h hv
    refine (Tryz.slices_Compact_int g 0 cap zs w hH (by omega) hn).mono ?_
    rintro e w' ⟨rfl, q, rfl⟩
    have hcl := Lib.compact_length_le zs
    refine ⟨_, rfl, ?_, ?_⟩
    · have := Lib.ownsRow_putRow (q := q) (k := (Lib.compact zs).length) (ys := Lib.compact zs ++ List.replicate (zs.length - (Lib.compact zs).length) 0) h (by simp; omega) hcl
      simpa using this
    · have := grownBy_sortedI (w := w) (g := g) (n := q) (os := #[]) (Lib.compact zs ++ List.replicate (zs.length - (Lib.compact zs).length) 0).toArray
      simpa [Value.ownBlock] using this

theorem own_ints {base : Nat} {w : World} {v : Value} {l : List Int} (h : w.ownsRow base 3 1 v l.length (l.map (Value.int .i64))) : ∃ a c, v = .slice a l.length c ∧ IsSl rpInt (fun q => base ≤ q) w v l := by
  have hA : Acc rpInt 3 base (fun _ => False) w v l := by
    refine ⟨l.map (fun z => [.int .i64 z]), by simp, ?_, fun i hi => ⟨[.int .i64 l[i]], by simp [List.getElem?_eq_getElem hi], rfl⟩⟩
    have : (l.map (fun z => [Value.int .i64 z])).flatten = l.map (Value.int .i64) := by
      clear h
      induction l with
      | nil => rfl
      | cons a l ih => simp only [List.map_cons, List.flatten_cons, ih]; rfl
    rw [this]; exact h
  obtain ⟨a, c, hv⟩ := hA.len_shape
  exact ⟨a, c, hv, hA.sl (fun _ _ h => h.elim) (fun _ h => h)⟩
end Go.Proofs.YtdmiekaeodcehaaGreat

namespace Go.Proofs.YtdmiekaeodcehaaGreat
open Go.RowKit

theorem leaves_marks {F : Fence} {n : Nat} {P : Program} {fn : Func} {tmps : Array Value} {R : Ending → World → Prop} (B : Nat) : ∀ (Ds : List Nat) (w : World), Ds.Nodup → B ≤ w.heap.size → (∀ D ∈ Ds, B ≤ D ∧ w.heap[D]? = some (.deferred (some []))) →
    (∀ w', Keep (fun _ => True) w w' → Below B w w' → LeavesIn F n P fn tmps R [] .returning w') → LeavesInM F n P fn tmps R (Ds.map fun D => { target := .collected D, args := #[] }) .returning w
  | [], w, _, _, _, hk => hk w (Keep.refl _ _) (Below.refl _ _)
  | D :: Ds, w, hd, hB, hD, hk => by
    rw [List.nodup_cons] at hd
    have h1 := hD D (by simp)
    have hlt : D < w.heap.size := (Array.getElem?_eq_some_iff.1 h1.2).1
    refine ⟨by simp, .inl ⟨D, _, rfl, run_takeDeferred h1.2, ?_⟩⟩
    have hbel : Below B w (w.putObj D (.deferred none)) := (Below.refl _ _).grown (grownBy_putObj' w D (.deferred none)) hB (fun r e => by cases e; exact h1.1)
    have hkp : Keep (fun _ => True) w (w.putObj D (.deferred none)) := fun o v k _ hv => cell_kept hv (grownBy_putObj' _ D (.deferred none)) (fun r e => by cases e; exact ⟨_, h1.2, rfl⟩)
    refine leaves_marks B Ds _ hd.2 (by simpa using hB) (fun D' hD' => ⟨(hD D' (by simp [hD'])).1, ?_⟩) fun w' hk' hb' => hk w' (hkp.trans hk') (hbel.trans hb')
    have hne : D' ≠ D := fun e => hd.1 (e ▸ hD')
    exact (World.putObj_heap_other hne).trans (hD D' (by simp [hD'])).2

theorem keepsOthers_grown {W W' : World} {row : Option Nat} (hg : W.grownBy W' row) (hr : ∀ r, row = some r → ∃ o : Obj, W.heap[r]? = some o ∧ o.isCells = true) : KeepsOthers W W' :=
  ⟨hg.size, fun k o ho hc => (hg.block k (Array.getElem?_eq_some_iff.1 ho).1 (fun e => by
    obtain ⟨o', ho', hc'⟩ := hr k e.symm
    rw [ho] at ho'; cases ho'; rw [hc] at hc'; cases hc')).trans ho⟩

theorem own_row {w : World} {base : Nat} {e : TypeId} {size : Nat} {v : Value} {n : Nat} {xs : List Value} (h : w.ownsRow base e size v n xs) : ∀ r, v.ownBlock = some r → base ≤ r ∧ ∃ cs, w.heap[r]? = some (.cells cs e (0, 0)) := by
  intro r hr
  rcases h.2 with ⟨rfl, _⟩ | ⟨g, cap, cur, rfl, hb, hg, _⟩
  · cases hr
  · cases hr; exact ⟨hb, _, hg⟩
theorem own_kept {w w' : World} {base : Nat} {e : TypeId} {size : Nat} {v : Value} {n : Nat} {xs : List Value} {row : Option Nat} (h : w.ownsRow base e size v n xs) (hg : w.grownBy w' row)
    (hr : ∀ r, row = some r → ∃ o : Obj, w.heap[r]? = some o ∧ ∀ cs, o ≠ .cells cs e (0, 0)) : w'.ownsRow base e size v n xs := by
  refine h.kept hg ?_
  cases hv : v.ownBlock with
  | none => exact .inl rfl
  | some g =>
    refine .inr fun e' => ?_
    obtain ⟨_, cs, hc⟩ := own_row h g hv
    obtain ⟨o, ho, hne⟩ := hr g e'.symm
    rw [hc] at ho; cases ho; exact hne cs rfl

structure OutAt (w : World) (Ds : List Nat) (vv : Value) (zs : List Int) (W : World) : Prop where
  box : Blk W w.heap.size #[vv] 82
  own : W.ownsRow (w.heap.size + 1) 3 1 vv zs.length (zs.map (Value.int .i64))
  nod : Ds.Nodup
  marks : ∀ D ∈ Ds, w.heap.size + 1 ≤ D ∧ W.heap[D]? = some (.deferred (some []))
  below : Below w.heap.size w W
def OutG (B k : Nat) (t : TypeId) : Prop := k < B ∨ (B < k ∧ t ≠ 3)
namespace OutAt
variable {w W W' : World} {Ds : List Nat} {vv : Value} {zs : List Int}
theorem lt (h : OutAt w Ds vv zs W) : ∀ D ∈ Ds, D < W.heap.size := fun D hD => (Array.getElem?_eq_some_iff.1 (h.marks D hD).2).1
theorem blw (h : OutAt w Ds vv zs W) (hb : Below W.heap.size W W') : OutAt w Ds vv zs W' :=
  ⟨h.box.below hb, ownsRow_below h.own hb, h.nod, fun D hD => ⟨(h.marks D hD).1, (hb.block D (h.lt D hD)).trans (h.marks D hD).2⟩, h.below.trans (hb.mono h.below.size)⟩
theorem alloc (h : OutAt w Ds vv zs W) (o : Obj) : OutAt w Ds vv zs (W.alloc o) := h.blw ((Below.refl _ _).alloc (Nat.le_refl _) _)
theorem grown {B : Nat} {row : Option Nat} (h : OutAt w Ds vv zs W) (hlt : ∀ D ∈ Ds, D < B) (hwB : w.heap.size < B) (hg : W.grownBy W' row)
    (hr : ∀ r, row = some r → B ≤ r ∧ ∃ o : Obj, W.heap[r]? = some o ∧ ∀ cs, o ≠ .cells cs 3 (0, 0)) : OutAt w Ds vv zs W' :=
  ⟨h.box.grown hg (fun e => by have := (hr _ e).1; omega), own_kept h.own hg (fun r e => (hr r e).2), h.nod,
    fun D hD => ⟨(h.marks D hD).1, (hg.block D (h.lt D hD) (fun e => by have := (hr _ e.symm).1; have := hlt D hD; omega)).trans (h.marks D hD).2⟩,
    h.below.grown hg h.below.size (fun r e => by have := (hr r e).1; omega)⟩
theorem mark (h : OutAt w Ds vv zs W) {D : Nat} (hD : W.heap[D]? = some (.deferred (some []))) (hn : ∀ D' ∈ Ds, D' < D) (hw : w.heap.size + 1 ≤ D) : OutAt w (D :: Ds) vv zs W :=
  ⟨h.box, h.own, List.nodup_cons.2 ⟨fun hm => by have := hn D hm; omega, h.nod⟩, fun D' h' => by
    rcases List.mem_cons.1 h' with rfl | h'
    · exact ⟨hw, hD⟩
    · exact h.marks D' h', h.below⟩
theorem push (h : OutAt w Ds vv zs W) (x : Int) {w3 : World} {v' : Value} (hg : (W.alloc (.cells #[.int .i64 x] 3)).grownBy w3 vv.ownBlock)
    (hown : w3.ownsRow (w.heap.size + 1) 3 1 v' (zs.length + 1) (zs.map (Value.int .i64) ++ [.int .i64 x])) :
    OutAt w Ds v' (zs ++ [x]) (w3.setCell ⟨w.heap.size, 0, none⟩ v') ∧ KeepsOthers W (w3.setCell ⟨w.heap.size, 0, none⟩ v') ∧ KeepC (OutG w.heap.size) W (w3.setCell ⟨w.heap.size, 0, none⟩ v') := by
  have ho1 := h.own.alloc (.cells #[.int .i64 x] 3)
  have h1 := h.alloc (.cells #[.int .i64 x] 3)
  have hrow := own_row ho1
  have hk3 : KeepsOthers (W.alloc (.cells #[.int .i64 x] 3)) w3 := keepsOthers_grown hg (fun r e => by
    obtain ⟨_, cs, hc⟩ := hrow r e; exact ⟨_, hc, rfl⟩)
  have hbox3 : Blk w3 w.heap.size #[vv] 82 := h1.box.grown hg (fun e => by have := (hrow _ e).1; omega)
  have hbel3 : Below w.heap.size w w3 := h1.below.grown hg h1.below.size (fun r e => by have := (hrow r e).1; omega)
  have hkc : KeepC (OutG w.heap.size) (W.alloc (.cells #[.int .i64 x] 3)) w3 := ⟨hg.size, fun k cs t fr hk hc => (hg.block k (Array.getElem?_eq_some_iff.1 hc).1 (fun e => by
    obtain ⟨hle, cs', hc'⟩ := hrow k e.symm
    rw [hc] at hc'; cases hc'
    rcases hk with hk | hk
    · omega
    · exact hk.2 rfl)).trans hc⟩
  refine ⟨⟨hbox3.set 0 _, ?_, h.nod, fun D hD => ⟨(h1.marks D hD).1, ?_⟩, hbel3.setCell (by simp) _⟩, (((KeepsOthers.alloc W _).trans hk3).trans (KeepsOthers.setCell _ _ _)), ?_⟩
  · have := ownsRow_setCell_below hown (a := ⟨w.heap.size, 0, none⟩) (by simp) v'
    simpa using this
  · exact (KeepsOthers.setCell w3 _ v').same D _ (hk3.same D _ (h1.marks D hD).2 rfl) rfl
  · exact (((KeepC.refl _ W).alloc _).trans hkc).setCell _ _ (fun t ht => by rcases ht with h | h <;> simp at h)
theorem push_box (h : OutAt w Ds vv zs W) {x : Int} {w3 : World} (hg : (W.alloc (.cells #[.int .i64 x] 3)).grownBy w3 vv.ownBlock) : Blk w3 w.heap.size #[vv] 82 :=
  (h.alloc (.cells #[.int .i64 x] 3)).box.grown hg (fun e => by have := (own_row (h.own.alloc (.cells #[.int .i64 x] 3)) _ e).1; omega)
theorem turned (h : OutAt w Ds vv zs W) {ys : List Int} {W' : World} (hg : W.grownBy W' vv.ownBlock) {v' : Value} (hown : W'.ownsRow (w.heap.size + 1) 3 1 v' ys.length (ys.map (Value.int .i64))) :
    (Blk W' w.heap.size #[vv] 82 ∧ ∀ D ∈ Ds, w.heap.size + 1 ≤ D ∧ W'.heap[D]? = some (.deferred (some []))) ∧ Below w.heap.size w W' := by
  have hrow := own_row h.own
  refine ⟨⟨h.box.grown hg (fun e => by have := (hrow _ e).1; omega), fun D hD => ⟨(h.marks D hD).1, ?_⟩⟩, h.below.grown hg h.below.size (fun r e => by have := (hrow r e).1; omega)⟩
  refine (hg.block D (h.lt D hD) (fun e => ?_)).trans (h.marks D hD).2
  obtain ⟨_, cs, hc⟩ := hrow D e.symm
  rw [(h.marks D hD).2] at hc; cases hc
theorem sorted (h : OutAt w Ds vv zs W) {ys : List Int} {W' : World} (hg : W.grownBy W' vv.ownBlock) (hown : W'.ownsRow (w.heap.size + 1) 3 1 vv ys.length (ys.map (Value.int .i64))) : OutAt w Ds vv ys W' :=
  let q := h.turned hg hown
  ⟨q.1.1, hown, h.nod, q.1.2, q.2⟩
theorem leave (h : OutAt w Ds vv zs W) {ys : List Int} {W' : World} (hg : W.grownBy W' vv.ownBlock) {v' : Value} (hown : W'.ownsRow (w.heap.size + 1) 3 1 v' ys.length (ys.map (Value.int .i64)))
    {F : Fence} {n : Nat} {P : Program} {fn : Func} {tmps : Array Value} (hr : ∀ w3 : World, (results fn tmps).run P w3 = .ok v' w3) :
    LeavesInM F n P fn tmps (FreshInts ys w) (Ds.map fun D => { target := .collected D, args := #[] }) .returning W' := by
  obtain ⟨⟨hb, hm⟩, hbel⟩ := h.turned hg hown
  refine leaves_marks (w.heap.size + 1) Ds W' h.nod (by have := hb.lt; omega) hm (fun w3 hk hb3 => ?_)
  obtain ⟨a, c, hv, hs⟩ := own_ints hown
  subst hv
  exact ⟨_, hr w3, a, c, rfl, (hs.keep (fun k o u _ hu => hk k o u trivial hu)).weaken (by decide) (fun q _ hq => by omega), hbel.trans (hb3.mono (by omega))⟩
end OutAt
end Go.Proofs.YtdmiekaeodcehaaGreat

namespace Go.Proofs.YtdmiekaeodcehaaGreat
open Go.RowKit Go.Shelf
attribute [local go_sem] Oper.semAt_some

theorem tms_cells {F : Nat → Prop} {w : World} {v : Value} {l : List Tm} (h : IsSl rpTm F w v l) : ∃ a c, v = .slice a l.length c ∧ (l.length ≤ maxLen ∧ l.length ≤ c) ∧ ∃ (bl off : Nat),
    (0 < l.length → a = some ⟨bl, off, none⟩ ∧ F bl) ∧ ∀ j (hj : j < l.length), ∃ b k i s, w.cell? ⟨bl, off + j * 4, none⟩ = some b ∧ w.cell? ⟨bl, off + j * 4 + 1, none⟩ = some k ∧ w.cell? ⟨bl, off + j * 4 + 2, none⟩ = some i ∧ w.cell? ⟨bl, off + j * 4 + 3, none⟩ = some s ∧ IsTm F w b k i s l[j] := by
  obtain ⟨a, c, bl, off, X, hv, hm, ha, h1, h2⟩ := h
  refine ⟨a, c, hv, hm, bl, off, ha, fun j hj => ?_⟩
  obtain ⟨b, k, i, s, hx, ht⟩ := h2 j hj
  exact ⟨b, k, i, s, h1 j 0 b hj (by rw [hx]; rfl), h1 j 1 k hj (by rw [hx]; rfl), h1 j 2 i hj (by rw [hx]; rfl), h1 j 3 s hj (by rw [hx]; rfl), ht⟩

def metasP (l : List (Nat × Nat × Tm)) : List Int := l.filterMap fun p => if p.2.2.kind = 2 then some p.2.2.index else none
def metasL (l : List Tm) : List Int := l.flatMap fun t => metasP (t.pre 0 1)
theorem metasL_take (l : List Tm) (j : Nat) (h : j < l.length) : metasL (l.take (j + 1)) = metasL (l.take j) ++ metasP (l[j].pre 0 1) := by
  rw [List.take_succ_eq_append_getElem h]; unfold metasL; rw [List.flatMap_append]; simp
theorem metasL_len (l : List Tm) (m : Nat) (h : ∀ t ∈ l, t.full ≤ m) : (metasL l).length ≤ l.length * m := by
  induction l with
  | nil => simp [metasL]
  | cons t l ih =>
    have h1 := h t (by simp)
    have h2 := ih (fun u hu => h u (by simp [hu]))
    have h3 : (metasL (t :: l)).length = (metasP (t.pre 0 1)).length + (metasL l).length := by simp [metasL]
    have h4 : (metasP (t.pre 0 1)).length ≤ (t.pre 0 1).length := List.length_filterMap_le _ _
    rw [Tm.pre_length] at h4
    have h5 := Tm.size_le_full t
    rw [h3, List.length_cons, Nat.succ_mul]; omega
set_option maxRecDepth 100000 in
set_option maxHeartbeats 4000000 in
theorem metas6_k {F : Nat → Prop} {w : World} {v : Value} {l : List Tm} (h : IsSl rpTm F w v l) (hl : l.length ≤ 9) (hsz : ∀ t ∈ l, t.full ≤ 90000) : Calls Tryz.prog 66 #[v] w (FreshInts (sortU (metasL l)) w) := by
  refine (callsIn_wide (n := 9)).1 ?_
  have Ht := Lib.hid (h.weaken (F' := fun _ => True) (by decide) fun _ _ _ => trivial)
  obtain ⟨a, c, rfl, hm, bl, off, ha, hc⟩ := tms_cells Ht.out
  obtain ⟨ll, hll⟩ : ∃ x, l.length = x := ⟨_, rfl⟩
  clear h Ht
  have Hm := Lib.hid hm; clear hm
  have Hc := Lib.hid hc; clear hc
  have Hsz := Lib.hid hsz; clear hsz
  rw [hll] at ha hl ⊢
  obtain ⟨i2, hi2, hz0, hz1, hz2⟩ := info_parts infoI
  refine callsIn_of_wp_marks Tryz.func66 rfl trivial ?_ rfl
  simp only [Tryz.ntmps66, List.size_toArray, List.length_cons, List.length_nil, Nat.reduceAdd, Nat.reduceSub, Array.replicate_succ, Array.replicate_zero, List.push_toArray, List.append_toArray, List.nil_append, List.cons_append]
  gi_wp2_with fail
  refine wpIn_loop (fun a' w' => ∃ (j : Nat) (Ds : List Nat) (zs : List Int) (vv u5 u11 u12 u13 u14 u15 u28 : Value), a' = { tmps := #[.slice a ll c, undef, .slice none 0 0, .pointer (some ⟨w.heap.size, 0, none⟩), undef, u5, undef, undef, .slice a ll c, .int .i64 ll, .int .i64 j, u11, u12, u13, u14, u15, undef, undef, undef, undef, undef, undef, undef, undef, undef, undef, undef, undef, u28, undef, undef, undef, undef], defers := Ds.map fun D => { target := .collected D, args := #[] } } ∧
      j ≤ ll ∧ Hid (zs = metasL (l.take j)) ∧ OutAt w Ds vv zs w') (fun a' _ => ll - (intOf (a'.tmps.getD 10 undef)).toNat) ?start ?round
  case start =>
    refine ⟨0, [], [], .slice none 0 0, undef, undef, undef, undef, undef, undef, undef, rfl, by omega, by show _ = _; simp [metasL], ?_⟩
    exact ⟨Blk.new _ _ _ rfl, World.ownsRow_nil _ _ _ _, by simp, by simp, (Below.refl _ _).alloc (Nat.le_refl _) _⟩
  case round =>
    rintro a' W ⟨j, Ds, zs, vv, u5, u11, u12, u13, u14, u15, u28, rfl, hj, hzs, hO⟩
    have hj0 : (0 : Int) ≤ (j : Int) := Int.natCast_nonneg _
    have HO := Lib.hid hO; clear hO
    by_cases hlt : j < ll
    · have hj1 : (j : Int) < (ll : Int) := by omega
      obtain ⟨rfl, _⟩ := ha (by omega)
      obtain ⟨vb, vk, vi, vs, e1, e2, e3, e4, hty⟩ := Hc.out j (by omega)
      have hW := HO.out.below
      have e1 := ((Keep.refl (fun _ => True) _).below hW) _ _ _ trivial e1
      have e2 := ((Keep.refl (fun _ => True) _).below hW) _ _ _ trivial e2
      have e3 := ((Keep.refl (fun _ => True) _).below hW) _ _ _ trivial e3
      have e4 := ((Keep.refl (fun _ => True) _).below hW) _ _ _ trivial e4
      have Htk := Lib.hid (metasL_take l j (by omega))
      have hts := Hsz.out l[j] (List.getElem_mem _)
      obtain ⟨t, ht⟩ : ∃ t, l[j] = t := ⟨_, rfl⟩
      rw [ht] at hty Htk hts
      clear ht
      obtain ⟨pa, pc, qa, qc, rfl, rfl, rfl, rfl⟩ := hty.shape
      have Hty := Lib.hid hty; clear hty
      obtain ⟨x1, hx1⟩ : ∃ x, t.binds.length = x := ⟨_, rfl⟩
      obtain ⟨x2, hx2⟩ : ∃ x, t.args.length = x := ⟨_, rfl⟩
      obtain ⟨x3, hx3⟩ : ∃ x, t.kind = x := ⟨_, rfl⟩
      obtain ⟨x4, hx4⟩ : ∃ x, t.index = x := ⟨_, rfl⟩
      rw [hx1, hx2, hx3, hx4] at Hty
      rw [hx1] at e1
      rw [hx3] at e2
      rw [hx4] at e3
      rw [hx2] at e4
      clear hx1 hx2 hx3 hx4
      gi_wp2_with fail
      refine ⟨trivial, (each6_k _ _ _ _ _ _ ⟨_, _, _, rfl⟩ ⟨_, rfl⟩ ⟨_, rfl⟩ ⟨_, _, _, rfl⟩).mono ?_⟩
      rintro e w' ⟨rfl, rfl⟩
      gi_wp2_with fail
      have HO5 := Lib.hid ((HO.out.alloc (.cells #[.slice pa x1 pc, .int .i64 x3, .int .i64 x4, .slice qa x2 qc] 36)).alloc (.cells #[.slice pa x1 pc, .int .i64 x3, .int .i64 x4, .slice qa x2 qc] 36))
      obtain ⟨w5, hw5⟩ : ∃ w5, (W.alloc (.cells #[.slice pa x1 pc, .int .i64 x3, .int .i64 x4, .slice qa x2 qc] 36)).alloc (.cells #[.slice pa x1 pc, .int .i64 x3, .int .i64 x4, .slice qa x2 qc] 36) = w5 := ⟨_, rfl⟩
      have hz : w5.heap.size = W.heap.size + 2 := by rw [← hw5]; simp
      have y3 : Blk w5 (W.heap.size + 1) #[.slice pa x1 pc, .int .i64 x3, .int .i64 x4, .slice qa x2 qc] 36 := by rw [← hw5]; exact Blk.new _ _ _ (by simp)
      rw [hw5] at HO5 ⊢
      clear hw5
      have hsz1 := HO.out.box.lt
      have hlts := HO.out.lt
      clear HO
      have Hlts : Hid (∀ D ∈ Ds, D < w5.heap.size) := fun D hD => by have := hlts D hD; omega
      clear hlts
      refine range_softA (Ok := SpotOk) (fun o h => .inl h) rfl (by omega) (gf := 125) (lb := #[.pointer (some ⟨W.heap.size + 1, 0, none⟩)]) rfl trivial (enters_of Tryz.func125 (by kernel_rfl) rfl)
        (each6_soft (OutG w.heap.size) (fun k _ _ hk => .inl hk) Hty.out (by omega) (9 - 1) w5 (fun k _ hk ht => .inr ⟨by omega, ht⟩) ((Keep.refl _ _).below HO5.out.below) (W.heap.size + 1) y3)
        (fun h h' => h.trans h') (fun W l o o' _ hl ho _ => KeepC.putObj _ W l o o' hl ho) (Below.refl _ _) (fun _ => rfl)
        (fun pre V => ∃ v', OutAt w Ds v' (zs ++ metasP (pre.map Hit6.key)) V)
        (fun _ _ _ => False)
        (fun pre A B row ⟨v', h⟩ hg hr => ⟨v', h.grown Hlts.out (by omega) hg (fun r e => by
          obtain ⟨h1, o, ho, hc⟩ := hr r e
          refine ⟨h1, o, ho, fun cs e => ?_⟩
          subst e
          rcases hc with hc | ⟨cs', fr, hc⟩
          · simp [Obj.isCells] at hc
          · cases hc)⟩)
        (fun _ _ _ _ _ hs _ _ => hs)
        ⟨vv, by simpa [metasP] using HO5.out⟩
        (fun x a' V => ∃ Bx, Blk V Bx #[.slice x.pb x.t.binds.length x.cb, .int .i64 x.t.kind, .int .i64 x.t.index, .slice x.pa x.t.args.length x.ca] 36 ∧ a' = { tmps := #[.slice (some ⟨bl, off, none⟩) ll c, undef, .slice none 0 0, .pointer (some ⟨w.heap.size, 0, none⟩), undef, .pointer (some ⟨W.heap.size, 0, none⟩), undef, .pointer (some ⟨Bx, 0, none⟩), .slice (some ⟨bl, off, none⟩) ll c, .int .i64 ll, .int .i64 j, .bool true, .pointer (some ⟨bl, off + j * 4, none⟩), .agg #[.slice pa x1 pc, .int .i64 x3, .int .i64 x4, .slice qa x2 qc], .agg #[.slice pa x1 pc, .int .i64 x3, .int .i64 x4, .slice qa x2 qc], .func (.func 125) #[] #[.pointer (some ⟨W.heap.size + 1, 0, none⟩)], .agg #[.int .i64 x.s, .int .i64 x.d], .agg #[.slice x.pb x.t.binds.length x.cb, .int .i64 x.t.kind, .int .i64 x.t.index, .slice x.pa x.t.args.length x.ca], undef, undef, undef, undef, undef, undef, undef, undef, undef, undef, u28, undef, undef, undef, undef], defers := [] })
        (fun x a' W l o o' hl ho hoc => by
          rintro ⟨Bx, h2, h3⟩
          have hne : l ≠ Bx := fun e => by
            subst e
            have hb : W.heap[l]? = _ := h2
            rw [hb] at ho; cases ho; simp [Obj.isCells] at hoc
          exact ⟨Bx, (World.putObj_heap_other (Ne.symm hne)).trans h2, h3⟩) ?assign ?body ?done ?stop
      case assign =>
        rintro l pre x V K ⟨v', hV⟩ hK
        have HK := Lib.hid hK; clear hK
        have HV := Lib.hid hV; clear hV
        simp only [Hit6.enc] at *
        gi_wp2
        exact HK.out _ _ ((KeepsOthers.alloc _ _).from _) ((KeepC.refl _ V).alloc _) ⟨v', HV.out.alloc _⟩ ⟨V.heap.size, Blk.new _ _ _ rfl, rfl⟩
      case body =>
        rintro l' pre x a' V ⟨v', hV⟩ hlt' ⟨Bx, bX, rfl⟩
        have c1 : V.cell? ⟨w.heap.size, 0, none⟩ = some v' := hV.box.cell rfl
        have cx1 : V.cell? ⟨Bx, 1, none⟩ = some (.int .i64 x.t.kind) := bX.cell rfl
        have cx2 : V.cell? ⟨Bx, 2, none⟩ = some (.int .i64 x.t.index) := bX.cell rfl
        have hlen0 : (zs ++ metasP (pre.map Hit6.key)).length ≤ 900000 := by
          have h1 : (metasL (l.take j)).length ≤ 720000 := by
            have := metasL_len (l.take j) 90000 (fun t ht => Hsz.out t (List.mem_of_mem_take ht))
            have h2 : (l.take j).length ≤ 8 := by simp; omega
            exact Nat.le_trans this (Nat.le_trans (Nat.mul_le_mul_right 90000 h2) (by decide))
          have h2 : (metasP (pre.map Hit6.key)).length ≤ pre.length := by
            have := List.length_filterMap_le (fun p : Nat × Nat × Tm => if p.2.2.kind = 2 then some p.2.2.index else none) (pre.map Hit6.key)
            simpa [metasP] using this
          have h3 := Tm.size_le_full t
          rw [hzs.out, List.length_append]
          omega
        have hkey : metasP ((pre ++ [x]).map Hit6.key) = metasP (pre.map Hit6.key) ++ (if x.t.kind = 2 then [x.t.index] else []) := by
          unfold metasP
          rw [List.map_append, List.filterMap_append]
          congr 1
          by_cases hk : x.t.kind = 2
          · simp [Hit6.key, hk]
          · simp [Hit6.key, hk]
        have hkey2 : zs ++ metasP ((pre ++ [x]).map Hit6.key) = (zs ++ metasP (pre.map Hit6.key)) ++ (if x.t.kind = 2 then [x.t.index] else []) := by rw [hkey, List.append_assoc]
        clear hkey
        obtain ⟨zp, hzp⟩ : ∃ zp, zs ++ metasP (pre.map Hit6.key) = zp := ⟨_, rfl⟩
        rw [hzp] at hV hkey2 hlen0
        obtain ⟨kk, hkk⟩ : ∃ k, x.t.kind = k := ⟨_, rfl⟩
        obtain ⟨ii, hii⟩ : ∃ k, x.t.index = k := ⟨_, rfl⟩
        rw [hkk, hii] at hkey2
        rw [hkk] at cx1 ⊢
        rw [hii] at cx2 ⊢
        clear hzp hkk hii
        have HV := Lib.hid hV; clear hV
        have hsz3 := HV.out.below.size
        have f0 := HV.out.box.free 0
        by_cases hk : kk = 2
        · subst hk
          rw [if_pos rfl] at hkey2
          have Hkey := Lib.hid hkey2; clear hkey2
          gi_wp2_with (gi_at_builtin; refine wpListIn_append_own _ rfl _ _ 82 rfl (w.heap.size + 1) 3 i2 _ 1 8 Tryz.underlying82 hi2 hz0 hz1 hz2 rfl (by decide) v' zp.length (zp.map (Value.int .i64)) rfl (HV.out.own.alloc _) ⟨V.heap.size, 0, none⟩ 1 1 [.int .i64 ii] rfl rfl (fun jj u hu => by
              cases jj with
              | zero => simp at hu; subst hu; exact (Blk.new V #[.int .i64 ii] 3 rfl).cell rfl
              | succ _ => simp at hu) (by simp [Value.oneCell']) (by simp [maxLen]; omega) (by omega) (by have := HV.out.box.lt; simp; omega) ?_; intro v2 w3 hown3 hg3 hnil3; have Hg3 := Lib.hid hg3; obtain ⟨g3, cap3, rfl⟩ := ownsRow_succ hown3; have Hown3 := Lib.hid hown3; clear hown3 hg3 hnil3; have c3 := (HV.out.push_box Hg3.out).cell (i := 0) rfl; have f3 := (HV.out.push_box Hg3.out).free 0)
          obtain ⟨q1, q2, q3⟩ := HV.out.push ii Hg3.out Hown3.out
          exact ⟨q2.from _, q3, _, by rw [Hkey.out]; exact q1⟩
        · rw [if_neg hk, List.append_nil] at hkey2
          have Hkey := Lib.hid hkey2; clear hkey2
          have hk' : (kk == 2) = false := by simpa using hk
          gi_wp2
          exact ⟨(KeepsOthers.refl _).from _, KeepC.refl _ _, _, by rw [Hkey.out]; exact HV.out⟩
      case done =>
        rintro D ys V hD hys ⟨v', hV⟩ hK
        have hV2 := hV.mark hK (fun D' h' => by have := Hlts.out D' h'; omega) (by omega)
        have Hz : Hid (zs ++ metasP (ys.map Hit6.key) = metasL (l.take (j + 1))) := by show _ = _; rw [hys, Htk.out, hzs.out]
        rw [Hz.out] at hV2
        clear hV hK hys
        have HV := Lib.hid hV2; clear hV2
        gi_wp2_with fail
        refine ⟨⟨j + 1, D :: Ds, _, v', _, _, _, _, _, _, _, rfl, by omega, rfl, HV.out⟩, ?_⟩
        simp [intOf]; omega
      case stop =>
        rintro D cc pre V _ _ h _
        exact h.elim
    · have hO := HO.out
      have hz2 : zs = metasL l := by rw [hzs.out, List.take_of_length_le (by omega)]
      have hlen : zs.length ≤ 1000000 := by
        have := metasL_len l 90000 Hsz.out
        rw [hz2]
        exact Nat.le_trans this (Nat.le_trans (Nat.mul_le_mul_right 90000 (show l.length ≤ 9 by omega)) (by decide))
      have c1 : W.cell? ⟨w.heap.size, 0, none⟩ = some vv := hO.box.cell rfl
      clear hO
      gi_wp2_with fail
      refine ⟨trivial, (callsIn_wide.2 (sort_own (base := w.heap.size + 1) HO.out.own hlen)).mono ?_⟩
      rintro e W2 ⟨rfl, hown2, hg2⟩
      have hl2 := List.length_mergeSort (le := fun x y : Int => decide (x ≤ y)) zs
      have HO2 := Lib.hid (HO.out.sorted hg2 (by rw [hl2]; exact hown2))
      clear HO hown2 hg2
      have c2 : W2.cell? ⟨w.heap.size, 0, none⟩ = some vv := HO2.out.box.cell rfl
      gi_wp2_with fail
      refine ⟨trivial, (callsIn_wide.2 (compact_own (base := w.heap.size + 1) HO2.out.own (by rw [hl2]; exact hlen))).mono ?_⟩
      rintro e W3 ⟨v', rfl, hown3, hg3⟩
      have Hown3 := Lib.hid hown3; have Hg3 := Lib.hid hg3
      clear hown3 hg3
      gi_wp2_with fail
      have h := HO2.out.leave Hg3.out Hown3.out (F := Fence.wide) (n := 9) (P := Tryz.prog) (fn := Tryz.f66) (tmps := #[.slice a ll c, undef, v', .pointer (some ⟨w.heap.size, 0, none⟩), undef, u5, undef, undef, .slice a ll c, .int .i64 ll, .int .i64 j, .bool false, u12, u13, u14, u15, undef, undef, undef, undef, undef, undef, undef, undef, undef, undef, undef, undef, u28, vv, .tuple #[], vv, v']) (fun w3 => results_tmp (t := 2) rfl _ _ w3)
      rw [hz2] at h
      exact h
end Go.Proofs.YtdmiekaeodcehaaGreat

namespace Go.Proofs.YtdmiekaeodcehaaGreat
open Go.RowKit
theorem metas_d (l : List Tm) (hl : l.length ≤ 9) (hz : ∀ t ∈ l, t.full ≤ 90000) : PureC Tryz.prog 66 [.sl 4 (eTms l) none] (.sl 1 (eIs (sortU (metasL l))) none) := by
  refine pure_below (by kernel_rfl) fun m Im w vs hv => ?_
  match vs, hv with
  | [x], hv =>
    have hs : IsSl rpTm (fun _ => True) w x l := (sl_of_rel (r := rpTm) (e := eTm) eTm_len (fun x t hx _ => tm_of_rel t hx) (by decide) (by rw [eTms_map] at hv; exact hv.1)).weaken (by decide) fun _ _ _ => trivial
    refine (metas6_k hs hl hz).mono ?_
    rintro e w' ⟨a, c, rfl, h1, h2⟩
    refine ⟨_, rfl, h2, fun Im' _ hI => ?_⟩
    exact rel_of_sl (r := rpInt) (e := fun i => [.v (.int .i64 i)]) (fun b o v hq hc => hI b o v hq hc) (fun _ => rfl) (fun x a h => by
      have : x = [.int .i64 a] := h
      subst this; exact ⟨.v _, trivial⟩) h1

def fidx (P : Int → Bool) (l : List Int) : Int := match l.findIdx? P with | some i => (i : Int) | none => -1
theorem fidx_at {P : Int → Bool} {l : List Int} {i : Nat} (h : i < l.length) (h1 : P l[i] = true) (h2 : ∀ j (h : j < l.length), j < i → P l[j] = false) : fidx P l = i := by
  have : l.findIdx? P = some i := List.findIdx?_eq_some_iff_getElem.2 ⟨h, h1, fun j hj => by rw [h2 j (by omega) hj]; simp⟩
  rw [fidx, this]
theorem fidx_no {P : Int → Bool} {l : List Int} (h2 : ∀ j (h : j < l.length), P l[j] = false) : fidx P l = -1 := by
  have : l.findIdx? P = none := List.findIdx?_eq_none_iff.2 fun x hx => by
    obtain ⟨i, hi, rfl⟩ := List.getElem_of_mem hx
    exact h2 i hi
  rw [fidx, this]
theorem fidx_any (P : Int → Bool) (l : List Int) : decide (fidx P l ≥ 0) = l.any P := by
  rw [fidx]
  cases h : l.findIdx? P with
  | some i =>
    obtain ⟨h1, h2, _⟩ := List.findIdx?_eq_some_iff_getElem.1 h
    rw [List.any_eq_true.2 ⟨_, List.getElem_mem h1, h2⟩]
    simp
  | none =>
    rw [List.any_eq_false.2 fun x hx => by simp [List.findIdx?_eq_none_iff.1 h x hx]]
    simp
namespace Li
def lo (t : Tm) : Bool := decide ((t.looses 0).foldl looseL 0 > 0)
def rt (t : Tm) : Bool := decide (t.size ≤ 5000 ∧ t.depth ≤ 60)
def may (L R : Tm) (M B : List Ty) : Int :=
  if (lo L || lo R) = true then 1
  else if ((sortU (metasL [L, R])).any fun x => decide (x < 0 ∨ (M.length : Int) ≤ x)) = true then 10
  else if (decide ((B.length : Int) > 900) || (!rt L || !rt R)) = true then 2 else 0
def done (p : Pr) : Pr × Int := if (rt p.l && rt p.r) = true then (p, 0) else (.z, 2)
def cl (t : Tm) (B : List Ty) : Tm := .mk (B ++ t.binds) t.kind t.index t.args
def arr (B : List Ty) (t : Ty) : Ty := .mk (B ++ t.args) t.base
def up (p : Pr) (B : List Ty) : Pr := ⟨lif B p.l 0, lif B p.r 0, p.m.map (arr B)⟩
def over (p : Pr) (B : List Ty) : Pr × Int := if may p.l p.r p.m B ≠ 0 then (.z, may p.l p.r p.m B) else done (up p B)
def clP (p : Pr) (B : List Ty) : Pr := ⟨cl p.l B, cl p.r B, p.m⟩
def closed (p : Pr) (B : List Ty) : Pr × Int := if (over p B).2 ≠ 0 then (.z, (over p B).2) else done (clP (over p B).1 B)
end Li
theorem nodup_le : ∀ (l m : List Int), l.Nodup → (∀ x ∈ l, x ∈ m) → l.length ≤ m.length
  | [], m, _, _ => Nat.zero_le _
  | x :: l, m, h1, h2 => by
    have hx := h2 x (by simp)
    have := nodup_le l (m.erase x) (List.nodup_cons.1 h1).2 fun y hy => (List.mem_erase_of_ne fun e => (List.nodup_cons.1 h1).1 (by rw [← e]; exact hy)).2 (h2 y (by simp [hy]))
    rw [List.length_erase_of_mem hx] at this
    have := List.length_pos_of_mem hx
    simp; omega
theorem sortU_len (l : List Int) : (sortU l).length ≤ l.length :=
  nodup_le _ _ ((sortU_spec l).1.imp fun h => by omega) fun x h => ((sortU_spec l).2 x).1 h
end Go.Proofs.YtdmiekaeodcehaaGreat

namespace Go.Proofs.YtdmiekaeodcehaaGreat
open Go.RowKit
def eBd (b : Pn.Bd) : List (Int × D) := b.map fun p => (p.1, .ag (eTm p.2))
@[simp] theorem eBd_ok (f g : Nat → Bool) (b : Pn.Bd) : D.okm f g (eBd b) = true := okm_map _ b fun p _ => by simp [D.ok, eTm_ok]
end Go.Proofs.YtdmiekaeodcehaaGreat

namespace Go.Proofs.YtdmiekaeodcehaaGreat
open Go.RowKit

namespace Pn
end Pn

end Go.Proofs.YtdmiekaeodcehaaGreat

namespace Go.Proofs.YtdmiekaeodcehaaGreat
open Go.RowKit

section
variable {P : Program} {T : List (Nat × TI)} {cx : Cx} {Fr : Nat → Prop} {m : Mp} {Im : Nat → Nat → Prop} {w w' : World} {a : Act} {σ σ' : List (Key × D)}
theorem St.drew (h : St cx Fr m Im w a σ) : St cx Fr m Im w.drew a σ := h.below0 (Below.refl _ _).drew
end

section
variable {P : Program} {T : List (Nat × TI)} {cx : Cx} {m : Mp} {Im : Nat → Nat → Prop} {w : World} {a : Act} {σ : List (Key × D)} {ops : Array Oper} {Q : Exit → Act → World → Prop}
end
end Go.Proofs.YtdmiekaeodcehaaGreat

namespace Go.Proofs.YtdmiekaeodcehaaGreat
open Go.RowKit
def ePP (p : Tm × Tm) : List D := eTm p.1 ++ eTm p.2
def ePPs (l : List (Tm × Tm)) : List (List D) := l.map ePP
theorem ePP_eq (p : Tm × Tm) : ePP p = [.sl 2 (eTys p.1.binds) none, .v (.int .i64 p.1.kind), .v (.int .i64 p.1.index), .sl 4 (eTms p.1.args) none, .sl 2 (eTys p.2.binds) none, .v (.int .i64 p.2.kind), .v (.int .i64 p.2.index), .sl 4 (eTms p.2.args) none] := by unfold ePP; rw [eTm_eq, eTm_eq]; rfl
@[simp] theorem ePPs_ok (f g : Nat → Bool) (l : List (Tm × Tm)) : D.okss f g (ePPs l) = true := D.okss_map _ l fun p _ => by simp [ePP_eq, D.oks, D.ok, eTms_ok, eTys_ok]
namespace Pn
end Pn
end Go.Proofs.YtdmiekaeodcehaaGreat

namespace Go.Proofs.YtdmiekaeodcehaaGreat
open Go.RowKit
/-! the examples -/
def mb (i : Int) : Tm := .mk [] 0 i []
def mc (i : Int) (l : List Tm) : Tm := .mk [] 1 i l
def mm (l : List Tm) : Tm := .mk [] 2 0 l
end Go.Proofs.YtdmiekaeodcehaaGreat

namespace Go.Proofs.YtdmiekaeodcehaaGreat
open Go.RowKit

end Go.Proofs.YtdmiekaeodcehaaGreat

namespace Go.Proofs.YtdmiekaeodcehaaGreat
open Go.RowKit
end Go.Proofs.YtdmiekaeodcehaaGreat

namespace Go.Proofs.YtdmiekaeodcehaaGreat
open Go.RowKit

end Go.Proofs.YtdmiekaeodcehaaGreat

namespace Go.Proofs.YtdmiekaeodcehaaGreat
open Go.RowKit
end Go.Proofs.YtdmiekaeodcehaaGreat

namespace Go.Proofs.YtdmiekaeodcehaaGreat
open Go.RowKit

end Go.Proofs.YtdmiekaeodcehaaGreat

namespace Go.Proofs.YtdmiekaeodcehaaGreat
open Go.RowKit
end Go.Proofs.YtdmiekaeodcehaaGreat

namespace Go.Proofs.YtdmiekaeodcehaaGreat
open Go.RowKit
/-! the example -/
namespace Li
def kA : Ty := .mk [] 0
def kX : Tm := .mk [] 2 0 []
def kC : Tm := .mk [] 1 0 [kX]
end Li
/-! the law -/
theorem sizes_le22 {l : List Ty} {n : Nat} (h : ∀ t ∈ l, t.size ≤ n) : Ty.sizes l ≤ l.length * n := by
  induction l with
  | nil => simp [Ty.sizes]
  | cons t l ih =>
    have h1 := h t (by simp)
    have h2 := ih fun u hu => h u (by simp [hu])
    rw [Ty.sizes, List.length_cons, Nat.add_mul]; omega
end Go.Proofs.YtdmiekaeodcehaaGreat

namespace Go.Proofs.YtdmiekaeodcehaaGreat
open Go.RowKit

end Go.Proofs.YtdmiekaeodcehaaGreat

namespace Go.Proofs.YtdmiekaeodcehaaGreat
open Go.RowKit
namespace Li
end Li
end Go.Proofs.YtdmiekaeodcehaaGreat

namespace Go.Proofs.YtdmiekaeodcehaaGreat
open Go.RowKit
namespace Pn
end Pn
end Go.Proofs.YtdmiekaeodcehaaGreat

namespace Go.Proofs.YtdmiekaeodcehaaGreat
open Go.RowKit

end Go.Proofs.YtdmiekaeodcehaaGreat

namespace Go.Proofs.YtdmiekaeodcehaaGreat
open Go.RowKit

end Go.Proofs.YtdmiekaeodcehaaGreat

namespace Go.Proofs.YtdmiekaeodcehaaGreat
open Go.RowKit

def sgn (x y : Int) : Int := if x < y then -1 else if y < x then 1 else 0
def orl (a b : Int) : Int := if a = 0 then b else a
def orls : List Int → Int
  | [] => 0
  | a :: l => orl a (orls l)
@[simp] theorem orl_zero (b : Int) : orl 0 b = b := by simp [orl]
@[simp] theorem orl_zero_right (a : Int) : orl a 0 = a := by unfold orl; split <;> simp_all
theorem orl_eq_zero {a b : Int} : orl a b = 0 ↔ a = 0 ∧ b = 0 := by unfold orl; split <;> simp_all
theorem orl_ne {a b : Int} (h : a ≠ 0) : orl a b = a := by simp [orl, h]
theorem orl_neg (a b : Int) : orl (-a) (-b) = - orl a b := by unfold orl; split <;> split <;> omega
theorem orl_assoc (a b c : Int) : orl (orl a b) c = orl a (orl b c) := by
  unfold orl
  by_cases h : a = 0 <;> simp [h]
theorem sgn_neg (x y : Int) : sgn y x = - sgn x y := by unfold sgn; split <;> split <;> (try split) <;> omega
theorem sgn_zero {x y : Int} : sgn x y = 0 ↔ x = y := by unfold sgn; constructor <;> intro h <;> (repeat split at h) <;> (repeat split) <;> omega
theorem sgn_range (x y : Int) : -1 ≤ sgn x y ∧ sgn x y ≤ 1 := by unfold sgn; repeat split <;> omega
theorem orl_range {a b : Int} (ha : -1 ≤ a ∧ a ≤ 1) (hb : -1 ≤ b ∧ b ≤ 1) : -1 ≤ orl a b ∧ orl a b ≤ 1 := by unfold orl; split <;> omega

namespace Ty
mutual
def cmp : Ty → Ty → Int
  | .mk l b, .mk l' b' => orl (orl (orl (sgn (Ty.sizes l + 1 : Nat) (Ty.sizes l' + 1 : Nat)) (sgn (l.length : Nat) (l'.length : Nat))) (cmps l l')) (sgn b b')
def cmps : List Ty → List Ty → Int
  | [], _ => 0
  | _ :: _, [] => 0
  | t :: l, u :: l' => orl (cmp t u) (cmps l l')
end
theorem cmp_mk (l l' : List Ty) (b b' : Int) : cmp (.mk l b) (.mk l' b') = orl (orl (orl (sgn (size (.mk l b)) (size (.mk l' b'))) (sgn l.length l'.length)) (cmps l l')) (sgn b b') := by
  rw [cmp]; simp [size]
theorem cmps_cons (t u : Ty) (l l' : List Ty) : cmps (t :: l) (u :: l') = orl (cmp t u) (cmps l l') := by rw [cmps]
@[simp] theorem cmps_nil (l : List Ty) : cmps [] l = 0 := by rw [cmps]

theorem cmps_self_of {l : List Ty} (h : ∀ t ∈ l, cmp t t = 0) : cmps l l = 0 := by
  induction l with
  | nil => simp
  | cons t l ih => rw [cmps_cons, h t (by simp), ih fun u hu => h u (by simp [hu])]; simp
theorem cmp_self (t : Ty) : cmp t t = 0 := by
  induction t using Ty.ind with
  | h l b ih => rw [cmp_mk, cmps_self_of ih]; simp [sgn]
theorem cmps_zero_of {l : List Ty} (h : ∀ t ∈ l, ∀ u, cmp t u = 0 → t = u) : ∀ l', l.length = l'.length → cmps l l' = 0 → l = l' := by
  induction l with
  | nil => intro l' h1; cases l' <;> simp_all
  | cons t l ih =>
    intro l' h1 h2
    cases l' with
    | nil => simp at h1
    | cons u l' =>
      rw [cmps_cons, orl_eq_zero] at h2
      rw [h t (by simp) u h2.1, ih (fun u hu => h u (by simp [hu])) l' (by simpa using h1) h2.2]
theorem eq_of_cmp (t : Ty) : ∀ u, cmp t u = 0 → t = u := by
  induction t using Ty.ind with
  | h l b ih =>
    intro u h
    cases u with
    | mk l' b' =>
      rw [cmp_mk] at h
      simp only [orl_eq_zero, sgn_zero] at h
      rw [cmps_zero_of ih l' (by have := h.1.1.2; omega) h.1.2, h.2]
theorem cmp_zero (t u : Ty) : cmp t u = 0 ↔ t = u := ⟨eq_of_cmp t u, fun h => h ▸ cmp_self t⟩
theorem cmps_zero {l l' : List Ty} (h : l.length = l'.length) : cmps l l' = 0 ↔ l = l' :=
  ⟨cmps_zero_of (fun t _ => eq_of_cmp t) l' h, fun h => h ▸ cmps_self_of fun t _ => cmp_self t⟩
theorem cmps_neg_of {l : List Ty} (h : ∀ t ∈ l, ∀ u, cmp u t = - cmp t u) : ∀ l', cmps l' l = - cmps l l' := by
  induction l with
  | nil => intro l'; cases l' <;> simp [cmps]
  | cons t l ih =>
    intro l'
    cases l' with
    | nil => simp [cmps]
    | cons u l' => rw [cmps_cons, cmps_cons, h t (by simp), ih (fun u hu => h u (by simp [hu])), orl_neg]
theorem cmp_neg (t : Ty) : ∀ u, cmp u t = - cmp t u := by
  induction t using Ty.ind with
  | h l b ih =>
    intro u
    cases u with
    | mk l' b' => rw [cmp_mk, cmp_mk, cmps_neg_of ih, sgn_neg b b', sgn_neg (size (.mk l b)) _, sgn_neg l.length, orl_neg, orl_neg, orl_neg]
theorem cmps_neg (l l' : List Ty) : cmps l' l = - cmps l l' := cmps_neg_of (fun t _ => cmp_neg t) l'
theorem cmps_range_of {l : List Ty} (h : ∀ t ∈ l, ∀ u, -1 ≤ cmp t u ∧ cmp t u ≤ 1) : ∀ l', -1 ≤ cmps l l' ∧ cmps l l' ≤ 1 := by
  induction l with
  | nil => intro l'; simp
  | cons t l ih =>
    intro l'
    cases l' with
    | nil => simp [cmps]
    | cons u l' => rw [cmps_cons]; exact orl_range (h t (by simp) u) (ih (fun u hu => h u (by simp [hu])) l')
theorem cmp_range (t : Ty) : ∀ u, -1 ≤ cmp t u ∧ cmp t u ≤ 1 := by
  induction t using Ty.ind with
  | h l b ih =>
    intro u
    cases u with
    | mk l' b' => rw [cmp_mk]; exact orl_range (orl_range (orl_range (sgn_range _ _) (sgn_range _ _)) (cmps_range_of ih l')) (sgn_range _ _)
theorem cmps_range (l l' : List Ty) : -1 ≤ cmps l l' ∧ cmps l l' ≤ 1 := cmps_range_of (fun t _ => cmp_range t) l'
end Ty
end Go.Proofs.YtdmiekaeodcehaaGreat

namespace Go.Proofs.YtdmiekaeodcehaaGreat
open Go.RowKit

namespace Tm
def cmpB (l l' : List Ty) : Int := orl (sgn (l.length : Nat) (l'.length : Nat)) (Ty.cmps l l')
mutual
def cmp : Tm → Tm → Int
  | .mk b k i a, .mk b' k' i' a' => orl (sgn (Tm.sizes a + 1 : Nat) (Tm.sizes a' + 1 : Nat)) (orl (cmpB b b') (orl (sgn k k') (orl (sgn i i') (orl (sgn (a.length : Nat) (a'.length : Nat)) (cmps a a')))))
def cmps : List Tm → List Tm → Int
  | [], _ => 0
  | _ :: _, [] => 0
  | t :: l, u :: l' => orl (cmp t u) (cmps l l')
end
theorem cmp_mk (b : List Ty) (k i : Int) (a : List Tm) (b' : List Ty) (k' i' : Int) (a' : List Tm) : cmp (.mk b k i a) (.mk b' k' i' a') = orl (sgn (size (.mk b k i a)) (size (.mk b' k' i' a'))) (orl (cmpB b b') (orl (sgn k k') (orl (sgn i i') (orl (sgn a.length a'.length) (cmps a a'))))) := by
  rw [cmp]; simp [size]
theorem cmps_cons (t u : Tm) (l l' : List Tm) : cmps (t :: l) (u :: l') = orl (cmp t u) (cmps l l') := by rw [cmps]
@[simp] theorem cmps_nil (l : List Tm) : cmps [] l = 0 := by rw [cmps]
theorem cmpB_self (l : List Ty) : cmpB l l = 0 := by
  rw [cmpB, orl_eq_zero]; exact ⟨sgn_zero.2 rfl, (Ty.cmps_zero rfl).2 rfl⟩
theorem cmpB_zero {l l' : List Ty} : cmpB l l' = 0 ↔ l = l' := by
  constructor
  · intro h
    rw [cmpB, orl_eq_zero, sgn_zero] at h
    exact (Ty.cmps_zero (by omega)).1 h.2
  · rintro rfl; exact cmpB_self l
theorem cmpB_neg (l l' : List Ty) : cmpB l' l = - cmpB l l' := by rw [cmpB, cmpB, ← orl_neg, Ty.cmps_neg, sgn_neg (l.length : Int)]
theorem cmps_self_of {l : List Tm} (h : ∀ t ∈ l, cmp t t = 0) : cmps l l = 0 := by
  induction l with
  | nil => simp
  | cons t l ih => rw [cmps_cons, h t (by simp), ih fun u hu => h u (by simp [hu])]; simp
theorem cmp_self (t : Tm) : cmp t t = 0 := by
  induction t using Tm.ind with
  | h b k i a ih => rw [cmp_mk, cmps_self_of ih, cmpB_self]; simp [sgn]
theorem cmps_zero_of {l : List Tm} (h : ∀ t ∈ l, ∀ u, cmp t u = 0 → t = u) : ∀ l', l.length = l'.length → cmps l l' = 0 → l = l' := by
  induction l with
  | nil => intro l' h1; cases l' <;> simp_all
  | cons t l ih =>
    intro l' h1 h2
    cases l' with
    | nil => simp at h1
    | cons u l' =>
      rw [cmps_cons, orl_eq_zero] at h2
      rw [h t (by simp) u h2.1, ih (fun u hu => h u (by simp [hu])) l' (by simpa using h1) h2.2]
theorem eq_of_cmp (t : Tm) : ∀ u, cmp t u = 0 → t = u := by
  induction t using Tm.ind with
  | h b k i a ih =>
    intro u h
    cases u with
    | mk b' k' i' a' =>
      rw [cmp_mk] at h
      simp only [orl_eq_zero, sgn_zero, cmpB_zero] at h
      obtain ⟨_, rfl, rfl, rfl, h1, h2⟩ := h
      rw [cmps_zero_of ih a' (by omega) h2]
theorem cmp_zero (t u : Tm) : cmp t u = 0 ↔ t = u := ⟨eq_of_cmp t u, fun h => h ▸ cmp_self t⟩
theorem cmps_neg_of {l : List Tm} (h : ∀ t ∈ l, ∀ u, cmp u t = - cmp t u) : ∀ l', cmps l' l = - cmps l l' := by
  induction l with
  | nil => intro l'; cases l' <;> simp [cmps]
  | cons t l ih =>
    intro l'
    cases l' with
    | nil => simp [cmps]
    | cons u l' => rw [cmps_cons, cmps_cons, h t (by simp), ih (fun u hu => h u (by simp [hu])), orl_neg]
theorem cmp_neg (t : Tm) : ∀ u, cmp u t = - cmp t u := by
  induction t using Tm.ind with
  | h b k i a ih =>
    intro u
    cases u with
    | mk b' k' i' a' => rw [cmp_mk, cmp_mk, cmps_neg_of ih, cmpB_neg, sgn_neg k, sgn_neg i, sgn_neg (size (.mk b k i a)) _, sgn_neg a.length, orl_neg, orl_neg, orl_neg, orl_neg, orl_neg]
theorem cmpB_range (l l' : List Ty) : -1 ≤ cmpB l l' ∧ cmpB l l' ≤ 1 := orl_range (sgn_range _ _) (Ty.cmps_range l l')
theorem cmps_range_of {l : List Tm} (h : ∀ t ∈ l, ∀ u, -1 ≤ cmp t u ∧ cmp t u ≤ 1) : ∀ l', -1 ≤ cmps l l' ∧ cmps l l' ≤ 1 := by
  induction l with
  | nil => intro l'; simp
  | cons t l ih =>
    intro l'
    cases l' with
    | nil => simp [cmps]
    | cons u l' => rw [cmps_cons]; exact orl_range (h t (by simp) u) (ih (fun u hu => h u (by simp [hu])) l')
theorem cmp_range (t : Tm) : ∀ u, -1 ≤ cmp t u ∧ cmp t u ≤ 1 := by
  induction t using Tm.ind with
  | h b k i a ih =>
    intro u
    cases u with
    | mk b' k' i' a' => rw [cmp_mk]; exact orl_range (sgn_range _ _) (orl_range (cmpB_range _ _) (orl_range (sgn_range _ _) (orl_range (sgn_range _ _) (orl_range (sgn_range _ _) (cmps_range_of ih a')))))
theorem cmps_drop {l l' : List Tm} {k : Nat} (h : k < l.length) (h' : k < l'.length) : cmps (l.drop k) (l'.drop k) = orl (cmp l[k] l'[k]) (cmps (l.drop (k + 1)) (l'.drop (k + 1))) := by
  rw [List.drop_eq_getElem_cons h, List.drop_eq_getElem_cons h', cmps_cons]
end Tm
end Go.Proofs.YtdmiekaeodcehaaGreat

namespace Go.Proofs.YtdmiekaeodcehaaGreat
open Go.RowKit

theorem sgn_lt {x y : Int} (h : x < y) : sgn x y = -1 := by simp [sgn, h]
theorem sgn_gt {x y : Int} (h : y < x) : sgn x y = 1 := by simp [sgn, h, show ¬ x < y by omega]
theorem sgn_eq {x y : Int} (h1 : ¬ x < y) (h2 : ¬ y < x) : sgn x y = 0 := by simp [sgn, h1, h2]

theorem sign_r (w : World) (x y : Int) : Calls Tryz.prog 120 #[.int .i64 x, .int .i64 y] w (RetI (sgn x y) w) := by
  by_cases h1 : x < y
  · have Hs := Lib.hid (sgn_lt h1)
    go_enter Tryz.func120, Tryz.ntmps120
    go_wp2_with fail
    go_ret
    exact ⟨by rw [Hs.out]; rfl, Below.refl _ _⟩
  · by_cases h2 : y < x
    · have Hs := Lib.hid (sgn_gt h2)
      have h2' : x > y := h2
      go_enter Tryz.func120, Tryz.ntmps120
      go_wp2_with fail
      go_ret
      exact ⟨by rw [Hs.out]; rfl, Below.refl _ _⟩
    · have Hs := Lib.hid (sgn_eq h1 h2)
      have h2' : ¬ x > y := h2
      go_enter Tryz.func120, Tryz.ntmps120
      go_wp2_with fail
      go_ret
      exact ⟨by rw [Hs.out]; rfl, Below.refl _ _⟩
theorem sign_r6 (w : World) (x y : Int) : Calls Tryz.prog 118 #[.int .i64 x, .int .i64 y] w (RetI (sgn x y) w) := by
  by_cases h1 : x < y
  · have Hs := Lib.hid (sgn_lt h1)
    go_enter Tryz.func118, Tryz.ntmps118
    go_wp2_with fail
    go_ret
    exact ⟨by rw [Hs.out]; rfl, Below.refl _ _⟩
  · by_cases h2 : y < x
    · have Hs := Lib.hid (sgn_gt h2)
      have h2' : x > y := h2
      go_enter Tryz.func118, Tryz.ntmps118
      go_wp2_with fail
      go_ret
      exact ⟨by rw [Hs.out]; rfl, Below.refl _ _⟩
    · have Hs := Lib.hid (sgn_eq h1 h2)
      have h2' : ¬ x > y := h2
      go_enter Tryz.func118, Tryz.ntmps118
      go_wp2_with fail
      go_ret
      exact ⟨by rw [Hs.out]; rfl, Below.refl _ _⟩

theorem isNaN_i (w : World) (x : Int) : Calls Tryz.prog 114 #[.int .i64 x] w fun e w' => e = .returned (.bool false) ∧ w' = w := by
  have h : (x != x) = false := by simp
  go_enter Tryz.func114, Tryz.ntmps114
  go_wp2_with fail
  go_ret
  exact ⟨rfl, rfl⟩

theorem compare_i (w : World) (x y : Int) : Calls Tryz.prog 75 #[.int .i64 x, .int .i64 y] w (RetI (sgn x y) w) := by
  by_cases h1 : x < y
  · have Hs := Lib.hid (sgn_lt h1)
    go_enter Tryz.func75, Tryz.ntmps75
    go_wp2_with fail
    refine (isNaN_i w x).mono ?_
    rintro e w1 ⟨rfl, rfl⟩
    go_wp2_with fail
    refine (isNaN_i _ y).mono ?_
    rintro e w2 ⟨rfl, rfl⟩
    go_wp2_with fail
    go_ret
    exact ⟨by rw [Hs.out]; rfl, Below.refl _ _⟩
  · by_cases h2 : y < x
    · have Hs := Lib.hid (sgn_gt h2)
      have h2' : x > y := h2
      go_enter Tryz.func75, Tryz.ntmps75
      go_wp2_with fail
      refine (isNaN_i w x).mono ?_
      rintro e w1 ⟨rfl, rfl⟩
      go_wp2_with fail
      refine (isNaN_i _ y).mono ?_
      rintro e w2 ⟨rfl, rfl⟩
      go_wp2_with fail
      go_ret
      exact ⟨by rw [Hs.out]; rfl, Below.refl _ _⟩
    · have Hs := Lib.hid (sgn_eq h1 h2)
      have h2' : ¬ x > y := h2
      go_enter Tryz.func75, Tryz.ntmps75
      go_wp2_with fail
      refine (isNaN_i w x).mono ?_
      rintro e w1 ⟨rfl, rfl⟩
      go_wp2_with fail
      refine (isNaN_i _ y).mono ?_
      rintro e w2 ⟨rfl, rfl⟩
      go_wp2_with fail
      go_ret
      exact ⟨by rw [Hs.out]; rfl, Below.refl _ _⟩

theorem orls_drop {l : List Int} {k : Nat} (hk : k < l.length) (h : l[k] = 0) : orls (l.drop k) = orls (l.drop (k + 1)) := by
  rw [List.drop_eq_getElem_cons hk, orls, h, orl_zero]
theorem orls_drop_ne {l : List Int} {k : Nat} (hk : k < l.length) (h : l[k] ≠ 0) : orls (l.drop k) = l[k] := by
  rw [List.drop_eq_getElem_cons hk, orls, orl_ne h]

theorem or_i (w : World) (bl off n c : Nat) (l : List Int) (hl : l.length = n) (hn : n ≤ 1000) (h : ∀ i (hi : i < l.length), w.cell? ⟨bl, off + i, none⟩ = some (.int .i64 l[i])) : Calls Tryz.prog 74 #[.slice (some ⟨bl, off, none⟩) n c] w (RetI (orls l) w) := by
  have Hc := Lib.hid h; clear h
  have Hl := Lib.hid hl; clear hl
  go_enter Tryz.func74, Tryz.ntmps74
  go_wp2_with fail
  go_loopw [8] (fun i wr => ∃ k : Nat, i = .int .i64 k ∧ k ≤ n ∧ wr = w ∧ Hid (orls l = orls (l.drop k))) (fun i _ => n - (intOf i).toNat)
  case atStart => exact ⟨0, rfl, by omega, rfl, rfl⟩
  case round =>
    obtain ⟨k, rfl, hk, rfl, hrel⟩ := hrel
    by_cases hlt : k < n
    · have hkl : k < l.length := by rw [Hl.out]; exact hlt
      have e1 := Hc.out k hkl
      by_cases h0 : l[k] = 0
      · have hd := Lib.hid (orls_drop hkl h0)
        rw [h0] at e1
        go_wp2_with fail
        go_roundw
        case rel => exact ⟨k + 1, by go_num, by omega, by trivial, hrel.out.trans hd.out⟩
        case measure => simp [intOf]; omega
      · have hd := Lib.hid (orls_drop_ne hkl h0)
        generalize l[k] = x at *
        have hx : (x != 0) = true := by simpa using h0
        have hx : (x == 0) = false := by simpa using h0
        go_wp2_with fail
        go_ret
        exact ⟨by rw [hrel.out, hd.out]; rfl, Below.refl _ _⟩
    · have hd : Hid (orls (l.drop k) = 0) := by show _ = _; rw [List.drop_of_length_le (by rw [Hl.out]; omega)]; rfl
      go_wp2_with fail
      go_ret
      exact ⟨by rw [hrel.out, hd.out]; rfl, Below.refl _ _⟩
theorem or2_i (w : World) (bl c : Nat) (x y : Int) (h : Blk w bl #[.int .i64 x, .int .i64 y] 3) : Calls Tryz.prog 74 #[.slice (some ⟨bl, 0, none⟩) 2 c] w (RetI (orl x y) w) := by
  have hi := or_i w bl 0 2 c [x, y] rfl (by omega) fun i hi => by
    match i, hi with
    | 0, _ => exact h.cell rfl
    | 1, _ => exact h.cell rfl
  have e : orls [x, y] = orl x y := by simp [orls]
  rw [e] at hi
  exact hi
end Go.Proofs.YtdmiekaeodcehaaGreat

namespace Go.Proofs.YtdmiekaeodcehaaGreat
open Go.RowKit

namespace Ty
theorem cmp_size {t u : Ty} (h : t.size ≠ u.size) : cmp t u = sgn t.size u.size := by
  cases t; cases u
  rw [cmp_mk, orl_assoc, orl_assoc, orl_ne (by rw [Ne, sgn_zero]; omega)]
theorem cmp_len {l l' : List Ty} {b b' : Int} (h : (mk l b).size = (mk l' b').size) (h' : l.length ≠ l'.length) : cmp (.mk l b) (.mk l' b') = sgn l.length l'.length := by
  rw [cmp_mk, orl_assoc, orl_assoc, sgn_zero.2 (by omega), orl_zero, orl_ne (by rw [Ne, sgn_zero]; omega)]
theorem cmp_in {l l' : List Ty} {b b' : Int} (h : (mk l b).size = (mk l' b').size) (h' : l.length = l'.length) : cmp (.mk l b) (.mk l' b') = orl (cmps l l') (sgn b b') := by
  rw [cmp_mk, sgn_zero.2 (by omega), orl_zero, sgn_zero.2 (by omega), orl_zero]
theorem cmps_drop {l l' : List Ty} {k : Nat} (h : k < l.length) (h' : k < l'.length) : cmps (l.drop k) (l'.drop k) = orl (cmp l[k] l'[k]) (cmps (l.drop (k + 1)) (l'.drop (k + 1))) := by
  rw [List.drop_eq_getElem_cons h, List.drop_eq_getElem_cons h', cmps_cons]
end Ty

def CmpRef (t : Ty) : Prop := ∀ (F : Nat → Prop) (w0 : World) (s b : Value), IsTy F w0 s b t → ∀ (F' : Nat → Prop) (w0' : World) (s' b' : Value) (u : Ty), IsTy F' w0' s' b' u → ∀ w : World, Keep F w0 w → Keep F' w0' w → t.size ≤ 1000000 → u.size ≤ 1000000 →
    Calls Tryz.prog 79 #[.agg #[s, b], .agg #[s', b']] w (RetI (Ty.cmp t u) w)

theorem sizes_get {l : List Ty} {b : Int} (h : (Ty.mk l b).size ≤ 1000000) (i : Nat) (hi : i < l.length) : l[i].size ≤ 1000000 := by have := Ty.size_get (b := b) i hi; omega

set_option maxRecDepth 100000 in
set_option maxHeartbeats 1600000 in
theorem compare_r : ∀ t : Ty, CmpRef t := Ty.ind fun args base ih => by
  intro F w0 s b ht F' w0' s' b' u hu w hw hw' hz hz'
  obtain ⟨args', base'⟩ := u
  have Hs := Lib.hid fun (w : World) (hw : Keep F w0 w) => size_r ht w hz hw
  have Hs' := Lib.hid fun (w : World) (hw : Keep F' w0' w) => size_r hu w hz' hw
  obtain ⟨rfl, hs⟩ := ht.inv
  obtain ⟨rfl, hs'⟩ := hu.inv
  obtain ⟨a, c, rfl⟩ := sl_shape' hs
  obtain ⟨a', c', rfl⟩ := sl_shape' hs'
  obtain ⟨_, hm, bl, off, A, N, C, B, ha, h1, h2, h3⟩ := sl_cells' hs
  obtain ⟨_, hm', bl', off', A', N', C', B', ha', h1', h2', h3'⟩ := sl_cells' hs'
  clear hs hs' ht hu
  unfold maxLen at hm hm'
  simp only [args_mk', base_mk'] at *
  have H3 : Hid (∀ i (h : i < args.length) (h' : i < args'.length) (w : World), Keep F w0 w → Keep F' w0' w → Calls Tryz.prog 79 #[.agg #[.slice (A i) (N i) (C i), .int .i64 (B i)], .agg #[.slice (A' i) (N' i) (C' i), .int .i64 (B' i)]] w (RetI (Ty.cmp args[i] args'[i]) w)) :=
    fun i h h' w hw hw' => ih _ (List.getElem_mem h) _ _ _ _ (h3 i h) _ _ _ _ _ (h3' i h') w hw hw' (sizes_get hz i h) (sizes_get hz' i h')
  clear h3 h3' ih
  obtain ⟨z, hz0⟩ : ∃ z, (Ty.mk args base).size = z := ⟨_, rfl⟩
  obtain ⟨z', hz0'⟩ : ∃ z', (Ty.mk args' base').size = z' := ⟨_, rfl⟩
  obtain ⟨r, hr⟩ : ∃ r, Ty.cmp (.mk args base) (.mk args' base') = r := ⟨_, rfl⟩
  have Hc1 := Lib.hid fun h => (Ty.cmp_size (t := .mk args base) (u := .mk args' base') h)
  have Hc2 := Lib.hid fun h h' => (Ty.cmp_len (l := args) (l' := args') (b := base) (b' := base') h h')
  have Hc3 := Lib.hid fun h h' => (Ty.cmp_in (l := args) (l' := args') (b := base) (b' := base') h h')
  rw [hr, hz0, hz0'] at Hc1
  rw [hr, hz0, hz0'] at Hc2
  rw [hr, hz0, hz0'] at Hc3
  rw [hz0] at Hs hz
  rw [hz0'] at Hs' hz'
  rw [hr]
  clear hr hz0 hz0'
  obtain ⟨wB, hwB⟩ : ∃ wB, (w.alloc (.cells #[.slice a args.length c, .int .i64 base] 91)).alloc (.cells #[.slice a' args'.length c', .int .i64 base'] 91) = wB := ⟨_, rfl⟩
  have B0 : Below w.heap.size w wB := by rw [← hwB]; exact ((Below.refl _ _).alloc (Nat.le_refl _) _).alloc (by simp) _
  have x0 : Blk wB w.heap.size #[.slice a args.length c, .int .i64 base] 91 := by rw [← hwB]; exact (Blk.new _ _ _ rfl).alloc _
  have x1 : Blk wB (w.heap.size + 1) #[.slice a' args'.length c', .int .i64 base'] 91 := by rw [← hwB]; exact Blk.new _ _ _ (by simp)
  go_enter Tryz.func79, Tryz.ntmps79
  go_wp2_with fail
  clear hwB
  refine wp_region_noPanic (wp_region_need (S := fun w' => w'.cell? ⟨w.heap.size, 0, none⟩ = some (.slice a args.length c) ∧ w'.cell? ⟨w.heap.size, 1, none⟩ = some (.int .i64 base) ∧ w'.cell? ⟨w.heap.size + 1, 0, none⟩ = some (.slice a' args'.length c') ∧ w'.cell? ⟨w.heap.size + 1, 1, none⟩ = some (.int .i64 base')) (by kernel_rfl) ?_)
  have hS : (wB.drew).cell? ⟨w.heap.size, 0, none⟩ = some (.slice a args.length c) ∧ (wB.drew).cell? ⟨w.heap.size, 1, none⟩ = some (.int .i64 base) ∧ (wB.drew).cell? ⟨w.heap.size + 1, 0, none⟩ = some (.slice a' args'.length c') ∧ (wB.drew).cell? ⟨w.heap.size + 1, 1, none⟩ = some (.int .i64 base') := ⟨x0.drew.cell rfl, x0.drew.cell rfl, x1.drew.cell rfl, x1.drew.cell rfl⟩
  refine wpN_take (i := 0) (v := ?v1) rfl (by kernel_rfl) (fun _ _ _ h => h) hS (Or.inl ⟨by rfl, ?hy1⟩) ?hr1
  case hy1 => (intro wS hSw; (try dsimp only at hSw); go_simp; (try with_reducible rfl))
  try simp only [Act.put, List.setIfInBounds_toArray, List.set_cons_zero, List.set_cons_succ, List.getElem_toArray, List.getElem_cons_zero, List.getElem_cons_succ]
  refine wpN_take (i := 2) (v := ?v2) rfl (by kernel_rfl) (fun _ _ _ h => h) hS (Or.inl ⟨by rfl, ?hy2⟩) ?hr2
  case hy2 => (intro wS hSw; (try dsimp only at hSw); go_simp; (try with_reducible rfl))
  try simp only [Act.put, List.setIfInBounds_toArray, List.set_cons_zero, List.set_cons_succ, List.getElem_toArray, List.getElem_cons_zero, List.getElem_cons_succ]
  refine wpN_step (i := 1) (by kernel_rfl) rfl (fun K hK => ?_)
  go_simp
  refine (Hs.out _ (hw.below B0).drew).mono ?_
  rintro e w1 ⟨rfl, hb1⟩
  have B1 := B0.drew.trans (hb1.mono B0.size)
  have y0 := x0.drew.below hb1
  have y1 := x1.drew.below hb1
  have hS : (w1).cell? ⟨w.heap.size, 0, none⟩ = some (.slice a args.length c) ∧ (w1).cell? ⟨w.heap.size, 1, none⟩ = some (.int .i64 base) ∧ (w1).cell? ⟨w.heap.size + 1, 0, none⟩ = some (.slice a' args'.length c') ∧ (w1).cell? ⟨w.heap.size + 1, 1, none⟩ = some (.int .i64 base') := ⟨y0.cell rfl, y0.cell rfl, y1.cell rfl, y1.cell rfl⟩
  refine hK.out _ _ (fun _ => hS) ?_
  clear hK K
  try simp only [Act.put, List.setIfInBounds_toArray, List.set_cons_zero, List.set_cons_succ, List.getElem_toArray, List.getElem_cons_zero, List.getElem_cons_succ]
  refine wpN_step (i := 3) (by kernel_rfl) rfl (fun K hK => ?_)
  go_simp
  refine (Hs'.out _ (hw'.below B1)).mono ?_
  rintro e w2 ⟨rfl, hb2⟩
  have B2 := B1.trans (hb2.mono B1.size)
  have z0 := y0.below hb2
  have z1 := y1.below hb2
  have hS : (w2).cell? ⟨w.heap.size, 0, none⟩ = some (.slice a args.length c) ∧ (w2).cell? ⟨w.heap.size, 1, none⟩ = some (.int .i64 base) ∧ (w2).cell? ⟨w.heap.size + 1, 0, none⟩ = some (.slice a' args'.length c') ∧ (w2).cell? ⟨w.heap.size + 1, 1, none⟩ = some (.int .i64 base') := ⟨z0.cell rfl, z0.cell rfl, z1.cell rfl, z1.cell rfl⟩
  refine hK.out _ _ (fun _ => hS) ?_
  clear hK K
  try simp only [Act.put, List.setIfInBounds_toArray, List.set_cons_zero, List.set_cons_succ, List.getElem_toArray, List.getElem_cons_zero, List.getElem_cons_succ]
  refine wpN_take (i := 4) (v := ?v3) rfl (by kernel_rfl) (fun _ _ _ h => h) hS (Or.inl ⟨by rfl, ?hy3⟩) ?hr3
  case hy3 => (intro wS hSw; (try dsimp only at hSw); go_simp; (try with_reducible rfl))
  try simp only [Act.put, List.setIfInBounds_toArray, List.set_cons_zero, List.set_cons_succ, List.getElem_toArray, List.getElem_cons_zero, List.getElem_cons_succ]
  refine wpN_done (by kernel_rfl) ?_
  refine NoPanic.normal ?_
  clear x0 x1 y0 y1 B0 B1 hb1 hb2
  by_cases hzz : z = z'
  rotate_left
  · have hzi : ¬ (z : Int) = (z' : Int) := by omega
    have hg : ((z : Int) == (z' : Int)) = false := by simpa using hzi
    have hg' : ((z : Int) != (z' : Int)) = true := by simpa using hzi
    have Hr := Lib.hid (Hc1.out hzz)
    go_wp2_with fail
    refine wp_region_noPanic (wp_region_need (S := fun w' => w'.cell? ⟨w.heap.size, 0, none⟩ = some (.slice a args.length c) ∧ w'.cell? ⟨w.heap.size, 1, none⟩ = some (.int .i64 base) ∧ w'.cell? ⟨w.heap.size + 1, 0, none⟩ = some (.slice a' args'.length c') ∧ w'.cell? ⟨w.heap.size + 1, 1, none⟩ = some (.int .i64 base')) (by kernel_rfl) ?_)
    have hS : (w2.drew).cell? ⟨w.heap.size, 0, none⟩ = some (.slice a args.length c) ∧ (w2.drew).cell? ⟨w.heap.size, 1, none⟩ = some (.int .i64 base) ∧ (w2.drew).cell? ⟨w.heap.size + 1, 0, none⟩ = some (.slice a' args'.length c') ∧ (w2.drew).cell? ⟨w.heap.size + 1, 1, none⟩ = some (.int .i64 base') := ⟨z0.drew.cell rfl, z0.drew.cell rfl, z1.drew.cell rfl, z1.drew.cell rfl⟩
    refine wpN_take (i := 0) (v := ?v4) rfl (by kernel_rfl) (fun _ _ _ h => h) hS (Or.inl ⟨by rfl, ?hy4⟩) ?hr4
    case hy4 => (intro wS hSw; (try dsimp only at hSw); go_simp; (try with_reducible rfl))
    try simp only [Act.put, List.setIfInBounds_toArray, List.set_cons_zero, List.set_cons_succ, List.getElem_toArray, List.getElem_cons_zero, List.getElem_cons_succ]
    refine wpN_take (i := 2) (v := ?v5) rfl (by kernel_rfl) (fun _ _ _ h => h) hS (Or.inl ⟨by rfl, ?hy5⟩) ?hr5
    case hy5 => (intro wS hSw; (try dsimp only at hSw); go_simp; (try with_reducible rfl))
    try simp only [Act.put, List.setIfInBounds_toArray, List.set_cons_zero, List.set_cons_succ, List.getElem_toArray, List.getElem_cons_zero, List.getElem_cons_succ]
    refine wpN_step (i := 1) (by kernel_rfl) rfl (fun K hK => ?_)
    go_simp
    refine (Hs.out _ (hw.below B2).drew).mono ?_
    rintro e w3 ⟨rfl, hb3⟩
    have B3 := B2.drew.trans (hb3.mono B2.size)
    have y0 := z0.drew.below hb3
    have y1 := z1.drew.below hb3
    have hS : (w3).cell? ⟨w.heap.size, 0, none⟩ = some (.slice a args.length c) ∧ (w3).cell? ⟨w.heap.size, 1, none⟩ = some (.int .i64 base) ∧ (w3).cell? ⟨w.heap.size + 1, 0, none⟩ = some (.slice a' args'.length c') ∧ (w3).cell? ⟨w.heap.size + 1, 1, none⟩ = some (.int .i64 base') := ⟨y0.cell rfl, y0.cell rfl, y1.cell rfl, y1.cell rfl⟩
    refine hK.out _ _ (fun _ => hS) ?_
    clear hK K
    try simp only [Act.put, List.setIfInBounds_toArray, List.set_cons_zero, List.set_cons_succ, List.getElem_toArray, List.getElem_cons_zero, List.getElem_cons_succ]
    refine wpN_step (i := 3) (by kernel_rfl) rfl (fun K hK => ?_)
    go_simp
    refine (Hs'.out _ (hw'.below B3)).mono ?_
    rintro e w4 ⟨rfl, hb4⟩
    have B4 := B3.trans (hb4.mono B3.size)
    have u0 := y0.below hb4
    have u1 := y1.below hb4
    have hS : (w4).cell? ⟨w.heap.size, 0, none⟩ = some (.slice a args.length c) ∧ (w4).cell? ⟨w.heap.size, 1, none⟩ = some (.int .i64 base) ∧ (w4).cell? ⟨w.heap.size + 1, 0, none⟩ = some (.slice a' args'.length c') ∧ (w4).cell? ⟨w.heap.size + 1, 1, none⟩ = some (.int .i64 base') := ⟨u0.cell rfl, u0.cell rfl, u1.cell rfl, u1.cell rfl⟩
    refine hK.out _ _ (fun _ => hS) ?_
    clear hK K
    try simp only [Act.put, List.setIfInBounds_toArray, List.set_cons_zero, List.set_cons_succ, List.getElem_toArray, List.getElem_cons_zero, List.getElem_cons_succ]
    refine wpN_step (i := 4) (by kernel_rfl) rfl (fun K hK => ?_)
    go_simp
    refine (sign_r _ _ _).mono ?_
    rintro e w5 ⟨rfl, hb5⟩
    have B5 := B4.trans (hb5.mono B4.size)
    have t0 := u0.below hb5
    have t1 := u1.below hb5
    have hS : (w5).cell? ⟨w.heap.size, 0, none⟩ = some (.slice a args.length c) ∧ (w5).cell? ⟨w.heap.size, 1, none⟩ = some (.int .i64 base) ∧ (w5).cell? ⟨w.heap.size + 1, 0, none⟩ = some (.slice a' args'.length c') ∧ (w5).cell? ⟨w.heap.size + 1, 1, none⟩ = some (.int .i64 base') := ⟨t0.cell rfl, t0.cell rfl, t1.cell rfl, t1.cell rfl⟩
    refine hK.out _ _ (fun _ => hS) ?_
    clear hK K
    try simp only [Act.put, List.setIfInBounds_toArray, List.set_cons_zero, List.set_cons_succ, List.getElem_toArray, List.getElem_cons_zero, List.getElem_cons_succ]
    refine wpN_step (i := 5) (by kernel_rfl) rfl (fun K hK => ?_)
    go_simp
    refine hK.out _ _ (fun h => absurd h (by decide)) ?_
    clear hK K
    try simp only [Act.put, List.setIfInBounds_toArray, List.set_cons_zero, List.set_cons_succ, List.getElem_toArray, List.getElem_cons_zero, List.getElem_cons_succ]
    refine wpN_done (by kernel_rfl) ?_
    refine NoPanic.normal ?_
    go_wp2_with fail
    go_ret
    exact ⟨by rw [Hr.out]; rfl, B5⟩
  · subst hzz
    have hg : ((z : Int) == (z : Int)) = true := by simp
    have hg' : ((z : Int) != (z : Int)) = false := by simp
    have c0 : w2.cell? ⟨w.heap.size, 0, none⟩ = some (.slice a args.length c) := z0.cell rfl
    have c1 : w2.cell? ⟨w.heap.size + 1, 0, none⟩ = some (.slice a' args'.length c') := z1.cell rfl
    by_cases hll : args.length = args'.length
    rotate_left
    · have hli : ¬ (args.length : Int) = (args'.length : Int) := by omega
      have hh : ((args.length : Int) == (args'.length : Int)) = false := by simpa using hli
      have hh' : ((args.length : Int) != (args'.length : Int)) = true := by simpa using hli
      have Hr := Lib.hid (Hc2.out rfl hll)
      go_wp2_with fail
      refine (sign_r _ _ _).mono ?_
      rintro e w5 ⟨rfl, hb5⟩
      go_wp2_with fail
      go_ret
      exact ⟨by rw [Hr.out]; rfl, B2.trans (hb5.mono B2.size)⟩
    · have Hll := Lib.hid hll
      have Hr := Lib.hid (Hc3.out rfl hll)
      have hh : ((args.length : Int) == (args'.length : Int)) = true := by rw [hll]; simp
      have hh' : ((args.length : Int) != (args'.length : Int)) = false := by rw [hll]; simp
      clear hll
      go_wp2_with fail
      go_loopw [5] (fun i wr => ∃ k : Nat, i = .int .i64 k ∧ k ≤ args.length ∧ Hid (r = orl (Ty.cmps (args.drop k) (args'.drop k)) (sgn base base')) ∧ Below w.heap.size w wr ∧ Blk wr w.heap.size #[.slice a args.length c, .int .i64 base] 91 ∧ Blk wr (w.heap.size + 1) #[.slice a' args'.length c', .int .i64 base'] 91) (fun i _ => args.length - (intOf i).toNat)
      case atStart => exact ⟨0, rfl, by omega, Hr.out, B2, z0, z1⟩
      case round =>
        clear B2 z0 z1 c0 c1
        obtain ⟨k, rfl, hk, hr, hb, hbox, hbox'⟩ := hrel
        have c0 : wr.cell? ⟨w.heap.size, 0, none⟩ = some (.slice a args.length c) := hbox.cell rfl
        have c0' : wr.cell? ⟨w.heap.size + 1, 0, none⟩ = some (.slice a' args'.length c') := hbox'.cell rfl
        have d0 : wr.cell? ⟨w.heap.size, 1, none⟩ = some (.int .i64 base) := hbox.cell rfl
        have d0' : wr.cell? ⟨w.heap.size + 1, 1, none⟩ = some (.int .i64 base') := hbox'.cell rfl
        have hlt0 := hbox'.lt
        by_cases hlt : k < args.length
        · have hlt' : k < args'.length := by rw [← Hll.out]; exact hlt
          obtain ⟨rfl, hF⟩ := ha (by omega)
          obtain ⟨rfl, hF'⟩ := ha' (by omega)
          have e1 : wr.cell? ⟨bl, off + k * 2, none⟩ = some (.slice (A k) (N k) (C k)) := (hw.below hb) _ _ _ hF (h1 k hlt)
          have e2 : wr.cell? ⟨bl, off + k * 2 + 1, none⟩ = some (.int .i64 (B k)) := (hw.below hb) _ _ _ hF (h2 k hlt)
          have e1' : wr.cell? ⟨bl', off' + k * 2, none⟩ = some (.slice (A' k) (N' k) (C' k)) := (hw'.below hb) _ _ _ hF' (h1' k hlt')
          have e2' : wr.cell? ⟨bl', off' + k * 2 + 1, none⟩ = some (.int .i64 (B' k)) := (hw'.below hb) _ _ _ hF' (h2' k hlt')
          have i0 : (0 : Int) ≤ (k : Int) := Int.natCast_nonneg _
          have i1 : (k : Int) < (args.length : Int) := by omega
          have i2 : (k : Int) < (args'.length : Int) := by omega
          have Hd := Lib.hid (Ty.cmps_drop hlt hlt')
          go_wp2_with fail
          refine wp_region_noPanic (wp_region_need (S := fun w' => w'.cell? ⟨w.heap.size, 0, none⟩ = some (.slice (some ⟨bl, off, none⟩) args.length c) ∧ w'.cell? ⟨w.heap.size + 1, 0, none⟩ = some (.slice (some ⟨bl', off', none⟩) args'.length c') ∧ w'.cell? ⟨bl, off + k * 2, none⟩ = some (.slice (A k) (N k) (C k)) ∧ w'.cell? ⟨bl, off + k * 2 + 1, none⟩ = some (.int .i64 (B k)) ∧ w'.cell? ⟨bl', off' + k * 2, none⟩ = some (.slice (A' k) (N' k) (C' k)) ∧ w'.cell? ⟨bl', off' + k * 2 + 1, none⟩ = some (.int .i64 (B' k))) (by kernel_rfl) ?_)
          have hS : (wr.drew).cell? ⟨w.heap.size, 0, none⟩ = some (.slice (some ⟨bl, off, none⟩) args.length c) ∧ (wr.drew).cell? ⟨w.heap.size + 1, 0, none⟩ = some (.slice (some ⟨bl', off', none⟩) args'.length c') ∧ (wr.drew).cell? ⟨bl, off + k * 2, none⟩ = some (.slice (A k) (N k) (C k)) ∧ (wr.drew).cell? ⟨bl, off + k * 2 + 1, none⟩ = some (.int .i64 (B k)) ∧ (wr.drew).cell? ⟨bl', off' + k * 2, none⟩ = some (.slice (A' k) (N' k) (C' k)) ∧ (wr.drew).cell? ⟨bl', off' + k * 2 + 1, none⟩ = some (.int .i64 (B' k)) := ⟨c0, c0', e1, e2, e1', e2'⟩
          refine wpN_take (i := 0) (v := ?v6) rfl (by kernel_rfl) (fun _ _ _ h => h) hS (Or.inl ⟨by rfl, ?hy6⟩) ?hr6
          case hy6 => (intro wS hSw; (try dsimp only at hSw); go_simp; (try with_reducible rfl))
          try simp only [Act.put, List.setIfInBounds_toArray, List.set_cons_zero, List.set_cons_succ, List.getElem_toArray, List.getElem_cons_zero, List.getElem_cons_succ]
          refine wpN_take (i := 1) (v := ?v7) rfl (by kernel_rfl) (fun _ _ _ h => h) hS (Or.inl ⟨by rfl, ?hy7⟩) ?hr7
          case hy7 => (intro wS hSw; (try dsimp only at hSw); go_simp; (try with_reducible rfl))
          try simp only [Act.put, List.setIfInBounds_toArray, List.set_cons_zero, List.set_cons_succ, List.getElem_toArray, List.getElem_cons_zero, List.getElem_cons_succ]
          refine wpN_take (i := 2) (v := ?v8) rfl (by kernel_rfl) (fun _ _ _ h => h) hS (Or.inl ⟨by rfl, ?hy8⟩) ?hr8
          case hy8 => (intro wS hSw; (try dsimp only at hSw); go_simp; (try with_reducible rfl))
          try simp only [Act.put, List.setIfInBounds_toArray, List.set_cons_zero, List.set_cons_succ, List.getElem_toArray, List.getElem_cons_zero, List.getElem_cons_succ]
          refine wpN_take (i := 3) (v := ?v9) rfl (by kernel_rfl) (fun _ _ _ h => h) hS (Or.inl ⟨by rfl, ?hy9⟩) ?hr9
          case hy9 => (intro wS hSw; (try dsimp only at hSw); go_simp; (try with_reducible rfl))
          try simp only [Act.put, List.setIfInBounds_toArray, List.set_cons_zero, List.set_cons_succ, List.getElem_toArray, List.getElem_cons_zero, List.getElem_cons_succ]
          refine wpN_take (i := 4) (v := ?v10) rfl (by kernel_rfl) (fun _ _ _ h => h) hS (Or.inl ⟨by rfl, ?hy10⟩) ?hr10
          case hy10 => (intro wS hSw; (try dsimp only at hSw); go_simp; (try with_reducible rfl))
          try simp only [Act.put, List.setIfInBounds_toArray, List.set_cons_zero, List.set_cons_succ, List.getElem_toArray, List.getElem_cons_zero, List.getElem_cons_succ]
          refine wpN_take (i := 5) (v := ?v11) rfl (by kernel_rfl) (fun _ _ _ h => h) hS (Or.inl ⟨by rfl, ?hy11⟩) ?hr11
          case hy11 => (intro wS hSw; (try dsimp only at hSw); go_simp; (try with_reducible rfl))
          try simp only [Act.put, List.setIfInBounds_toArray, List.set_cons_zero, List.set_cons_succ, List.getElem_toArray, List.getElem_cons_zero, List.getElem_cons_succ]
          refine wpN_take (i := 6) (v := ?v12) rfl (by kernel_rfl) (fun _ _ _ h => h) hS (Or.inl ⟨by rfl, ?hy12⟩) ?hr12
          case hy12 => (intro wS hSw; (try dsimp only at hSw); go_simp; (try with_reducible rfl))
          try simp only [Act.put, List.setIfInBounds_toArray, List.set_cons_zero, List.set_cons_succ, List.getElem_toArray, List.getElem_cons_zero, List.getElem_cons_succ]
          refine wpN_take (i := 7) (v := ?v13) rfl (by kernel_rfl) (fun _ _ _ h => h) hS (Or.inl ⟨by rfl, ?hy13⟩) ?hr13
          case hy13 => (intro wS hSw; (try dsimp only at hSw); go_simp; (try with_reducible rfl))
          try simp only [Act.put, List.setIfInBounds_toArray, List.set_cons_zero, List.set_cons_succ, List.getElem_toArray, List.getElem_cons_zero, List.getElem_cons_succ]
          refine wpN_take (i := 8) (v := ?v14) rfl (by kernel_rfl) (fun _ _ _ h => h) hS (Or.inl ⟨by rfl, ?hy14⟩) ?hr14
          case hy14 => (intro wS hSw; (try dsimp only at hSw); go_simp; (try with_reducible rfl))
          try simp only [Act.put, List.setIfInBounds_toArray, List.set_cons_zero, List.set_cons_succ, List.getElem_toArray, List.getElem_cons_zero, List.getElem_cons_succ]
          refine wpN_take (i := 9) (v := ?v15) rfl (by kernel_rfl) (fun _ _ _ h => h) hS (Or.inl ⟨by rfl, ?hy15⟩) ?hr15
          case hy15 => (intro wS hSw; (try dsimp only at hSw); go_simp; (try with_reducible rfl))
          try simp only [Act.put, List.setIfInBounds_toArray, List.set_cons_zero, List.set_cons_succ, List.getElem_toArray, List.getElem_cons_zero, List.getElem_cons_succ]
          refine wpN_step (i := 10) (by kernel_rfl) rfl (fun K hK => ?_)
          go_simp
          refine (H3.out k hlt hlt' _ (hw.below hb).drew (hw'.below hb).drew).mono ?_
          rintro e w1 ⟨rfl, hb1⟩
          have hB : Below w.heap.size w w1 := hb.drew.trans (hb1.mono (by simp; omega))
          have hKp : Keep (fun _ => True) wr w1 := ((Keep.refl _ _).drew).below hb1
          have hS : (w1).cell? ⟨w.heap.size, 0, none⟩ = some (.slice (some ⟨bl, off, none⟩) args.length c) ∧ (w1).cell? ⟨w.heap.size + 1, 0, none⟩ = some (.slice (some ⟨bl', off', none⟩) args'.length c') ∧ (w1).cell? ⟨bl, off + k * 2, none⟩ = some (.slice (A k) (N k) (C k)) ∧ (w1).cell? ⟨bl, off + k * 2 + 1, none⟩ = some (.int .i64 (B k)) ∧ (w1).cell? ⟨bl', off' + k * 2, none⟩ = some (.slice (A' k) (N' k) (C' k)) ∧ (w1).cell? ⟨bl', off' + k * 2 + 1, none⟩ = some (.int .i64 (B' k)) := ⟨hKp _ _ _ trivial c0, hKp _ _ _ trivial c0', hKp _ _ _ trivial e1, hKp _ _ _ trivial e2, hKp _ _ _ trivial e1', hKp _ _ _ trivial e2'⟩
          have hx := Blk.below (w := wr.drew) hbox hb1
          have hx' := Blk.below (w := wr.drew) hbox' hb1
          rw [Hd.out] at hr
          clear Hd
          generalize Ty.cmp args[k] args'[k] = x at *
          refine hK.out _ _ (fun _ => hS) ?_
          clear hK K
          try simp only [Act.put, List.setIfInBounds_toArray, List.set_cons_zero, List.set_cons_succ, List.getElem_toArray, List.getElem_cons_zero, List.getElem_cons_succ]
          refine wpN_step (i := 11) (by kernel_rfl) rfl (fun K hK => ?_)
          go_simp
          refine hK.out _ _ (fun h => absurd h (by decide)) ?_
          clear hK K
          try simp only [Act.put, List.setIfInBounds_toArray, List.set_cons_zero, List.set_cons_succ, List.getElem_toArray, List.getElem_cons_zero, List.getElem_cons_succ]
          refine wpN_done (by kernel_rfl) ?_
          refine NoPanic.normal ?_
          by_cases h0 : x = 0
          · subst h0
            go_wp2_with fail
            go_roundw
            case rel => exact ⟨k + 1, by go_num, by omega, by rw [orl_zero] at hr; exact hr, hB, hx, hx'⟩
            case measure => simp [intOf]; omega
          · have g1 : (x == 0) = false := by simpa using h0
            have g2 : (x != 0) = true := by simpa using h0
            go_wp2_with fail
            go_ret
            rw [orl_assoc, orl_ne h0] at hr
            exact ⟨by rw [hr.out]; rfl, hB⟩
        · have hr2 : Hid (r = sgn base base') := by
            have h := hr.out
            rw [List.drop_of_length_le (show args.length ≤ k by omega), Ty.cmps_nil, orl_zero] at h
            exact h
          go_wp2_with fail
          refine (sign_r _ _ _).mono ?_
          rintro e w5 ⟨rfl, hb5⟩
          go_wp2_with fail
          go_ret
          exact ⟨by rw [hr2.out]; rfl, hb.trans (hb5.mono hb.size)⟩
end Go.Proofs.YtdmiekaeodcehaaGreat

namespace Go.Proofs.YtdmiekaeodcehaaGreat
open Go.RowKit

set_option maxRecDepth 100000 in
theorem size6_r : ∀ t : Tm, ∀ {F : Nat → Prop} {w0 : World} {b k i a : Value} (_ : IsTm F w0 b k i a t) (w : World), t.size ≤ 1000000 → Keep F w0 w → Calls Tryz.prog 81 #[.agg #[b, k, i, a]] w (RetI t.size w) := Tm.ind fun binds k0 i0 args ih => by
  intro F w0 b k i a ht w hsz hw
  obtain ⟨pa, pc, qa, qc, rfl, rfl, rfl, rfl⟩ := ht.shape
  simp only [Tm.binds, Tm.kind, Tm.index, Tm.args] at ht ⊢
  obtain ⟨_, _, _, hsl⟩ := ht.inv
  simp only [Tm.args] at hsl
  obtain ⟨_, hm, bl, off, PA, A, PN, PC, N', C, Kd, Ix, ha, h1, h2, h3, h4, h5⟩ := sl_cells6 hsl
  clear ht hsl hm
  have hlen : args.length ≤ 1000000 := by have := Tm.len_sizes args; rw [Tm.size_eq] at hsz; omega
  have Hsz : Hid (∀ i (h : i < args.length), args[i].size ≤ 1000000 ∧ Tm.sizes (args.take i) + args[i].size ≤ 1000000) := fun i h => by
    have := Tm.sizes_take args i h; have := Tm.sizes_take_le args (i + 1); rw [Tm.size_eq] at hsz; omega
  have Hend : Hid ((Tm.mk binds k0 i0 args).size = Tm.sizes args + 1) := Tm.size_eq _ _ _ _
  have Hih := Lib.hid ih; clear ih hsz
  go_enter Tryz.func81, Tryz.ntmps81
  go_wp2_with fail
  go_loopw [3, 4] (fun x i wr => ∃ k : Nat, i = .int .i64 k ∧ x = .int .i64 ((Tm.sizes (args.take k) : Int) + 1) ∧ k ≤ args.length ∧ Below w.heap.size w wr ∧ Blk wr w.heap.size #[.slice pa binds.length pc, .int .i64 k0, .int .i64 i0, .slice qa args.length qc] 27) (fun _ i _ => args.length - (intOf i).toNat)
  case atStart => exact ⟨0, rfl, rfl, by omega, (Below.refl _ _).alloc (Nat.le_refl _) _, Blk.new _ _ _ rfl⟩
  case round =>
    obtain ⟨k, rfl, rfl, hk, hb, hbox⟩ := hrel
    have c0 : wr.cell? ⟨w.heap.size, 3, none⟩ = some (.slice qa args.length qc) := hbox.cell rfl
    have hlt0 := hbox.lt
    by_cases hlt : k < args.length
    · obtain ⟨rfl, hF⟩ := ha (by omega)
      have e1 := (hw.below hb) _ _ _ hF (h1 k hlt)
      have e2 := (hw.below hb) _ _ _ hF (h2 k hlt)
      have e3 := (hw.below hb) _ _ _ hF (h3 k hlt)
      have e4 := (hw.below hb) _ _ _ hF (h4 k hlt)
      have hs : Tm.sizes (args.take k) ≤ 1000000 ∧ args[k].size ≤ 1000000 := by have := Hsz.out k hlt; omega
      go_wp2_with fail
      refine (Hih.out _ (List.getElem_mem hlt) (h5 k hlt) _ (Hsz.out k hlt).1 (hw.below hb)).mono ?_
      rintro e w1 ⟨rfl, hb1⟩
      go_wp2_with fail
      go_roundw
      case rel => exact ⟨k + 1, by go_num, by rw [Tm.sizes_take _ _ hlt]; go_num, by omega, hb.trans (hb1.mono (by omega)), hbox.below hb1⟩
      case measure => simp [intOf]; omega
    · go_wp2_with fail
      go_ret
      refine ⟨?_, hb⟩
      rw [Hend.out, List.take_of_length_le (by omega)]; rfl

def CmpRef6 (t : Tm) : Prop := ∀ (F : Nat → Prop) (w0 : World) (b k i a : Value), IsTm F w0 b k i a t → ∀ (F' : Nat → Prop) (w0' : World) (b' k' i' a' : Value) (u : Tm), IsTm F' w0' b' k' i' a' u → ∀ w : World, Keep F w0 w → Keep F' w0' w → t.full ≤ 400000 → u.full ≤ 400000 →
    Calls Tryz.prog 78 #[.agg #[b, k, i, a], .agg #[b', k', i', a']] w (RetI (Tm.cmp t u) w)

set_option maxRecDepth 100000 in
set_option maxHeartbeats 1600000 in
theorem compare6_r : ∀ t : Tm, CmpRef6 t := Tm.ind fun binds k i args ih => by
  intro F w0 b0 k0 i0 a0 ht F' w0' b0' k0' i0' a0' u hu w hw hw' hz hz'
  obtain ⟨binds', k', i', args'⟩ := u
  have Hs := Lib.hid fun (w : World) (hw : Keep F w0 w) => size6_r _ ht w (by have := Tm.size_le_full (.mk binds k i args); omega) hw
  have Hs' := Lib.hid fun (w : World) (hw : Keep F' w0' w) => size6_r _ hu w (by have := Tm.size_le_full (.mk binds' k' i' args'); omega) hw
  obtain ⟨rfl, rfl, hb, hs⟩ := ht.inv
  obtain ⟨rfl, rfl, hb', hs'⟩ := hu.inv
  obtain ⟨pa, pc, rfl⟩ := hb.shape
  obtain ⟨pa', pc', rfl⟩ := hb'.shape
  obtain ⟨a, c, rfl⟩ := hs.shape
  obtain ⟨a', c', rfl⟩ := hs'.shape
  obtain ⟨_, hm, bl, off, PA, A, PN, PC, N, C, Kd, Ix, ha, h1, h2, h3, h4, h5⟩ := sl_cells6 hs
  obtain ⟨_, hm', bl', off', PA', A', PN', PC', N', C', Kd', Ix', ha', h1', h2', h3', h4', h5'⟩ := sl_cells6 hs'
  obtain ⟨_, hn, br, oft, D, E, G, B, ga, g1, g2, g5⟩ := sl_cells' hb
  obtain ⟨_, hn', br', oft', D', E', G', B', ga', g1', g2', g5'⟩ := sl_cells' hb'
  clear hb hb' hs hs' ht hu
  unfold maxLen at hm hm' hn hn'
  simp only [Tm.binds, Tm.kind, Tm.index, Tm.args] at *
  have hbz : ∀ t ∈ binds, t.size ≤ 1000000 := fun t ht => by have := Ty.size_mem ht; rw [Tm.full_eq] at hz; omega
  have hbz' : ∀ t ∈ binds', t.size ≤ 1000000 := fun t ht => by have := Ty.size_mem ht; rw [Tm.full_eq] at hz'; omega
  have H5 : Hid (∀ j (h : j < args.length) (h' : j < args'.length) (w : World), Keep F w0 w → Keep F' w0' w → Calls Tryz.prog 78 #[.agg #[.slice (PA j) (PN j) (PC j), .int .i64 (Kd j), .int .i64 (Ix j), .slice (A j) (N j) (C j)], .agg #[.slice (PA' j) (PN' j) (PC' j), .int .i64 (Kd' j), .int .i64 (Ix' j), .slice (A' j) (N' j) (C' j)]] w (RetI (Tm.cmp args[j] args'[j]) w)) :=
    fun j h h' w hw hw' => ih _ (List.getElem_mem h) _ _ _ _ _ _ (h5 j h) _ _ _ _ _ _ _ (h5' j h') w hw hw' (by have := Tm.full_mem (List.getElem_mem h); rw [Tm.full_eq] at hz; omega) (by have := Tm.full_mem (List.getElem_mem h'); rw [Tm.full_eq] at hz'; omega)
  have G5 : Hid (∀ j (h : j < binds.length) (h' : j < binds'.length) (w : World), Keep F w0 w → Keep F' w0' w → Calls Tryz.prog 79 #[.agg #[.slice (D j) (E j) (G j), .int .i64 (B j)], .agg #[.slice (D' j) (E' j) (G' j), .int .i64 (B' j)]] w (RetI (Ty.cmp binds[j] binds'[j]) w)) :=
    fun j h h' w hw hw' => compare_r _ _ _ _ _ (g5 j h) _ _ _ _ _ (g5' j h') w hw hw' (hbz _ (List.getElem_mem h)) (hbz' _ (List.getElem_mem h'))
  clear h5 h5' g5 g5' ih hbz hbz' hz hz'
  obtain ⟨z, hz0⟩ : ∃ z, (Tm.mk binds k i args).size = z := ⟨_, rfl⟩
  obtain ⟨z', hz0'⟩ : ∃ z', (Tm.mk binds' k' i' args').size = z' := ⟨_, rfl⟩
  obtain ⟨r, hr⟩ : ∃ r, Tm.cmp (.mk binds k i args) (.mk binds' k' i' args') = r := ⟨_, rfl⟩
  have Hr := Lib.hid (Tm.cmp_mk binds k i args binds' k' i' args')
  rw [hr, hz0, hz0'] at Hr
  rw [hz0] at Hs
  rw [hz0'] at Hs'
  rw [hr]
  clear hr hz0 hz0'
  obtain ⟨wB, hwB⟩ : ∃ wB, (w.alloc (.cells #[.slice pa binds.length pc, .int .i64 k, .int .i64 i, .slice a args.length c] 27)).alloc (.cells #[.slice pa' binds'.length pc', .int .i64 k', .int .i64 i', .slice a' args'.length c'] 27) = wB := ⟨_, rfl⟩
  have B0 : Below w.heap.size w wB := by rw [← hwB]; exact ((Below.refl _ _).alloc (Nat.le_refl _) _).alloc (by simp) _
  have x0 : Blk wB w.heap.size #[.slice pa binds.length pc, .int .i64 k, .int .i64 i, .slice a args.length c] 27 := by rw [← hwB]; exact (Blk.new _ _ _ rfl).alloc _
  have x1 : Blk wB (w.heap.size + 1) #[.slice pa' binds'.length pc', .int .i64 k', .int .i64 i', .slice a' args'.length c'] 27 := by rw [← hwB]; exact Blk.new _ _ _ (by simp)
  go_enter Tryz.func78, Tryz.ntmps78
  go_wp2_with fail
  clear hwB
  refine wp_region_noPanic (wp_region_need (S := fun w' => w'.cell? ⟨w.heap.size, 0, none⟩ = some (.slice pa binds.length pc) ∧ w'.cell? ⟨w.heap.size, 1, none⟩ = some (.int .i64 k) ∧ w'.cell? ⟨w.heap.size, 2, none⟩ = some (.int .i64 i) ∧ w'.cell? ⟨w.heap.size, 3, none⟩ = some (.slice a args.length c) ∧ w'.cell? ⟨w.heap.size + 1, 0, none⟩ = some (.slice pa' binds'.length pc') ∧ w'.cell? ⟨w.heap.size + 1, 1, none⟩ = some (.int .i64 k') ∧ w'.cell? ⟨w.heap.size + 1, 2, none⟩ = some (.int .i64 i') ∧ w'.cell? ⟨w.heap.size + 1, 3, none⟩ = some (.slice a' args'.length c')) (by kernel_rfl) ?_)
  have hS : (wB.drew).cell? ⟨w.heap.size, 0, none⟩ = some (.slice pa binds.length pc) ∧ (wB.drew).cell? ⟨w.heap.size, 1, none⟩ = some (.int .i64 k) ∧ (wB.drew).cell? ⟨w.heap.size, 2, none⟩ = some (.int .i64 i) ∧ (wB.drew).cell? ⟨w.heap.size, 3, none⟩ = some (.slice a args.length c) ∧ (wB.drew).cell? ⟨w.heap.size + 1, 0, none⟩ = some (.slice pa' binds'.length pc') ∧ (wB.drew).cell? ⟨w.heap.size + 1, 1, none⟩ = some (.int .i64 k') ∧ (wB.drew).cell? ⟨w.heap.size + 1, 2, none⟩ = some (.int .i64 i') ∧ (wB.drew).cell? ⟨w.heap.size + 1, 3, none⟩ = some (.slice a' args'.length c') := ⟨x0.drew.cell rfl, x0.drew.cell rfl, x0.drew.cell rfl, x0.drew.cell rfl, x1.drew.cell rfl, x1.drew.cell rfl, x1.drew.cell rfl, x1.drew.cell rfl⟩
  refine wpN_take (i := 0) (v := ?v1) rfl (by kernel_rfl) (fun _ _ _ h => h) hS (Or.inl ⟨by rfl, ?hy1⟩) ?hr1
  case hy1 => (intro wS hSw; (try dsimp only at hSw); go_simp; (try with_reducible rfl))
  try simp only [Act.put, List.setIfInBounds_toArray, List.set_cons_zero, List.set_cons_succ, List.getElem_toArray, List.getElem_cons_zero, List.getElem_cons_succ]
  refine wpN_take (i := 2) (v := ?v2) rfl (by kernel_rfl) (fun _ _ _ h => h) hS (Or.inl ⟨by rfl, ?hy2⟩) ?hr2
  case hy2 => (intro wS hSw; (try dsimp only at hSw); go_simp; (try with_reducible rfl))
  try simp only [Act.put, List.setIfInBounds_toArray, List.set_cons_zero, List.set_cons_succ, List.getElem_toArray, List.getElem_cons_zero, List.getElem_cons_succ]
  refine wpN_step (i := 1) (by kernel_rfl) rfl (fun K hK => ?_)
  go_simp
  refine (Hs.out _ (hw.below B0).drew).mono ?_
  rintro e w1 ⟨rfl, hb1⟩
  have B1 := B0.drew.trans (hb1.mono B0.size)
  have y0 := x0.drew.below hb1
  have y1 := x1.drew.below hb1
  have hS : (w1).cell? ⟨w.heap.size, 0, none⟩ = some (.slice pa binds.length pc) ∧ (w1).cell? ⟨w.heap.size, 1, none⟩ = some (.int .i64 k) ∧ (w1).cell? ⟨w.heap.size, 2, none⟩ = some (.int .i64 i) ∧ (w1).cell? ⟨w.heap.size, 3, none⟩ = some (.slice a args.length c) ∧ (w1).cell? ⟨w.heap.size + 1, 0, none⟩ = some (.slice pa' binds'.length pc') ∧ (w1).cell? ⟨w.heap.size + 1, 1, none⟩ = some (.int .i64 k') ∧ (w1).cell? ⟨w.heap.size + 1, 2, none⟩ = some (.int .i64 i') ∧ (w1).cell? ⟨w.heap.size + 1, 3, none⟩ = some (.slice a' args'.length c') := ⟨y0.cell rfl, y0.cell rfl, y0.cell rfl, y0.cell rfl, y1.cell rfl, y1.cell rfl, y1.cell rfl, y1.cell rfl⟩
  refine hK.out _ _ (fun _ => hS) ?_
  clear hK K
  try simp only [Act.put, List.setIfInBounds_toArray, List.set_cons_zero, List.set_cons_succ, List.getElem_toArray, List.getElem_cons_zero, List.getElem_cons_succ]
  refine wpN_step (i := 3) (by kernel_rfl) rfl (fun K hK => ?_)
  go_simp
  refine (Hs'.out _ (hw'.below B1)).mono ?_
  rintro e w2 ⟨rfl, hb2⟩
  have B2 := B1.trans (hb2.mono B1.size)
  have z0 := y0.below hb2
  have z1 := y1.below hb2
  have hS : (w2).cell? ⟨w.heap.size, 0, none⟩ = some (.slice pa binds.length pc) ∧ (w2).cell? ⟨w.heap.size, 1, none⟩ = some (.int .i64 k) ∧ (w2).cell? ⟨w.heap.size, 2, none⟩ = some (.int .i64 i) ∧ (w2).cell? ⟨w.heap.size, 3, none⟩ = some (.slice a args.length c) ∧ (w2).cell? ⟨w.heap.size + 1, 0, none⟩ = some (.slice pa' binds'.length pc') ∧ (w2).cell? ⟨w.heap.size + 1, 1, none⟩ = some (.int .i64 k') ∧ (w2).cell? ⟨w.heap.size + 1, 2, none⟩ = some (.int .i64 i') ∧ (w2).cell? ⟨w.heap.size + 1, 3, none⟩ = some (.slice a' args'.length c') := ⟨z0.cell rfl, z0.cell rfl, z0.cell rfl, z0.cell rfl, z1.cell rfl, z1.cell rfl, z1.cell rfl, z1.cell rfl⟩
  refine hK.out _ _ (fun _ => hS) ?_
  clear hK K
  try simp only [Act.put, List.setIfInBounds_toArray, List.set_cons_zero, List.set_cons_succ, List.getElem_toArray, List.getElem_cons_zero, List.getElem_cons_succ]
  refine wpN_step (i := 4) (by kernel_rfl) rfl (fun K hK => ?_)
  go_simp
  refine (sign_r6 _ _ _).mono ?_
  rintro e w3 ⟨rfl, hb3⟩
  have B3 := B2.trans (hb3.mono B2.size)
  have y0 := z0.below hb3
  have y1 := z1.below hb3
  have hS : (w3).cell? ⟨w.heap.size, 0, none⟩ = some (.slice pa binds.length pc) ∧ (w3).cell? ⟨w.heap.size, 1, none⟩ = some (.int .i64 k) ∧ (w3).cell? ⟨w.heap.size, 2, none⟩ = some (.int .i64 i) ∧ (w3).cell? ⟨w.heap.size, 3, none⟩ = some (.slice a args.length c) ∧ (w3).cell? ⟨w.heap.size + 1, 0, none⟩ = some (.slice pa' binds'.length pc') ∧ (w3).cell? ⟨w.heap.size + 1, 1, none⟩ = some (.int .i64 k') ∧ (w3).cell? ⟨w.heap.size + 1, 2, none⟩ = some (.int .i64 i') ∧ (w3).cell? ⟨w.heap.size + 1, 3, none⟩ = some (.slice a' args'.length c') := ⟨y0.cell rfl, y0.cell rfl, y0.cell rfl, y0.cell rfl, y1.cell rfl, y1.cell rfl, y1.cell rfl, y1.cell rfl⟩
  refine hK.out _ _ (fun _ => hS) ?_
  clear hK K
  try simp only [Act.put, List.setIfInBounds_toArray, List.set_cons_zero, List.set_cons_succ, List.getElem_toArray, List.getElem_cons_zero, List.getElem_cons_succ]
  refine wpN_step (i := 5) (by kernel_rfl) rfl (fun K hK => ?_)
  go_simp
  refine hK.out _ _ (fun h => absurd h (by decide)) ?_
  clear hK K
  try simp only [Act.put, List.setIfInBounds_toArray, List.set_cons_zero, List.set_cons_succ, List.getElem_toArray, List.getElem_cons_zero, List.getElem_cons_succ]
  refine wpN_done (by kernel_rfl) ?_
  refine NoPanic.normal ?_
  clear x0 x1 z0 z1 B0 B1 B2 hb1 hb2 hb3
  clear hS
  by_cases hs1 : sgn z z' = 0
  rotate_left
  · have hrm : Hid (r = sgn z z') := by have h := Hr.out; rw [orl_ne hs1] at h; exact h
    have hB := B3
    have gm : (sgn (z : Int) z' == 0) = false := by simpa using hs1
    generalize sgn (z : Int) z' = mm at *
    go_wp2_with fail
    go_loopw [5, 6] (fun x ii wq => x = .int .i64 (mm) ∧ wq = w3) (fun _ _ _ => 0)
    case atStart => exact ⟨rfl, rfl⟩
    case round =>
      obtain ⟨hx, hwr⟩ := hrel
      have hwr := hwr.symm
      subst hwr
      have hx := hx.symm
      subst hx
      go_wp2_with fail
      go_loopw [5, 7] (fun x ii wq => x = .int .i64 (mm) ∧ wq = w3) (fun _ _ _ => 0)
      case atStart => exact ⟨rfl, rfl⟩
      case round =>
        obtain ⟨hx, hwr⟩ := hrel
        have hwr := hwr.symm
        subst hwr
        have hx := hx.symm
        subst hx
        go_wp2_with fail
        go_ret
        exact ⟨by rw [hrm.out]; rfl, hB⟩
  rw [hs1, orl_zero] at Hr
  rw [hs1]
  by_cases hs2 : sgn binds.length binds'.length = 0
  rotate_left
  · have hrm : Hid (r = sgn binds.length binds'.length) := by have h := Hr.out; rw [Tm.cmpB, orl_assoc, orl_ne hs2] at h; exact h
    have gm : (sgn (binds.length : Int) binds'.length == 0) = false := by simpa using hs2
    have c0 : w3.cell? ⟨w.heap.size, 0, none⟩ = some (.slice pa binds.length pc) := y0.cell rfl
    have c0' : w3.cell? ⟨w.heap.size + 1, 0, none⟩ = some (.slice pa' binds'.length pc') := y1.cell rfl
    go_wp2_with fail
    refine (sign_r6 _ _ _).mono ?_
    rintro e w4 ⟨rfl, hb4⟩
    have hB := B3.trans (hb4.mono B3.size)
    generalize sgn (binds.length : Int) binds'.length = mm at *
    go_wp2_with fail
    go_loopw [5, 6] (fun x ii wq => x = .int .i64 (mm) ∧ wq = w4) (fun _ _ _ => 0)
    case atStart => exact ⟨rfl, rfl⟩
    case round =>
      obtain ⟨hx, hwr⟩ := hrel
      have hwr := hwr.symm
      subst hwr
      have hx := hx.symm
      subst hx
      go_wp2_with fail
      go_loopw [5, 7] (fun x ii wq => x = .int .i64 (mm) ∧ wq = w4) (fun _ _ _ => 0)
      case atStart => exact ⟨rfl, rfl⟩
      case round =>
        obtain ⟨hx, hwr⟩ := hrel
        have hwr := hwr.symm
        subst hwr
        have hx := hx.symm
        subst hx
        go_wp2_with fail
        go_ret
        exact ⟨by rw [hrm.out]; rfl, hB⟩
  have Hll : Hid (binds.length = binds'.length) := by show _ = _; have := sgn_zero.1 hs2; omega
  have Hr2 : Hid (r = orl (Ty.cmps binds binds') (orl (sgn k k') (orl (sgn i i') (orl (sgn args.length args'.length) (Tm.cmps args args'))))) := by have h := Hr.out; rw [Tm.cmpB, hs2, orl_zero] at h; exact h
  clear Hr
  have c0 : w3.cell? ⟨w.heap.size, 0, none⟩ = some (.slice pa binds.length pc) := y0.cell rfl
  have c0' : w3.cell? ⟨w.heap.size + 1, 0, none⟩ = some (.slice pa' binds'.length pc') := y1.cell rfl
  go_wp2_with fail
  refine (sign_r6 _ _ _).mono ?_
  rintro e w4 ⟨rfl, hb4⟩
  rw [hs2]
  have B4 := B3.trans (hb4.mono B3.size)
  have x0 := y0.below hb4
  have x1 := y1.below hb4
  clear c0 c0' y0 y1 B3 hb4 hs2
  go_wp2_with fail
  go_loopw [5, 6] (fun x ii wr => ∃ (j : Nat) (m : Int), ii = .int .i64 j ∧ x = .int .i64 m ∧ j ≤ binds.length ∧ Hid (r = orl m (orl (Ty.cmps (binds.drop j) (binds'.drop j)) (orl (sgn k k') (orl (sgn i i') (orl (sgn args.length args'.length) (Tm.cmps args args')))))) ∧ Below w.heap.size w wr ∧ Blk wr w.heap.size #[.slice pa binds.length pc, .int .i64 k, .int .i64 i, .slice a args.length c] 27 ∧ Blk wr (w.heap.size + 1) #[.slice pa' binds'.length pc', .int .i64 k', .int .i64 i', .slice a' args'.length c'] 27) (fun _ ii _ => binds.length - (intOf ii).toNat)
  case atStart => exact ⟨0, 0, rfl, rfl, by omega, by simpa using Hr2, B4, x0, x1⟩
  case round =>
    clear B4 x0 x1 Hr2
    obtain ⟨j, m, rfl, hx, hj, hr, hB, y0, y1⟩ := hrel
    have hx := hx.symm
    subst hx
    by_cases hm0 : m = 0
    rotate_left
    · have hrm : Hid (r = m) := by have h := hr.out; rw [orl_ne hm0] at h; exact h
      have gm : (m == 0) = false := by simpa using hm0
      clear hr
      go_wp2_with fail
      go_loopw [5, 7] (fun x ii wq => x = .int .i64 (m) ∧ wq = wr) (fun _ _ _ => 0)
      case atStart => exact ⟨rfl, rfl⟩
      case round =>
        obtain ⟨hx, hwr⟩ := hrel
        have hwr := hwr.symm
        subst hwr
        have hx := hx.symm
        subst hx
        go_wp2_with fail
        go_ret
        exact ⟨by rw [hrm.out]; rfl, hB⟩
    subst hm0
    rw [orl_zero] at hr
    have i0 : (0 : Int) ≤ (j : Int) := Int.natCast_nonneg _
    have c0 : wr.cell? ⟨w.heap.size, 0, none⟩ = some (.slice pa binds.length pc) := y0.cell rfl
    have c0' : wr.cell? ⟨w.heap.size + 1, 0, none⟩ = some (.slice pa' binds'.length pc') := y1.cell rfl
    have c1 : wr.cell? ⟨w.heap.size, 1, none⟩ = some (.int .i64 k) := y0.cell rfl
    have c1' : wr.cell? ⟨w.heap.size + 1, 1, none⟩ = some (.int .i64 k') := y1.cell rfl
    have c2 : wr.cell? ⟨w.heap.size, 2, none⟩ = some (.int .i64 i) := y0.cell rfl
    have c2' : wr.cell? ⟨w.heap.size + 1, 2, none⟩ = some (.int .i64 i') := y1.cell rfl
    have c3 : wr.cell? ⟨w.heap.size, 3, none⟩ = some (.slice a args.length c) := y0.cell rfl
    have c3' : wr.cell? ⟨w.heap.size + 1, 3, none⟩ = some (.slice a' args'.length c') := y1.cell rfl
    have hsz := y1.lt
    by_cases hlt : j < binds.length
    · have hlt' : j < binds'.length := by rw [← Hll.out]; exact hlt
      obtain ⟨rfl, hF⟩ := ga (by omega)
      obtain ⟨rfl, hF'⟩ := ga' (by omega)
      have e1 : wr.cell? ⟨br, oft + j * 2, none⟩ = some (.slice (D j) (E j) (G j)) := (hw.below hB) _ _ _ hF (g1 j hlt)
      have e2 : wr.cell? ⟨br, oft + j * 2 + 1, none⟩ = some (.int .i64 (B j)) := (hw.below hB) _ _ _ hF (g2 j hlt)
      have e1' : wr.cell? ⟨br', oft' + j * 2, none⟩ = some (.slice (D' j) (E' j) (G' j)) := (hw'.below hB) _ _ _ hF' (g1' j hlt')
      have e2' : wr.cell? ⟨br', oft' + j * 2 + 1, none⟩ = some (.int .i64 (B' j)) := (hw'.below hB) _ _ _ hF' (g2' j hlt')
      have i1 : (j : Int) < (binds.length : Int) := by omega
      have i2 : (j : Int) < (binds'.length : Int) := by omega
      have Hd := Lib.hid (Ty.cmps_drop hlt hlt')
      go_wp2_with fail
      refine wp_region_noPanic (wp_region_need (S := fun w' => w'.cell? ⟨w.heap.size, 0, none⟩ = some (.slice (some ⟨br, oft, none⟩) binds.length pc) ∧ w'.cell? ⟨w.heap.size + 1, 0, none⟩ = some (.slice (some ⟨br', oft', none⟩) binds'.length pc') ∧ w'.cell? ⟨br, oft + j * 2, none⟩ = some (.slice (D j) (E j) (G j)) ∧ w'.cell? ⟨br, oft + j * 2 + 1, none⟩ = some (.int .i64 (B j)) ∧ w'.cell? ⟨br', oft' + j * 2, none⟩ = some (.slice (D' j) (E' j) (G' j)) ∧ w'.cell? ⟨br', oft' + j * 2 + 1, none⟩ = some (.int .i64 (B' j))) (by kernel_rfl) ?_)
      have hS : (wr.drew).cell? ⟨w.heap.size, 0, none⟩ = some (.slice (some ⟨br, oft, none⟩) binds.length pc) ∧ (wr.drew).cell? ⟨w.heap.size + 1, 0, none⟩ = some (.slice (some ⟨br', oft', none⟩) binds'.length pc') ∧ (wr.drew).cell? ⟨br, oft + j * 2, none⟩ = some (.slice (D j) (E j) (G j)) ∧ (wr.drew).cell? ⟨br, oft + j * 2 + 1, none⟩ = some (.int .i64 (B j)) ∧ (wr.drew).cell? ⟨br', oft' + j * 2, none⟩ = some (.slice (D' j) (E' j) (G' j)) ∧ (wr.drew).cell? ⟨br', oft' + j * 2 + 1, none⟩ = some (.int .i64 (B' j)) := ⟨c0, c0', e1, e2, e1', e2'⟩
      refine wpN_take (i := 0) (v := ?v3) rfl (by kernel_rfl) (fun _ _ _ h => h) hS (Or.inl ⟨by rfl, ?hy3⟩) ?hr3
      case hy3 => (intro wS hSw; (try dsimp only at hSw); go_simp; (try with_reducible rfl))
      try simp only [Act.put, List.setIfInBounds_toArray, List.set_cons_zero, List.set_cons_succ, List.getElem_toArray, List.getElem_cons_zero, List.getElem_cons_succ]
      refine wpN_take (i := 1) (v := ?v4) rfl (by kernel_rfl) (fun _ _ _ h => h) hS (Or.inl ⟨by rfl, ?hy4⟩) ?hr4
      case hy4 => (intro wS hSw; (try dsimp only at hSw); go_simp; (try with_reducible rfl))
      try simp only [Act.put, List.setIfInBounds_toArray, List.set_cons_zero, List.set_cons_succ, List.getElem_toArray, List.getElem_cons_zero, List.getElem_cons_succ]
      refine wpN_take (i := 2) (v := ?v5) rfl (by kernel_rfl) (fun _ _ _ h => h) hS (Or.inl ⟨by rfl, ?hy5⟩) ?hr5
      case hy5 => (intro wS hSw; (try dsimp only at hSw); go_simp; (try with_reducible rfl))
      try simp only [Act.put, List.setIfInBounds_toArray, List.set_cons_zero, List.set_cons_succ, List.getElem_toArray, List.getElem_cons_zero, List.getElem_cons_succ]
      refine wpN_take (i := 3) (v := ?v6) rfl (by kernel_rfl) (fun _ _ _ h => h) hS (Or.inl ⟨by rfl, ?hy6⟩) ?hr6
      case hy6 => (intro wS hSw; (try dsimp only at hSw); go_simp; (try with_reducible rfl))
      try simp only [Act.put, List.setIfInBounds_toArray, List.set_cons_zero, List.set_cons_succ, List.getElem_toArray, List.getElem_cons_zero, List.getElem_cons_succ]
      refine wpN_take (i := 4) (v := ?v7) rfl (by kernel_rfl) (fun _ _ _ h => h) hS (Or.inl ⟨by rfl, ?hy7⟩) ?hr7
      case hy7 => (intro wS hSw; (try dsimp only at hSw); go_simp; (try with_reducible rfl))
      try simp only [Act.put, List.setIfInBounds_toArray, List.set_cons_zero, List.set_cons_succ, List.getElem_toArray, List.getElem_cons_zero, List.getElem_cons_succ]
      refine wpN_take (i := 5) (v := ?v8) rfl (by kernel_rfl) (fun _ _ _ h => h) hS (Or.inl ⟨by rfl, ?hy8⟩) ?hr8
      case hy8 => (intro wS hSw; (try dsimp only at hSw); go_simp; (try with_reducible rfl))
      try simp only [Act.put, List.setIfInBounds_toArray, List.set_cons_zero, List.set_cons_succ, List.getElem_toArray, List.getElem_cons_zero, List.getElem_cons_succ]
      refine wpN_take (i := 6) (v := ?v9) rfl (by kernel_rfl) (fun _ _ _ h => h) hS (Or.inl ⟨by rfl, ?hy9⟩) ?hr9
      case hy9 => (intro wS hSw; (try dsimp only at hSw); go_simp; (try with_reducible rfl))
      try simp only [Act.put, List.setIfInBounds_toArray, List.set_cons_zero, List.set_cons_succ, List.getElem_toArray, List.getElem_cons_zero, List.getElem_cons_succ]
      refine wpN_take (i := 7) (v := ?v10) rfl (by kernel_rfl) (fun _ _ _ h => h) hS (Or.inl ⟨by rfl, ?hy10⟩) ?hr10
      case hy10 => (intro wS hSw; (try dsimp only at hSw); go_simp; (try with_reducible rfl))
      try simp only [Act.put, List.setIfInBounds_toArray, List.set_cons_zero, List.set_cons_succ, List.getElem_toArray, List.getElem_cons_zero, List.getElem_cons_succ]
      refine wpN_take (i := 8) (v := ?v11) rfl (by kernel_rfl) (fun _ _ _ h => h) hS (Or.inl ⟨by rfl, ?hy11⟩) ?hr11
      case hy11 => (intro wS hSw; (try dsimp only at hSw); go_simp; (try with_reducible rfl))
      try simp only [Act.put, List.setIfInBounds_toArray, List.set_cons_zero, List.set_cons_succ, List.getElem_toArray, List.getElem_cons_zero, List.getElem_cons_succ]
      refine wpN_take (i := 9) (v := ?v12) rfl (by kernel_rfl) (fun _ _ _ h => h) hS (Or.inl ⟨by rfl, ?hy12⟩) ?hr12
      case hy12 => (intro wS hSw; (try dsimp only at hSw); go_simp; (try with_reducible rfl))
      try simp only [Act.put, List.setIfInBounds_toArray, List.set_cons_zero, List.set_cons_succ, List.getElem_toArray, List.getElem_cons_zero, List.getElem_cons_succ]
      refine wpN_step (i := 10) (by kernel_rfl) rfl (fun K hK => ?_)
      go_simp
      refine (G5.out j hlt hlt' _ (hw.below hB).drew (hw'.below hB).drew).mono ?_
      rintro e w5 ⟨rfl, hb5⟩
      have hB5 : Below w.heap.size w w5 := hB.drew.trans (hb5.mono (by have := hB.size; simp; omega))
      have hKp : Keep (fun _ => True) wr w5 := ((Keep.refl _ _).drew).below hb5
      have x0 := Blk.below (w := wr.drew) y0 hb5
      have x1 := Blk.below (w := wr.drew) y1 hb5
      have hS : (w5).cell? ⟨w.heap.size, 0, none⟩ = some (.slice (some ⟨br, oft, none⟩) binds.length pc) ∧ (w5).cell? ⟨w.heap.size + 1, 0, none⟩ = some (.slice (some ⟨br', oft', none⟩) binds'.length pc') ∧ (w5).cell? ⟨br, oft + j * 2, none⟩ = some (.slice (D j) (E j) (G j)) ∧ (w5).cell? ⟨br, oft + j * 2 + 1, none⟩ = some (.int .i64 (B j)) ∧ (w5).cell? ⟨br', oft' + j * 2, none⟩ = some (.slice (D' j) (E' j) (G' j)) ∧ (w5).cell? ⟨br', oft' + j * 2 + 1, none⟩ = some (.int .i64 (B' j)) := ⟨hKp _ _ _ trivial c0, hKp _ _ _ trivial c0', hKp _ _ _ trivial e1, hKp _ _ _ trivial e2, hKp _ _ _ trivial e1', hKp _ _ _ trivial e2'⟩
      rw [Hd.out, orl_assoc] at hr
      clear Hd
      generalize Ty.cmp binds[j] binds'[j] = m at *
      refine hK.out _ _ (fun _ => hS) ?_
      clear hK K
      try simp only [Act.put, List.setIfInBounds_toArray, List.set_cons_zero, List.set_cons_succ, List.getElem_toArray, List.getElem_cons_zero, List.getElem_cons_succ]
      refine wpN_step (i := 11) (by kernel_rfl) rfl (fun K hK => ?_)
      go_simp
      refine hK.out _ _ (fun h => absurd h (by decide)) ?_
      clear hK K
      try simp only [Act.put, List.setIfInBounds_toArray, List.set_cons_zero, List.set_cons_succ, List.getElem_toArray, List.getElem_cons_zero, List.getElem_cons_succ]
      refine wpN_done (by kernel_rfl) ?_
      refine NoPanic.normal ?_
      go_wp2_with fail
      go_roundw
      case rel => exact ⟨j + 1, m, by go_num, rfl, by omega, hr, hB5, x0, x1⟩
      case measure => simp [intOf]; omega
    · have Hr4 : Hid (r = orl (sgn k k') (orl (sgn i i') (orl (sgn args.length args'.length) (Tm.cmps args args')))) := by
        have h := hr.out
        rw [List.drop_of_length_le (show binds.length ≤ j by omega), Ty.cmps_nil, orl_zero] at h
        exact h
      clear hr
      have i1 : ¬ (j : Int) < (binds.length : Int) := by omega
      go_wp2_with fail
      by_cases hs4 : sgn k k' = 0
      rotate_left
      · have hrm : Hid (r = sgn k k') := by have h := Hr4.out; rw [orl_ne hs4] at h; exact h
        have gm : (sgn k k' == 0) = false := by simpa using hs4
        refine (sign_r6 _ _ _).mono ?_
        rintro e w6 ⟨rfl, hb6⟩
        have hB := hB.trans (hb6.mono hB.size)
        generalize sgn k k' = mm at *
        go_wp2_with fail
        go_loopw [5, 7] (fun x ii wq => x = .int .i64 (mm) ∧ wq = w6) (fun _ _ _ => 0)
        case atStart => exact ⟨rfl, rfl⟩
        case round =>
          obtain ⟨hx, hwr⟩ := hrel
          have hwr := hwr.symm
          subst hwr
          have hx := hx.symm
          subst hx
          go_wp2_with fail
          go_ret
          exact ⟨by rw [hrm.out]; rfl, hB⟩
      have Hr5 : Hid (r = orl (sgn i i') (orl (sgn args.length args'.length) (Tm.cmps args args'))) := by have h := Hr4.out; rw [hs4, orl_zero] at h; exact h
      clear Hr4
      refine (sign_r6 _ _ _).mono ?_
      rintro e w6 ⟨rfl, hb6⟩
      rw [hs4]
      have hB6 := hB.trans (hb6.mono hB.size)
      have x0 := y0.below hb6
      have x1 := y1.below hb6
      clear c0 c0' c1 c1' c2 c2' c3 c3' y0 y1 hB hb6
      have c0 : w6.cell? ⟨w.heap.size, 0, none⟩ = some (.slice pa binds.length pc) := x0.cell rfl
      have c0' : w6.cell? ⟨w.heap.size + 1, 0, none⟩ = some (.slice pa' binds'.length pc') := x1.cell rfl
      have c1 : w6.cell? ⟨w.heap.size, 1, none⟩ = some (.int .i64 k) := x0.cell rfl
      have c1' : w6.cell? ⟨w.heap.size + 1, 1, none⟩ = some (.int .i64 k') := x1.cell rfl
      have c2 : w6.cell? ⟨w.heap.size, 2, none⟩ = some (.int .i64 i) := x0.cell rfl
      have c2' : w6.cell? ⟨w.heap.size + 1, 2, none⟩ = some (.int .i64 i') := x1.cell rfl
      have c3 : w6.cell? ⟨w.heap.size, 3, none⟩ = some (.slice a args.length c) := x0.cell rfl
      have c3' : w6.cell? ⟨w.heap.size + 1, 3, none⟩ = some (.slice a' args'.length c') := x1.cell rfl
      go_wp2_with fail
      by_cases hs5 : sgn i i' = 0
      rotate_left
      · have hrm : Hid (r = sgn i i') := by have h := Hr5.out; rw [orl_ne hs5] at h; exact h
        have gm : (sgn i i' == 0) = false := by simpa using hs5
        refine (sign_r6 _ _ _).mono ?_
        rintro e w7 ⟨rfl, hb7⟩
        have hB := hB6.trans (hb7.mono hB6.size)
        generalize sgn i i' = mm at *
        go_wp2_with fail
        go_loopw [5, 7] (fun x ii wq => x = .int .i64 (mm) ∧ wq = w7) (fun _ _ _ => 0)
        case atStart => exact ⟨rfl, rfl⟩
        case round =>
          obtain ⟨hx, hwr⟩ := hrel
          have hwr := hwr.symm
          subst hwr
          have hx := hx.symm
          subst hx
          go_wp2_with fail
          go_ret
          exact ⟨by rw [hrm.out]; rfl, hB⟩
      have Hr6 : Hid (r = orl (sgn args.length args'.length) (Tm.cmps args args')) := by have h := Hr5.out; rw [hs5, orl_zero] at h; exact h
      clear Hr5
      refine (sign_r6 _ _ _).mono ?_
      rintro e w7 ⟨rfl, hb7⟩
      rw [hs5]
      have hB7 := hB6.trans (hb7.mono hB6.size)
      have y0 := x0.below hb7
      have y1 := x1.below hb7
      clear c0 c0' c1 c1' c2 c2' c3 c3' x0 x1 hB6 hb7
      have c0 : w7.cell? ⟨w.heap.size, 0, none⟩ = some (.slice pa binds.length pc) := y0.cell rfl
      have c0' : w7.cell? ⟨w.heap.size + 1, 0, none⟩ = some (.slice pa' binds'.length pc') := y1.cell rfl
      have c1 : w7.cell? ⟨w.heap.size, 1, none⟩ = some (.int .i64 k) := y0.cell rfl
      have c1' : w7.cell? ⟨w.heap.size + 1, 1, none⟩ = some (.int .i64 k') := y1.cell rfl
      have c2 : w7.cell? ⟨w.heap.size, 2, none⟩ = some (.int .i64 i) := y0.cell rfl
      have c2' : w7.cell? ⟨w.heap.size + 1, 2, none⟩ = some (.int .i64 i') := y1.cell rfl
      have c3 : w7.cell? ⟨w.heap.size, 3, none⟩ = some (.slice a args.length c) := y0.cell rfl
      have c3' : w7.cell? ⟨w.heap.size + 1, 3, none⟩ = some (.slice a' args'.length c') := y1.cell rfl
      go_wp2_with fail
      by_cases hs6 : sgn args.length args'.length = 0
      rotate_left
      · have hrm : Hid (r = sgn args.length args'.length) := by have h := Hr6.out; rw [orl_ne hs6] at h; exact h
        have gm : (sgn (args.length : Int) args'.length == 0) = false := by simpa using hs6
        refine (sign_r6 _ _ _).mono ?_
        rintro e w8 ⟨rfl, hb8⟩
        have hB := hB7.trans (hb8.mono hB7.size)
        generalize sgn (args.length : Int) args'.length = mm at *
        go_wp2_with fail
        go_loopw [5, 7] (fun x ii wq => x = .int .i64 (mm) ∧ wq = w8) (fun _ _ _ => 0)
        case atStart => exact ⟨rfl, rfl⟩
        case round =>
          obtain ⟨hx, hwr⟩ := hrel
          have hwr := hwr.symm
          subst hwr
          have hx := hx.symm
          subst hx
          go_wp2_with fail
          go_ret
          exact ⟨by rw [hrm.out]; rfl, hB⟩
      have Hr7 : Hid (r = Tm.cmps args args') := by have h := Hr6.out; rw [hs6, orl_zero] at h; exact h
      have Hla : Hid (args.length = args'.length) := by show _ = _; have := sgn_zero.1 hs6; omega
      clear Hr6
      refine (sign_r6 _ _ _).mono ?_
      rintro e w8 ⟨rfl, hb8⟩
      rw [hs6]
      have hB8 := hB7.trans (hb8.mono hB7.size)
      have x0 := y0.below hb8
      have x1 := y1.below hb8
      clear c0 c0' c1 c1' c2 c2' c3 c3' y0 y1 hB7 hb8 hs4 hs5 hs6 hlt i0 i1 hsz hj
      go_wp2_with fail
      go_loopw [5, 7] (fun x ii wq => ∃ (j : Nat) (m : Int), ii = .int .i64 j ∧ x = .int .i64 m ∧ j ≤ args.length ∧ Hid (r = orl m (Tm.cmps (args.drop j) (args'.drop j))) ∧ Below w.heap.size w wq ∧ Blk wq w.heap.size #[.slice pa binds.length pc, .int .i64 k, .int .i64 i, .slice a args.length c] 27 ∧ Blk wq (w.heap.size + 1) #[.slice pa' binds'.length pc', .int .i64 k', .int .i64 i', .slice a' args'.length c'] 27) (fun _ ii _ => args.length - (intOf ii).toNat)
      case atStart => exact ⟨0, 0, rfl, rfl, by omega, by simpa using Hr7, hB8, x0, x1⟩
      case round =>
        clear hB8 x0 x1 Hr7
        obtain ⟨j, m, rfl, hx, hj, hr, hB, y0, y1⟩ := hrel
        have hx := hx.symm
        subst hx
        by_cases hm0 : m = 0
        rotate_left
        · have hrm : Hid (r = m) := by have h := hr.out; rw [orl_ne hm0] at h; exact h
          have gm : (m == 0) = false := by simpa using hm0
          go_wp2_with fail
          go_ret
          exact ⟨by rw [hrm.out]; rfl, hB⟩
        subst hm0
        rw [orl_zero] at hr
        have i0 : (0 : Int) ≤ (j : Int) := Int.natCast_nonneg _
        have c3 : wr.cell? ⟨w.heap.size, 3, none⟩ = some (.slice a args.length c) := y0.cell rfl
        have c3' : wr.cell? ⟨w.heap.size + 1, 3, none⟩ = some (.slice a' args'.length c') := y1.cell rfl
        have hsz := y1.lt
        by_cases hlt : j < args.length
        · have hlt' : j < args'.length := by rw [← Hla.out]; exact hlt
          obtain ⟨rfl, hF⟩ := ha (by omega)
          obtain ⟨rfl, hF'⟩ := ha' (by omega)
          have e1 : wr.cell? ⟨bl, off + j * 4, none⟩ = some (.slice (PA j) (PN j) (PC j)) := (hw.below hB) _ _ _ hF (h1 j hlt)
          have e2 : wr.cell? ⟨bl, off + j * 4 + 1, none⟩ = some (.int .i64 (Kd j)) := (hw.below hB) _ _ _ hF (h2 j hlt)
          have e3 : wr.cell? ⟨bl, off + j * 4 + 2, none⟩ = some (.int .i64 (Ix j)) := (hw.below hB) _ _ _ hF (h3 j hlt)
          have e4 : wr.cell? ⟨bl, off + j * 4 + 3, none⟩ = some (.slice (A j) (N j) (C j)) := (hw.below hB) _ _ _ hF (h4 j hlt)
          have e1' : wr.cell? ⟨bl', off' + j * 4, none⟩ = some (.slice (PA' j) (PN' j) (PC' j)) := (hw'.below hB) _ _ _ hF' (h1' j hlt')
          have e2' : wr.cell? ⟨bl', off' + j * 4 + 1, none⟩ = some (.int .i64 (Kd' j)) := (hw'.below hB) _ _ _ hF' (h2' j hlt')
          have e3' : wr.cell? ⟨bl', off' + j * 4 + 2, none⟩ = some (.int .i64 (Ix' j)) := (hw'.below hB) _ _ _ hF' (h3' j hlt')
          have e4' : wr.cell? ⟨bl', off' + j * 4 + 3, none⟩ = some (.slice (A' j) (N' j) (C' j)) := (hw'.below hB) _ _ _ hF' (h4' j hlt')
          have i1 : (j : Int) < (args.length : Int) := by omega
          have i2 : (j : Int) < (args'.length : Int) := by omega
          have Hd := Lib.hid (Tm.cmps_drop hlt hlt')
          go_wp2_with fail
          refine wp_region_noPanic (wp_region_need (S := fun w' => w'.cell? ⟨w.heap.size, 3, none⟩ = some (.slice (some ⟨bl, off, none⟩) args.length c) ∧ w'.cell? ⟨w.heap.size + 1, 3, none⟩ = some (.slice (some ⟨bl', off', none⟩) args'.length c') ∧ w'.cell? ⟨bl, off + j * 4, none⟩ = some (.slice (PA j) (PN j) (PC j)) ∧ w'.cell? ⟨bl, off + j * 4 + 1, none⟩ = some (.int .i64 (Kd j)) ∧ w'.cell? ⟨bl, off + j * 4 + 2, none⟩ = some (.int .i64 (Ix j)) ∧ w'.cell? ⟨bl, off + j * 4 + 3, none⟩ = some (.slice (A j) (N j) (C j)) ∧ w'.cell? ⟨bl', off' + j * 4, none⟩ = some (.slice (PA' j) (PN' j) (PC' j)) ∧ w'.cell? ⟨bl', off' + j * 4 + 1, none⟩ = some (.int .i64 (Kd' j)) ∧ w'.cell? ⟨bl', off' + j * 4 + 2, none⟩ = some (.int .i64 (Ix' j)) ∧ w'.cell? ⟨bl', off' + j * 4 + 3, none⟩ = some (.slice (A' j) (N' j) (C' j))) (by kernel_rfl) ?_)
          have hS : (wr.drew).cell? ⟨w.heap.size, 3, none⟩ = some (.slice (some ⟨bl, off, none⟩) args.length c) ∧ (wr.drew).cell? ⟨w.heap.size + 1, 3, none⟩ = some (.slice (some ⟨bl', off', none⟩) args'.length c') ∧ (wr.drew).cell? ⟨bl, off + j * 4, none⟩ = some (.slice (PA j) (PN j) (PC j)) ∧ (wr.drew).cell? ⟨bl, off + j * 4 + 1, none⟩ = some (.int .i64 (Kd j)) ∧ (wr.drew).cell? ⟨bl, off + j * 4 + 2, none⟩ = some (.int .i64 (Ix j)) ∧ (wr.drew).cell? ⟨bl, off + j * 4 + 3, none⟩ = some (.slice (A j) (N j) (C j)) ∧ (wr.drew).cell? ⟨bl', off' + j * 4, none⟩ = some (.slice (PA' j) (PN' j) (PC' j)) ∧ (wr.drew).cell? ⟨bl', off' + j * 4 + 1, none⟩ = some (.int .i64 (Kd' j)) ∧ (wr.drew).cell? ⟨bl', off' + j * 4 + 2, none⟩ = some (.int .i64 (Ix' j)) ∧ (wr.drew).cell? ⟨bl', off' + j * 4 + 3, none⟩ = some (.slice (A' j) (N' j) (C' j)) := ⟨c3, c3', e1, e2, e3, e4, e1', e2', e3', e4'⟩
          refine wpN_take (i := 0) (v := ?v13) rfl (by kernel_rfl) (fun _ _ _ h => h) hS (Or.inl ⟨by rfl, ?hy13⟩) ?hr13
          case hy13 => (intro wS hSw; (try dsimp only at hSw); go_simp; (try with_reducible rfl))
          try simp only [Act.put, List.setIfInBounds_toArray, List.set_cons_zero, List.set_cons_succ, List.getElem_toArray, List.getElem_cons_zero, List.getElem_cons_succ]
          refine wpN_take (i := 1) (v := ?v14) rfl (by kernel_rfl) (fun _ _ _ h => h) hS (Or.inl ⟨by rfl, ?hy14⟩) ?hr14
          case hy14 => (intro wS hSw; (try dsimp only at hSw); go_simp; (try with_reducible rfl))
          try simp only [Act.put, List.setIfInBounds_toArray, List.set_cons_zero, List.set_cons_succ, List.getElem_toArray, List.getElem_cons_zero, List.getElem_cons_succ]
          refine wpN_take (i := 2) (v := ?v15) rfl (by kernel_rfl) (fun _ _ _ h => h) hS (Or.inl ⟨by rfl, ?hy15⟩) ?hr15
          case hy15 => (intro wS hSw; (try dsimp only at hSw); go_simp; (try with_reducible rfl))
          try simp only [Act.put, List.setIfInBounds_toArray, List.set_cons_zero, List.set_cons_succ, List.getElem_toArray, List.getElem_cons_zero, List.getElem_cons_succ]
          refine wpN_take (i := 3) (v := ?v16) rfl (by kernel_rfl) (fun _ _ _ h => h) hS (Or.inl ⟨by rfl, ?hy16⟩) ?hr16
          case hy16 => (intro wS hSw; (try dsimp only at hSw); go_simp; (try with_reducible rfl))
          try simp only [Act.put, List.setIfInBounds_toArray, List.set_cons_zero, List.set_cons_succ, List.getElem_toArray, List.getElem_cons_zero, List.getElem_cons_succ]
          refine wpN_take (i := 4) (v := ?v17) rfl (by kernel_rfl) (fun _ _ _ h => h) hS (Or.inl ⟨by rfl, ?hy17⟩) ?hr17
          case hy17 => (intro wS hSw; (try dsimp only at hSw); go_simp; (try with_reducible rfl))
          try simp only [Act.put, List.setIfInBounds_toArray, List.set_cons_zero, List.set_cons_succ, List.getElem_toArray, List.getElem_cons_zero, List.getElem_cons_succ]
          refine wpN_take (i := 5) (v := ?v18) rfl (by kernel_rfl) (fun _ _ _ h => h) hS (Or.inl ⟨by rfl, ?hy18⟩) ?hr18
          case hy18 => (intro wS hSw; (try dsimp only at hSw); go_simp; (try with_reducible rfl))
          try simp only [Act.put, List.setIfInBounds_toArray, List.set_cons_zero, List.set_cons_succ, List.getElem_toArray, List.getElem_cons_zero, List.getElem_cons_succ]
          refine wpN_take (i := 6) (v := ?v19) rfl (by kernel_rfl) (fun _ _ _ h => h) hS (Or.inl ⟨by rfl, ?hy19⟩) ?hr19
          case hy19 => (intro wS hSw; (try dsimp only at hSw); go_simp; (try with_reducible rfl))
          try simp only [Act.put, List.setIfInBounds_toArray, List.set_cons_zero, List.set_cons_succ, List.getElem_toArray, List.getElem_cons_zero, List.getElem_cons_succ]
          refine wpN_take (i := 7) (v := ?v20) rfl (by kernel_rfl) (fun _ _ _ h => h) hS (Or.inl ⟨by rfl, ?hy20⟩) ?hr20
          case hy20 => (intro wS hSw; (try dsimp only at hSw); go_simp; (try with_reducible rfl))
          try simp only [Act.put, List.setIfInBounds_toArray, List.set_cons_zero, List.set_cons_succ, List.getElem_toArray, List.getElem_cons_zero, List.getElem_cons_succ]
          refine wpN_take (i := 8) (v := ?v21) rfl (by kernel_rfl) (fun _ _ _ h => h) hS (Or.inl ⟨by rfl, ?hy21⟩) ?hr21
          case hy21 => (intro wS hSw; (try dsimp only at hSw); go_simp; (try with_reducible rfl))
          try simp only [Act.put, List.setIfInBounds_toArray, List.set_cons_zero, List.set_cons_succ, List.getElem_toArray, List.getElem_cons_zero, List.getElem_cons_succ]
          refine wpN_take (i := 9) (v := ?v22) rfl (by kernel_rfl) (fun _ _ _ h => h) hS (Or.inl ⟨by rfl, ?hy22⟩) ?hr22
          case hy22 => (intro wS hSw; (try dsimp only at hSw); go_simp; (try with_reducible rfl))
          try simp only [Act.put, List.setIfInBounds_toArray, List.set_cons_zero, List.set_cons_succ, List.getElem_toArray, List.getElem_cons_zero, List.getElem_cons_succ]
          refine wpN_step (i := 10) (by kernel_rfl) rfl (fun K hK => ?_)
          go_simp
          refine (H5.out j hlt hlt' _ (hw.below hB).drew (hw'.below hB).drew).mono ?_
          rintro e w9 ⟨rfl, hb9⟩
          have hB9 : Below w.heap.size w w9 := hB.drew.trans (hb9.mono (by have := hB.size; simp; omega))
          have hKp : Keep (fun _ => True) wr w9 := ((Keep.refl _ _).drew).below hb9
          have x0 := Blk.below (w := wr.drew) y0 hb9
          have x1 := Blk.below (w := wr.drew) y1 hb9
          have hS : (w9).cell? ⟨w.heap.size, 3, none⟩ = some (.slice (some ⟨bl, off, none⟩) args.length c) ∧ (w9).cell? ⟨w.heap.size + 1, 3, none⟩ = some (.slice (some ⟨bl', off', none⟩) args'.length c') ∧ (w9).cell? ⟨bl, off + j * 4, none⟩ = some (.slice (PA j) (PN j) (PC j)) ∧ (w9).cell? ⟨bl, off + j * 4 + 1, none⟩ = some (.int .i64 (Kd j)) ∧ (w9).cell? ⟨bl, off + j * 4 + 2, none⟩ = some (.int .i64 (Ix j)) ∧ (w9).cell? ⟨bl, off + j * 4 + 3, none⟩ = some (.slice (A j) (N j) (C j)) ∧ (w9).cell? ⟨bl', off' + j * 4, none⟩ = some (.slice (PA' j) (PN' j) (PC' j)) ∧ (w9).cell? ⟨bl', off' + j * 4 + 1, none⟩ = some (.int .i64 (Kd' j)) ∧ (w9).cell? ⟨bl', off' + j * 4 + 2, none⟩ = some (.int .i64 (Ix' j)) ∧ (w9).cell? ⟨bl', off' + j * 4 + 3, none⟩ = some (.slice (A' j) (N' j) (C' j)) := ⟨hKp _ _ _ trivial c3, hKp _ _ _ trivial c3', hKp _ _ _ trivial e1, hKp _ _ _ trivial e2, hKp _ _ _ trivial e3, hKp _ _ _ trivial e4, hKp _ _ _ trivial e1', hKp _ _ _ trivial e2', hKp _ _ _ trivial e3', hKp _ _ _ trivial e4'⟩
          rw [Hd.out] at hr
          clear Hd
          generalize Tm.cmp args[j] args'[j] = m at *
          refine hK.out _ _ (fun _ => hS) ?_
          clear hK K
          try simp only [Act.put, List.setIfInBounds_toArray, List.set_cons_zero, List.set_cons_succ, List.getElem_toArray, List.getElem_cons_zero, List.getElem_cons_succ]
          refine wpN_step (i := 11) (by kernel_rfl) rfl (fun K hK => ?_)
          go_simp
          refine hK.out _ _ (fun h => absurd h (by decide)) ?_
          clear hK K
          try simp only [Act.put, List.setIfInBounds_toArray, List.set_cons_zero, List.set_cons_succ, List.getElem_toArray, List.getElem_cons_zero, List.getElem_cons_succ]
          refine wpN_done (by kernel_rfl) ?_
          refine NoPanic.normal ?_
          go_wp2_with fail
          go_roundw
          case rel => exact ⟨j + 1, m, by go_num, rfl, by omega, hr, hB9, x0, x1⟩
          case measure => simp [intOf]; omega
        · have hrm : Hid (r = 0) := by
            have h := hr.out
            rw [List.drop_of_length_le (show args.length ≤ j by omega), Tm.cmps_nil] at h
            exact h
          have i1 : ¬ (j : Int) < (args.length : Int) := by omega
          go_wp2_with fail
          go_ret
          exact ⟨by rw [hrm.out]; rfl, hB⟩
end Go.Proofs.YtdmiekaeodcehaaGreat

