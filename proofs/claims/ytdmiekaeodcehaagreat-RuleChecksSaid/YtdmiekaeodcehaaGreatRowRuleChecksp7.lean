/-
  Package rule, walked in the deep way: met, term. Terms that are the same, as deep contracts. Package rule, walked in the deep way: Own, Of, Equal, Variant. The document's uses, and what is taken out, walked in the deep way. The document's numbers of a pair (order, renamed) are those of package rule. The document's answer of layer 17: order, renamed, Own, Variant. Package lift, walked in the deep way: variables, each, term. A loop over a function, whose round writes to what its own assignment laid. The reference's loose indexes, and terms that grow. The document's heads of a term. The document's Heads and Count. term.Count. slices.Sort and slices.Compact of ints of the call's own; what they hand back rises. A function that has run loops over functions leaves with a mark for each; rows of ints that grow within such rounds. term.Metas. Package lift, walked in the deep way: may, done, Over, Closed, Subst; spot.Close. Package match, walked in the deep way: put. Package match, walked in the deep way: walk, may. Deep values: regions with steps through a map. Package match, walked in the deep way: what was found as a substitution; several at once. The known answer of the laws of layer 12. Lists of pairs, there and back. Lists of pairs in the laws of layer 9: To, Few. Package subst's lists, walked in the deep way: Clone, Without, Set, Domain, Get. Package subst's lists, walked in the deep way: Set, Domain, Get, Equal; terms that are the same. Package subst's lists, walked in the deep way: Get, Equal. The document's lists of pairs, walked in the deep way: Sorted, Get, Without, Domain, Same. LiftSubsts, walked in the deep way. How large long forms are, and that their indexes fit. How large lifted terms are, and that their indexes fit. The document's Take, walked in the deep way; what is wrong with a pattern. The document's Like. The document's Metas.
-/
import Derived.Test.YtdmiekaeodcehaaGreatRowRuleChecksp6
import Derived.Test.YtdmiekaeodcehaaGreatRowRuleChecksp5
import Derived.Test.YtdmiekaeodcehaaGreatRowRuleChecksp1
import Derived.Test.YtdmiekaeodcehaaGreatRowRuleChecksp4
import Derived.Deep.QuietTactic
import Derived.BigQuiet
import Derived.WalkSmall
import Derived.Lib.OwnBridge
import Derived.Sort.OwnSortedInts
import Derived.RangeFuncBox
import Derived.Maps.RangeRun
set_option maxRecDepth 100000
set_option maxHeartbeats 1000000
set_option linter.unusedVariables false
set_option linter.unusedSimpArgs false
namespace Go.Proofs.YtdmiekaeodcehaaGreat
open Go.RowKit
def TRA_36 : TI := ⟨4, true, [Value.slice none 0 0, Value.int IntKind.i64 0, Value.int IntKind.i64 0, Value.slice none 0 0], [(0, 1, false), (1, 2, true), (3, 1, false)], none, 64, 6, none, false⟩
theorem TRA_36_ok : TypOk Tryz.prog 36 TRA_36 := ⟨by kernel_rfl, by kernel_rfl, by kernel_rfl, by kernel_rfl, by kernel_rfl⟩
def TRA_34 : TI := ⟨1, false, [Value.slice none 0 0], [], some 36, 24, 5, none, false⟩
theorem TRA_34_ok : TypOk Tryz.prog 34 TRA_34 := ⟨by kernel_rfl, by kernel_rfl, by kernel_rfl, by kernel_rfl, by kernel_rfl⟩
def TRA_82 : TI := ⟨1, false, [Value.slice none 0 0], [], some 3, 24, 5, none, false⟩
theorem TRA_82_ok : TypOk Tryz.prog 82 TRA_82 := ⟨by kernel_rfl, by kernel_rfl, by kernel_rfl, by kernel_rfl, by kernel_rfl⟩
def TRA_84 : TI := ⟨2, true, [Value.map none, Value.slice none 0 0], [(0, 1, false), (1, 1, false)], none, 32, 6, none, false⟩
theorem TRA_84_ok : TypOk Tryz.prog 84 TRA_84 := ⟨by kernel_rfl, by kernel_rfl, by kernel_rfl, by kernel_rfl, by kernel_rfl⟩
def TRA_3 : TI := ⟨1, false, [Value.int IntKind.i64 0], [], none, 8, 2, none, false⟩
theorem TRA_3_ok : TypOk Tryz.prog 3 TRA_3 := ⟨by kernel_rfl, by kernel_rfl, by kernel_rfl, by kernel_rfl, by kernel_rfl⟩
def TRA_81 : TI := ⟨1, false, [Value.map none], [], none, 8, 7, some 3, false⟩
theorem TRA_81_ok : TypOk Tryz.prog 81 TRA_81 := ⟨by kernel_rfl, by kernel_rfl, by kernel_rfl, by kernel_rfl, by kernel_rfl⟩
def TRA_86 : TI := ⟨1, true, [Value.pointer none], [(0, 1, false)], none, 8, 6, none, false⟩
theorem TRA_86_ok : TypOk Tryz.prog 86 TRA_86 := ⟨by kernel_rfl, by kernel_rfl, by kernel_rfl, by kernel_rfl, by kernel_rfl⟩
def TRA_80 : TI := ⟨1, false, [Value.pointer none], [], none, 8, 4, none, false⟩
theorem TRA_80_ok : TypOk Tryz.prog 80 TRA_80 := ⟨by kernel_rfl, by kernel_rfl, by kernel_rfl, by kernel_rfl, by kernel_rfl⟩
def TRA_33 : TI := ⟨2, true, [Value.int IntKind.i64 0, Value.int IntKind.i64 0], [(0, 1, false), (1, 1, false)], none, 16, 6, none, true⟩
theorem TRA_33_ok : TypOk Tryz.prog 33 TRA_33 := ⟨by kernel_rfl, by kernel_rfl, by kernel_rfl, by kernel_rfl, by kernel_rfl⟩
def TRA : List (Nat × TI) := [(36, TRA_36), (34, TRA_34), (82, TRA_82), (84, TRA_84), (3, TRA_3), (81, TRA_81), (86, TRA_86), (80, TRA_80), (33, TRA_33)]
theorem TRA_ok : TabOk Tryz.prog TRA := ((((((((((TabOk.nil _).cons TRA_33_ok).cons TRA_80_ok).cons TRA_86_ok).cons TRA_81_ok).cons TRA_3_ok).cons TRA_84_ok).cons TRA_82_ok).cons TRA_34_ok).cons TRA_36_ok)

namespace Ru
def ix (m : Int) : List Int → Nat
  | [] => 0
  | x :: l => if x = m then 0 else ix m l + 1
def met (o : List Int) (m : Int) : List Int := if m ∈ o then o else o ++ [m]
mutual
def tr : Tm → List Int → List Int × Tm
  | .mk b k i a, o => ((trs a (if k = 2 then met o i else o)).1, .mk b k (if k = 2 then (ix i o : Int) else i) (trs a (if k = 2 then met o i else o)).2)
def trs : List Tm → List Int → List Int × List Tm
  | [], o => (o, [])
  | t :: l, o => ((trs l (tr t o).1).1, (tr t o).2 :: (trs l (tr t o).1).2)
end
theorem tr_eq (b : List Ty) (k i : Int) (a : List Tm) (o : List Int) : tr (.mk b k i a) o = ((trs a (if k = 2 then met o i else o)).1, .mk b k (if k = 2 then (ix i o : Int) else i) (trs a (if k = 2 then met o i else o)).2) := by rw [tr]
theorem trs_snoc : ∀ (l : List Tm) (o : List Int) (j : Nat) (h : j < l.length), trs (l.take (j + 1)) o = ((tr l[j] (trs (l.take j) o).1).1, (trs (l.take j) o).2 ++ [(tr l[j] (trs (l.take j) o).1).2])
  | [], _, _, h => by simp at h
  | t :: l, o, 0, _ => by simp [trs]
  | t :: l, o, j + 1, h => by
    have := trs_snoc l (tr t o).1 j (by simpa using h)
    simp only [List.take_succ_cons, trs, List.getElem_cons_succ]
    rw [this]; rfl
theorem trs_len : ∀ (l : List Tm) (o : List Int), (trs l o).2.length = l.length
  | [], _ => rfl
  | t :: l, o => by rw [trs]; simp [trs_len l]
theorem met_len (o : List Int) (m : Int) : (met o m).length ≤ o.length + 1 := by
  unfold met; split
  · omega
  · simp
theorem trs_grow_of {l : List Tm} (h : ∀ t ∈ l, ∀ o, (tr t o).1.length ≤ o.length + t.full) : ∀ o, (trs l o).1.length ≤ o.length + Tm.fulls l := by
  induction l with
  | nil => intro o; simp [trs, Tm.fulls]
  | cons t l ih =>
    intro o
    have h1 := h t (by simp) o
    have h2 := ih (fun u hu => h u (by simp [hu])) (tr t o).1
    rw [trs, Tm.fulls]
    dsimp only
    omega
theorem tr_grow (t : Tm) : ∀ o, (tr t o).1.length ≤ o.length + t.full := by
  induction t using Tm.ind with
  | h b k i a ih =>
    intro o
    have h2 : (if k = 2 then met o i else o).length ≤ o.length + 1 := by
      split
      · exact met_len o i
      · omega
    rw [tr_eq, Tm.full_eq]
    dsimp only
    generalize (if k = 2 then met o i else o) = o1 at h2 ⊢
    have h1 := trs_grow_of ih o1
    omega
theorem trs_grow (l : List Tm) (o : List Int) : (trs l o).1.length ≤ o.length + Tm.fulls l := trs_grow_of (fun t _ => tr_grow t) o
def eN : List Int → Nat → List (Int × D)
  | [], _ => []
  | x :: l, n => (x, .v (.int .i64 ((n : Nat) : Int))) :: eN l (n + 1)
theorem eN_find (m : Int) : ∀ (o : List Int) (n : Nat), mfind (eN o n) m = if m ∈ o then some (.v (.int .i64 ((n + ix m o : Nat) : Int))) else none
  | [], n => rfl
  | x :: l, n => by
    show (if m = x then _ else mfind (eN l (n + 1)) m) = _
    by_cases h : m = x
    · rw [if_pos h, if_pos (by simp [h])]
      have : ix m (x :: l) = 0 := by rw [ix, if_pos h.symm]
      rw [this]; rfl
    · have h1 : ix m (x :: l) = ix m l + 1 := by rw [ix, if_neg fun e => h e.symm]
      rw [if_neg h, eN_find m l (n + 1), h1]
      have h2 : (m ∈ x :: l) ↔ m ∈ l := by simp [h]
      by_cases h3 : m ∈ l
      · rw [if_pos h3, if_pos (h2.2 h3), show n + 1 + ix m l = n + (ix m l + 1) by omega]
      · rw [if_neg h3, if_neg (fun h => h3 (h2.1 h))]
theorem eN_put (m : Int) : ∀ (o : List Int) (n : Nat), m ∉ o → mput (eN o n) m (.v (.int .i64 ((n + o.length : Nat) : Int))) = eN (o ++ [m]) n
  | [], n, _ => rfl
  | x :: l, n, h => by
    show (if m = x then _ else _ :: mput (eN l (n + 1)) m _) = _
    have hx : m ≠ x := fun e => h (by simp [e])
    have := eN_put m l (n + 1) (fun h2 => h (by simp [h2]))
    rw [if_neg hx, show n + (x :: l).length = n + 1 + l.length by simp; omega, this]; rfl
@[simp] theorem eN_ok (f g : Nat → Bool) : ∀ (o : List Int) (n : Nat), D.okm f g (eN o n) = true
  | [], _ => by simp [eN, D.okm]
  | x :: l, n => by simp [eN, D.okm, D.ok, eN_ok f g l (n + 1)]
theorem ix_no {m : Int} : ∀ {o : List Int}, m ∉ o → ix m o = o.length
  | [], _ => rfl
  | x :: l, h => by rw [ix, if_neg fun e => h (by simp [e]), ix_no fun h2 => h (by simp [h2])]; rfl
end Ru
set_option maxHeartbeats 1000000 in
theorem rumet_d (o : List Int) (m : Int) (hl : o.length ≤ 900000) : CallG Tryz.prog 90 [.p 5 0, .v (.int .i64 m)] [(.c 5 0, .mo 3), (.c 5 1, .sl 1 (eIs o) (some 9)), (.o 3, .mp (Ru.eN o 0)), (.r 9, .rw 3 1 o.length)] [(.c 5 0, .mo 3), (.c 5 1, .sl 1 (eIs (Ru.met o m)) (some 9)), (.o 3, .mp (Ru.eN (Ru.met o m) 0)), (.r 9, .rw 3 1 (Ru.met o m).length)] (.v (.int .i64 (Ru.ix m o : Int))) := by
 have hf := Ru.eN_find m o 0
 unfold Ru.met
 by_cases h : m ∈ o
 ·rw [if_pos h] at hf ⊢
  rw [Nat.zero_add] at hf
  refine callG_of_dw 10 40 [ResultVar.tmp 4] TRA_ok (by kernel_rfl) Tryz.func90 rfl Tryz.ntmps90 rfl (by simp) ?dwords ?dbody
  case dwords => simp [wordsG, rowN, rowsR, gkey, Key.eq, D.ok, D.oks, D.okss, rnames, inN, ckey, eIs_ok, Ru.eN_ok]
  case dbody =>
   intro cx hnt hn0
   refine dw_seq ?_; refine dwk [] TRA_ok hnt fun K hK => ?_; refine hK _ _ ?_; clear hK K; refine dw_seq ?_; refine dwk [(13, .tu [.v (.int .i64 ↑(Ru.ix m o)), .v (.bool true)])] TRA_ok hnt fun K hK => ?_; refine And.intro (VLe.of_eq (by unfold lookD; rw [hf]; rfl)) ?_; refine hK _ _ ?_; clear hK K; refine dw_seq ?_; refine dw_seq ?_; refine dwk [] TRA_ok hnt fun K hK => ?_; refine hK _ _ ?_; clear hK K
   refine dw_cond (t := false) rfl ?_; rw [if_neg (by simp)]; refine dw_skip ?_; refine dw_seq ?_; refine dwk [] TRA_ok hnt fun K hK => ?_; refine hK _ _ ?_; clear hK K; refine dw_ret ?_
   exact reta rfl
 ·rw [if_neg h] at hf ⊢
  have hp := Ru.eN_put m o 0 h
  rw [Nat.zero_add] at hp
  rw [Ru.ix_no h]
  refine callG_of_dw 10 40 [ResultVar.tmp 4] TRA_ok (by kernel_rfl) Tryz.func90 rfl Tryz.ntmps90 rfl (by simp) ?dwords ?dbody
  case dwords => simp [wordsG, rowN, rowsR, gkey, Key.eq, D.ok, D.oks, D.okss, rnames, inN, ckey, eIs_ok, Ru.eN_ok]
  case dbody =>
   intro cx hnt hn0
   refine dw_seq ?_; refine dwk [] TRA_ok hnt fun K hK => ?_; refine hK _ _ ?_; clear hK K; refine dw_seq ?_; refine dwk [(13, .tu [.v (.int .i64 0), .v (.bool false)])] TRA_ok hnt fun K hK => ?_; refine And.intro (VLe.of_eq (by unfold lookD; rw [hf]; rfl)) ?_; refine hK _ _ ?_; clear hK K; refine dw_seq ?_; refine dw_seq ?_; refine dwk [] TRA_ok hnt fun K hK => ?_; refine hK _ _ ?_; clear hK K; refine dw_cond (t := true) rfl ?_
   rw [if_pos rfl]; refine dw_seq ?_; refine dwk [(22, .v (.int .i64 (↑o.length)))] TRA_ok hnt fun K hK => ?_; refine And.intro (dintE (by rw [eIs_len])) ?_; refine hK _ _ ?_; clear hK K; refine dw_seq ?_; refine dwk [] TRA_ok hnt fun K hK => ?_; refine hK _ _ ?_; clear hK K
   rw [hp]
   refine dwk [(36, .sl 1 (eIs (o ++ [m])) (some 9))] TRA_ok hnt fun K hK => ?_; refine And.intro (⟨by rw [eIs_len], by rw [eIs_len]; simp; omega⟩) ?_; refine And.intro (VLe.of_eq (by rw [eIs_append]; rfl)) ?_; refine hK _ _ ?_; clear hK K
   rw [show (eIs o ++ [[D.v (.int .i64 m)]]).length = (o ++ [m]).length by simp [eIs_len]]
   refine dw_seq ?_; refine dwk [] TRA_ok hnt fun K hK => ?_; refine hK _ _ ?_; clear hK K; refine dw_ret ?_
   exact reta rfl
def TrC (t : Tm) : Prop := ∀ o : List Int, o.length + t.full ≤ 700000 →
  CallG Tryz.prog 43 [.ag [.p 5 0], .ag (eTm t)] [(.c 5 0, .mo 3), (.c 5 1, .sl 1 (eIs o) (some 9)), (.o 3, .mp (Ru.eN o 0)), (.r 9, .rw 3 1 o.length)] [(.c 5 0, .mo 3), (.c 5 1, .sl 1 (eIs (Ru.tr t o).1) (some 9)), (.o 3, .mp (Ru.eN (Ru.tr t o).1 0)), (.r 9, .rw 3 1 (Ru.tr t o).1.length)] (.ag (eTm (Ru.tr t o).2))
set_option maxHeartbeats 2000000 in
theorem rutr_d (t : Tm) : TrC t := by
 induction t using Tm.ind with
 | h b k i a ih =>
 intro o hz
 rw [Tm.full_eq] at hz
 have hal := cFulls_len a
 have hfl := pflex_d (.mk b k i a)
 have hme := rumet_d o i (by omega)
 have hml := Ru.met_len o i
 rw [Ru.tr_eq]
 obtain ⟨o1, ho1⟩ : ∃ o1, (if k = 2 then Ru.met o i else o) = o1 := ⟨_, rfl⟩
 have hol : o1.length ≤ o.length + 1 := by
  rw [← ho1]; split
  ·exact hml
  ·omega
 obtain ⟨A, hA⟩ : ∃ A : Nat → List Int, A = fun j => (Ru.trs (a.take j) o1).1 := ⟨_, rfl⟩
 obtain ⟨B, hB⟩ : ∃ B : Nat → List Tm, B = fun j => (Ru.trs (a.take j) o1).2 := ⟨_, rfl⟩
 have hA0 : A 0 = o1 := by rw [hA]; rfl
 have hB0 : B 0 = [] := by rw [hB]; rfl
 have hAe : (Ru.trs a o1).1 = A a.length := by rw [hA]; simp
 have hBe : (Ru.trs a o1).2 = B a.length := by rw [hB]; simp
 have hAs : ∀ j (h : j < a.length), (Ru.tr a[j] (A j)).1 = A (j + 1) := fun j h => by rw [hA]; dsimp only; rw [Ru.trs_snoc a o1 j h]
 have hBs : ∀ j (h : j < a.length), eTms (B j) ++ [[.sl 2 (eTys (Ru.tr a[j] (A j)).2.binds) none, .v (.int .i64 (Ru.tr a[j] (A j)).2.kind), .v (.int .i64 (Ru.tr a[j] (A j)).2.index), .sl 4 (eTms (Ru.tr a[j] (A j)).2.args) none]] = eTms (B (j + 1)) := fun j h => by
  rw [hA, hB]; dsimp only; rw [Ru.trs_snoc a o1 j h, ← eTm_eq]
  dsimp only; rw [eTms_append]; rfl
 have hBl : ∀ j, j ≤ a.length → (eTms (B j)).length = j := fun j h => by rw [eTms_len, hB]; dsimp only; rw [Ru.trs_len, List.length_take]; omega
 have hAl : ∀ j, j ≤ a.length → (A j).length ≤ o1.length + Tm.fulls (a.take j) := fun j h => by rw [hA]; exact Ru.trs_grow _ _
 have hI : ∀ j (h : j < a.length), CallG Tryz.prog 43 [.ag [.p 5 0], .ag (eTm a[j])] [(.c 5 0, .mo 3), (.c 5 1, .sl 1 (eIs (A j)) (some 9)), (.o 3, .mp (Ru.eN (A j) 0)), (.r 9, .rw 3 1 (A j).length)] [(.c 5 0, .mo 3), (.c 5 1, .sl 1 (eIs (A (j + 1))) (some 9)), (.o 3, .mp (Ru.eN (A (j + 1)) 0)), (.r 9, .rw 3 1 (A (j + 1)).length)] (.ag (eTm (Ru.tr a[j] (A j)).2)) := fun j h => by
  rw [← hAs j h]
  refine ih _ (List.getElem_mem h) (A j) ?_
  have h1 := hAl j (by omega)
  have h2 := Tm.fulls_take a j h
  have h3 := Tm.fulls_take_le a (j + 1)
  omega
 rw [ho1, hAe, hBe]
 rw [eTm_eq] at hfl
 rw [eTm_eq, eTm_eq]
 simp only [bindsT, kindT, indexT, argsTm] at hfl ⊢
 have heN : eTms [] = [] := rfl
 have hfl : ∀ c : Bool, decide (k = 2) = c → PureC Tryz.prog 89 [.ag [.sl 2 (eTys b) none, .v (.int .i64 k), .v (.int .i64 i), .sl 4 (eTms a) none]] (.v (.bool c)) := fun c h => h ▸ hfl
 clear hA hB hAe hBe ih
 by_cases hk : k = 2
 ·rw [if_pos hk] at ho1 ⊢
  have hfl := hfl _ (decide_eq_true hk)
  rw [ho1] at hme
  refine callG_of_dw 10 39 [ResultVar.cell 4 36] TRA_ok (by kernel_rfl) Tryz.func43 rfl Tryz.ntmps43 rfl (by simp) ?dwords ?dbody
  case dwords => simp [wordsG, rowN, rowsR, gkey, Key.eq, D.ok, D.oks, D.okss, rnames, inN, ckey, eTys_ok, eTms_ok, eIs_ok, Ru.eN_ok]
  case dbody =>
   intro cx hnt hn0
   refine dw_seq ?_; refine dwk [] TRA_ok hnt fun K hK => ?_; refine hK _ _ ?_; clear hK K; refine dw_seq ?_; refine dw_seq ?_; refine dwk [] TRA_ok hnt fun K hK => ?_; refine dcl (hfl) ?_; refine hK _ _ ?_; clear hK K; refine dw_cond (t := true) rfl ?_; rw [if_pos rfl]; refine dwk [] TRA_ok hnt fun K hK => ?_; refine dcn (CallG.n (hme) _) ?_; refine hK _ _ ?_; clear hK K; refine dw_seq ?_; refine dwk [(20, .v (.int .i64 (↑a.length)))] TRA_ok hnt fun K hK => ?_
   refine And.intro (dintE (by rw [eTms_len])) ?_; refine And.intro (⟨by omega, by omega⟩) ?_; refine hK _ _ ?_; clear hK K; refine dw_seq ?_; refine dw_seq ?_; refine dwk [(24, .v (.int .i64 (↑a.length)))] TRA_ok hnt fun K hK => ?_; refine And.intro (dintE (by rw [eTms_len])) ?_; refine hK _ _ ?_; clear hK K; refine dw_block ?_
   refine dw_loop (ι := { j : Nat // j ≤ a.length }) (fun j => [(.t 2, .p 10 0), (.t 3, .p 11 0), (.t 4, .p 12 0), (.t 5, .sl 4 (eTms (B j.1)) (some 27)), (.t 23, .sl 4 (eTms a) none), (.t 24, .v (.int .i64 ↑a.length)), (.t 25, .v (.int .i64 ↑j.1)), (.c 10 0, .p 5 0), (.c 11 0, .sl 2 (eTys b) none), (.c 11 1, .v (.int .i64 k)), (.c 11 2, .v (.int .i64 ↑(Ru.ix i o))), (.c 11 3, .sl 4 (eTms a) none), (.c 12 0, .v (.slice none 0 0)), (.c 12 1, .v (.int .i64 0)), (.c 12 2, .v (.int .i64 0)), (.c 12 3, .v (.slice none 0 0)), (.r 27, .rw 36 4 j.1), (.c 5 0, .mo 3), (.c 5 1, .sl 1 (eIs (A j.1)) (some 9)), (.o 3, .mp (Ru.eN (A j.1) 0)), (.r 9, .rw 3 1 (A j.1).length)]) 28 (fun j => a.length - j.1) (⟨0, Nat.zero_le _⟩) ((by dsimp only; rw [hA0, hB0, heN]; exact VS.toA)) fun j => ?_
   obtain ⟨j, hj⟩ := j
   dsimp only
   by_cases hlt : j < a.length
   ·have hc := hI j hlt
    have hs := hBs j hlt
    have hlq := hBl j hj
    rw [eTm_eq, eTm_eq] at hc
    refine dw_seq ?_; refine dwk [(26, .v (.bool true))] TRA_ok hnt fun K hK => ?_; refine And.intro auT ?_; refine hK _ _ ?_; clear hK K; refine dw_seq ?_; refine dw_cond (t := true) rfl ?_; rw [if_pos rfl]; refine dw_skip ?_; refine dw_seq ?_; refine dw_block ?_; refine dw_seq ?_; refine dwk [(27, .q [.sl 2 (eTys a[j].binds) none, .v (.int .i64 a[j].kind), .v (.int .i64 a[j].index), .sl 4 (eTms a[j].args) none])] TRA_ok hnt fun K hK => ?_
    refine And.intro (elo (eTms_len a)) ?_; refine And.intro (elv (eTms_getD a j) (eTm_eq _)) ?_; refine hK _ _ ?_; clear hK K; refine dwk [(34, .sl 4 (eTms (B (j + 1))) (some 27))] TRA_ok hnt fun K hK => ?_; refine dcn (CallG.n (hc) _) ?_; refine And.intro (⟨by rw [hlq], by rw [hlq]; simp; omega⟩) ?_; refine And.intro (VLe.of_eq (by rw [hs])) ?_; refine hK _ _ ?_; clear hK K; refine dwk [(35, .v (.int .i64 (↑(j + 1))))] TRA_ok hnt fun K hK => ?_
    refine And.intro auI ?_; refine hK _ _ ?_; clear hK K
    refine ⟨⟨j + 1, hlt⟩, by first | omega | (dsimp only; omega), (by try simp only [List.length_append, List.length_take, List.length_cons, List.length_nil, Nat.zero_add, hlq]; exact VS.toA)⟩
   ·have hj2 : j = a.length := by omega
    subst hj2
    refine dw_seq ?_; refine dwk [(26, .v (.bool false))] TRA_ok hnt fun K hK => ?_; refine And.intro auF ?_; refine hK _ _ ?_; clear hK K; refine dw_seq ?_; refine dw_cond (t := false) rfl ?_; rw [if_neg (by simp)]; refine dw_exit ?_; refine dw_seq ?_; refine dwk [] TRA_ok hnt fun K hK => ?_; refine hK _ _ ?_; clear hK K; refine dw_seq ?_; refine dwk [] TRA_ok hnt fun K hK => ?_; refine hK _ _ ?_; clear hK K
    refine dw_ret ?_
    exact reta rfl
 ·rw [if_neg hk] at ho1 ⊢
  have hfl := hfl _ (decide_eq_false hk)
  subst ho1
  refine callG_of_dw 10 39 [ResultVar.cell 4 36] TRA_ok (by kernel_rfl) Tryz.func43 rfl Tryz.ntmps43 rfl (by simp) ?dwords ?dbody
  case dwords => simp [wordsG, rowN, rowsR, gkey, Key.eq, D.ok, D.oks, D.okss, rnames, inN, ckey, eTys_ok, eTms_ok, eIs_ok, Ru.eN_ok]
  case dbody =>
   intro cx hnt hn0
   refine dw_seq ?_; refine dwk [] TRA_ok hnt fun K hK => ?_; refine hK _ _ ?_; clear hK K; refine dw_seq ?_; refine dw_seq ?_; refine dwk [] TRA_ok hnt fun K hK => ?_; refine dcl (hfl) ?_; refine hK _ _ ?_; clear hK K; refine dw_cond (t := false) rfl ?_; rw [if_neg (by simp)]; refine dw_skip ?_; refine dw_seq ?_; refine dwk [(20, .v (.int .i64 (↑a.length)))] TRA_ok hnt fun K hK => ?_; refine And.intro (dintE (by rw [eTms_len])) ?_
   refine And.intro (⟨by omega, by omega⟩) ?_; refine hK _ _ ?_; clear hK K; refine dw_seq ?_; refine dw_seq ?_; refine dwk [(24, .v (.int .i64 (↑a.length)))] TRA_ok hnt fun K hK => ?_; refine And.intro (dintE (by rw [eTms_len])) ?_; refine hK _ _ ?_; clear hK K; refine dw_block ?_
   refine dw_loop (ι := { j : Nat // j ≤ a.length }) (fun j => [(.t 2, .p 10 0), (.t 3, .p 11 0), (.t 4, .p 12 0), (.t 5, .sl 4 (eTms (B j.1)) (some 18)), (.t 23, .sl 4 (eTms a) none), (.t 24, .v (.int .i64 ↑a.length)), (.t 25, .v (.int .i64 ↑j.1)), (.c 10 0, .p 5 0), (.c 11 0, .sl 2 (eTys b) none), (.c 11 1, .v (.int .i64 k)), (.c 11 2, .v (.int .i64 i)), (.c 11 3, .sl 4 (eTms a) none), (.c 12 0, .v (.slice none 0 0)), (.c 12 1, .v (.int .i64 0)), (.c 12 2, .v (.int .i64 0)), (.c 12 3, .v (.slice none 0 0)), (.r 18, .rw 36 4 j.1), (.c 5 0, .mo 3), (.c 5 1, .sl 1 (eIs (A j.1)) (some 9)), (.o 3, .mp (Ru.eN (A j.1) 0)), (.r 9, .rw 3 1 (A j.1).length)]) 19 (fun j => a.length - j.1) (⟨0, Nat.zero_le _⟩) ((by dsimp only; rw [hA0, hB0, heN]; exact VS.toA)) fun j => ?_
   obtain ⟨j, hj⟩ := j
   dsimp only
   by_cases hlt : j < a.length
   ·have hc := hI j hlt
    have hs := hBs j hlt
    have hlq := hBl j hj
    rw [eTm_eq, eTm_eq] at hc
    refine dw_seq ?_; refine dwk [(26, .v (.bool true))] TRA_ok hnt fun K hK => ?_; refine And.intro auT ?_; refine hK _ _ ?_; clear hK K; refine dw_seq ?_; refine dw_cond (t := true) rfl ?_; rw [if_pos rfl]; refine dw_skip ?_; refine dw_seq ?_; refine dw_block ?_; refine dw_seq ?_; refine dwk [(27, .q [.sl 2 (eTys a[j].binds) none, .v (.int .i64 a[j].kind), .v (.int .i64 a[j].index), .sl 4 (eTms a[j].args) none])] TRA_ok hnt fun K hK => ?_
    refine And.intro (elo (eTms_len a)) ?_; refine And.intro (elv (eTms_getD a j) (eTm_eq _)) ?_; refine hK _ _ ?_; clear hK K; refine dwk [(34, .sl 4 (eTms (B (j + 1))) (some 18))] TRA_ok hnt fun K hK => ?_; refine dcn (CallG.n (hc) _) ?_; refine And.intro (⟨by rw [hlq], by rw [hlq]; simp; omega⟩) ?_; refine And.intro (VLe.of_eq (by rw [hs])) ?_; refine hK _ _ ?_; clear hK K; refine dwk [(35, .v (.int .i64 (↑(j + 1))))] TRA_ok hnt fun K hK => ?_
    refine And.intro auI ?_; refine hK _ _ ?_; clear hK K
    refine ⟨⟨j + 1, hlt⟩, by first | omega | (dsimp only; omega), (by try simp only [List.length_append, List.length_take, List.length_cons, List.length_nil, Nat.zero_add, hlq]; exact VS.toA)⟩
   ·have hj2 : j = a.length := by omega
    subst hj2
    refine dw_seq ?_; refine dwk [(26, .v (.bool false))] TRA_ok hnt fun K hK => ?_; refine And.intro auF ?_; refine hK _ _ ?_; clear hK K; refine dw_seq ?_; refine dw_cond (t := false) rfl ?_; rw [if_neg (by simp)]; refine dw_exit ?_; refine dw_seq ?_; refine dwk [] TRA_ok hnt fun K hK => ?_; refine hK _ _ ?_; clear hK K; refine dw_seq ?_; refine dwk [] TRA_ok hnt fun K hK => ?_; refine hK _ _ ?_; clear hK K
    refine dw_ret ?_
    exact reta rfl
end Go.Proofs.YtdmiekaeodcehaaGreat

namespace Go.Proofs.YtdmiekaeodcehaaGreat
open Go.RowKit
end Go.Proofs.YtdmiekaeodcehaaGreat

namespace Go.Proofs.YtdmiekaeodcehaaGreat
open Go.RowKit
def TRB_38 : TI := ⟨9, true, [Value.slice none 0 0, Value.int IntKind.i64 0, Value.int IntKind.i64 0, Value.slice none 0 0, Value.slice none 0 0, Value.int IntKind.i64 0, Value.int IntKind.i64 0, Value.slice none 0 0, Value.slice none 0 0], [(0, 4, true), (4, 4, true), (8, 1, false)], none, 152, 6, none, false⟩
theorem TRB_38_ok : TypOk Tryz.prog 38 TRB_38 := ⟨by kernel_rfl, by kernel_rfl, by kernel_rfl, by kernel_rfl, by kernel_rfl⟩
def TRB_32 : TI := ⟨1, false, [Value.slice none 0 0], [], some 75, 24, 5, none, false⟩
theorem TRB_32_ok : TypOk Tryz.prog 32 TRB_32 := ⟨by kernel_rfl, by kernel_rfl, by kernel_rfl, by kernel_rfl, by kernel_rfl⟩
def TRB_36 : TI := ⟨4, true, [Value.slice none 0 0, Value.int IntKind.i64 0, Value.int IntKind.i64 0, Value.slice none 0 0], [(0, 1, false), (1, 2, true), (3, 1, false)], none, 64, 6, none, false⟩
theorem TRB_36_ok : TypOk Tryz.prog 36 TRB_36 := ⟨by kernel_rfl, by kernel_rfl, by kernel_rfl, by kernel_rfl, by kernel_rfl⟩
def TRB_75 : TI := ⟨2, true, [Value.slice none 0 0, Value.int IntKind.i64 0], [(0, 1, false), (1, 1, false)], none, 32, 6, none, false⟩
theorem TRB_75_ok : TypOk Tryz.prog 75 TRB_75 := ⟨by kernel_rfl, by kernel_rfl, by kernel_rfl, by kernel_rfl, by kernel_rfl⟩
def TRB_86 : TI := ⟨1, true, [Value.pointer none], [(0, 1, false)], none, 8, 6, none, false⟩
theorem TRB_86_ok : TypOk Tryz.prog 86 TRB_86 := ⟨by kernel_rfl, by kernel_rfl, by kernel_rfl, by kernel_rfl, by kernel_rfl⟩
def TRB_3 : TI := ⟨1, false, [Value.int IntKind.i64 0], [], none, 8, 2, none, false⟩
theorem TRB_3_ok : TypOk Tryz.prog 3 TRB_3 := ⟨by kernel_rfl, by kernel_rfl, by kernel_rfl, by kernel_rfl, by kernel_rfl⟩
def TRB_84 : TI := ⟨2, true, [Value.map none, Value.slice none 0 0], [(0, 1, false), (1, 1, false)], none, 32, 6, none, false⟩
theorem TRB_84_ok : TypOk Tryz.prog 84 TRB_84 := ⟨by kernel_rfl, by kernel_rfl, by kernel_rfl, by kernel_rfl, by kernel_rfl⟩
def TRB_82 : TI := ⟨1, false, [Value.slice none 0 0], [], some 3, 24, 5, none, false⟩
theorem TRB_82_ok : TypOk Tryz.prog 82 TRB_82 := ⟨by kernel_rfl, by kernel_rfl, by kernel_rfl, by kernel_rfl, by kernel_rfl⟩
def TRB_48 : TI := ⟨3, true, [Value.int IntKind.i64 0, Value.slice none 0 0, Value.slice none 0 0], [(0, 1, false), (1, 1, false), (2, 1, false)], none, 56, 6, none, false⟩
theorem TRB_48_ok : TypOk Tryz.prog 48 TRB_48 := ⟨by kernel_rfl, by kernel_rfl, by kernel_rfl, by kernel_rfl, by kernel_rfl⟩
def TRB_39 : TI := ⟨1, false, [Value.int IntKind.i64 0], [], none, 8, 2, none, false⟩
theorem TRB_39_ok : TypOk Tryz.prog 39 TRB_39 := ⟨by kernel_rfl, by kernel_rfl, by kernel_rfl, by kernel_rfl, by kernel_rfl⟩
def TRB_81 : TI := ⟨1, false, [Value.map none], [], none, 8, 7, some 3, false⟩
theorem TRB_81_ok : TypOk Tryz.prog 81 TRB_81 := ⟨by kernel_rfl, by kernel_rfl, by kernel_rfl, by kernel_rfl, by kernel_rfl⟩
def TRB_80 : TI := ⟨1, false, [Value.pointer none], [], none, 8, 4, none, false⟩
theorem TRB_80_ok : TypOk Tryz.prog 80 TRB_80 := ⟨by kernel_rfl, by kernel_rfl, by kernel_rfl, by kernel_rfl, by kernel_rfl⟩
def TRB_98 : TI := ⟨1, false, [Value.nilFunc], [], none, 8, 8, none, false⟩
theorem TRB_98_ok : TypOk Tryz.prog 98 TRB_98 := ⟨by kernel_rfl, by kernel_rfl, by kernel_rfl, by kernel_rfl, by kernel_rfl⟩
def TRB : List (Nat × TI) := [(38, TRB_38), (32, TRB_32), (36, TRB_36), (75, TRB_75), (86, TRB_86), (3, TRB_3), (84, TRB_84), (82, TRB_82), (48, TRB_48), (39, TRB_39), (81, TRB_81), (80, TRB_80), (98, TRB_98)]
theorem TRB_ok : TabOk Tryz.prog TRB := ((((((((((((((TabOk.nil _).cons TRB_98_ok).cons TRB_80_ok).cons TRB_81_ok).cons TRB_39_ok).cons TRB_48_ok).cons TRB_82_ok).cons TRB_84_ok).cons TRB_3_ok).cons TRB_86_ok).cons TRB_75_ok).cons TRB_36_ok).cons TRB_32_ok).cons TRB_38_ok)

namespace Ru
open Li (Pr)
def bad (M : List Ty) (x : Int) : Bool := decide (x < 0 ∨ (M.length : Int) ≤ x)
def mt (M : List Ty) (x : Int) : Ty := M.getD x.toNat (.mk [] 0)
def own (p : Pr) : Pr × Int :=
  if (tr p.r (tr p.l []).1).1.any (bad p.m) then (.z, 10) else (⟨(tr p.l []).2, (tr p.r (tr p.l []).1).2, (tr p.r (tr p.l []).1).1.map (mt p.m)⟩, 0)
theorem trs_full_of {l : List Tm} (h : ∀ t ∈ l, ∀ o, (tr t o).2.full = t.full) : ∀ o, Tm.fulls (trs l o).2 = Tm.fulls l := by
  induction l with
  | nil => intro o; simp [trs]
  | cons t l ih =>
    intro o
    have h1 := h t (by simp) o
    have h2 := ih (fun u hu => h u (by simp [hu])) (tr t o).1
    rw [trs, Tm.fulls]
    try dsimp only
    rw [Tm.fulls]; omega
theorem tr_full (t : Tm) : ∀ o, (tr t o).2.full = t.full := by
  induction t using Tm.ind with
  | h b k i a ih =>
    intro o
    rw [tr_eq, Tm.full_eq]
    try dsimp only
    rw [Tm.full_eq, trs_full_of ih]
theorem ix_le (m : Int) : ∀ o : List Int, ix m o ≤ o.length
  | [] => Nat.le_refl _
  | x :: l => by
    rw [ix]; split
    · exact Nat.zero_le _
    · have := ix_le m l; simp; omega
theorem trs_fit_of {l : List Tm} (h : ∀ t ∈ l, ∀ o, o.length + t.full ≤ 1000000 → t.Fit → (tr t o).2.Fit) : ∀ o, o.length + Tm.fulls l ≤ 1000000 → (∀ t ∈ l, t.Fit) → ∀ u ∈ (trs l o).2, u.Fit := by
  induction l with
  | nil => intro o _ _ u hu; simp [trs] at hu
  | cons t l ih =>
    intro o hz hf u hu
    rw [Tm.fulls] at hz
    have h1 := tr_grow t o
    rw [trs] at hu
    dsimp only at hu
    rcases List.mem_cons.1 hu with rfl | hu
    · exact h t (by simp) o (by omega) (hf t (by simp))
    · exact ih (fun u hu => h u (by simp [hu])) (tr t o).1 (by omega) (fun u hu => hf u (by simp [hu])) u hu
theorem tr_fit (t : Tm) : ∀ o, o.length + t.full ≤ 1000000 → t.Fit → (tr t o).2.Fit := by
  induction t using Tm.ind with
  | h b k i a ih =>
    intro o hz hf
    rw [Tm.full_eq] at hz
    obtain ⟨f1, f2, f3⟩ := Tm.fit_iff.1 hf
    have h1 := ix_le i o
    have h2 := met_len o i
    rw [tr_eq]
    try dsimp only
    refine Tm.fit_iff.2 ⟨?_, ?_, trs_fit_of ih _ ?_ f3⟩
    · split <;> omega
    · split <;> omega
    · split <;> omega
theorem mt_at {M : List Ty} {x : Nat} (h : x < M.length) : mt M (x : Int) = M[x] := by
  unfold mt; rw [Int.toNat_natCast, List.getD_eq_getElem?_getD, List.getElem?_eq_getElem h]; rfl
theorem map_snoc (f : Int → Ty) (o : List Int) (j : Nat) (h : j < o.length) : eTys ((o.map f).take j) ++ [[.sl 2 (eTys (f o[j]).args) none, .v (.int .i64 (f o[j]).base)]] = eTys ((o.map f).take (j + 1)) := by
  have h2 : j < (o.map f).length := by rw [List.length_map]; exact h
  rw [← eTys_snoc _ j h2, List.getElem_map]
end Ru
set_option maxHeartbeats 4000000 in
theorem ruown_d (p : Li.Pr) (hl : p.l.full ≤ 100000 ∧ p.l.Fit) (hr : p.r.full ≤ 100000 ∧ p.r.Fit) (hm : ∀ t ∈ p.m, t.size ≤ 100000) (hml : p.m.length ≤ 900000) : PureC Tryz.prog 8 [.ag (ePr p)] (.tu [.ag (ePr (Ru.own p).1), .v (.int .i64 (Ru.own p).2)]) := by
 have h1 : CallG Tryz.prog 43 [.ag [.p 5 0], .ag (eTm p.l)] [(.c 5 0, .mo 3), (.c 5 1, .sl 1 [] (some 9)), (.o 3, .mp []), (.r 9, .rw 3 1 0)] [(.c 5 0, .mo 3), (.c 5 1, .sl 1 (eIs (Ru.tr p.l []).1) (some 9)), (.o 3, .mp (Ru.eN (Ru.tr p.l []).1 0)), (.r 9, .rw 3 1 (Ru.tr p.l []).1.length)] (.ag (eTm (Ru.tr p.l []).2)) := rutr_d p.l [] (by simp; omega)
 have g1 := Ru.tr_grow p.l []
 have z1 := Ru.tr_full p.l []
 have f1 := Ru.tr_fit p.l [] (by simp; omega) hl.2
 unfold Ru.own
 obtain ⟨⟨o1, L⟩, hx1⟩ : ∃ x, Ru.tr p.l [] = x := ⟨_, rfl⟩
 rw [hx1] at h1 g1 z1 f1 ⊢
 try dsimp only at h1 g1 z1 f1 ⊢
 simp only [List.length_nil, Nat.zero_add] at g1
 have h2 := rutr_d p.r o1 (by omega)
 have g2 := Ru.tr_grow p.r o1
 have z2 := Ru.tr_full p.r o1
 have f2 := Ru.tr_fit p.r o1 (by omega) hr.2
 obtain ⟨⟨o, R⟩, hx2⟩ : ∃ x, Ru.tr p.r o1 = x := ⟨_, rfl⟩
 rw [hx2] at h2 g2 z2 f2 ⊢
 try dsimp only at h2 g2 z2 f2 ⊢
 have c1 := copyW_d L (by omega) f1
 have c2 := copyW_d R (by omega) f2
 obtain ⟨pl, pr, pm⟩ := p
 dsimp only at *
 rw [eTm_eq, eTm_eq] at h1 h2
 rw [eTm_eq] at c1 c2
 rw [ePr_eq]
 have hwl : (o.map (Ru.mt pm)).length = o.length := List.length_map ..
 have hwg := Ru.map_snoc (Ru.mt pm) o
 obtain ⟨W, hW⟩ : ∃ W, o.map (Ru.mt pm) = W := ⟨_, rfl⟩
 rw [hW] at hwl hwg ⊢
 clear hW
 refine calldw 0 57 [ResultVar.cell 2 38, ResultVar.tmp 3] TRB_ok Tryz.func8 rfl Tryz.ntmps8 rfl fun cx hnt hn0 => ?_
 ·skip
  refine dw_seq ?_; refine dwk [] TRB_ok hnt fun K hK => ?_; refine hK _ _ ?_; clear hK K; refine dw_seq ?_; refine dwk [] TRB_ok hnt fun K hK => ?_; refine hK _ _ ?_; clear hK K
  refine DW.vs (VS.row (k := 5) (off := 1) 3 1 rfl) ?_
  refine dw_seq ?_; refine dwk [] TRB_ok hnt fun K hK => ?_; refine dcn (CallG.n (h1) _) ?_; refine dcl (c1) ?_; refine hK _ _ ?_; clear hK K; refine dw_seq ?_; refine dwk [] TRB_ok hnt fun K hK => ?_; refine dcn (CallG.n (h2) _) ?_; refine dcl (c2) ?_; refine hK _ _ ?_; clear hK K
  refine DW.vs (VS.row (k := 16) (off := 8) 75 2 rfl) ?_
  refine dw_seq ?_; refine dw_seq ?_; refine dwk [(29, .v (.int .i64 (↑o.length)))] TRB_ok hnt fun K hK => ?_; refine And.intro (dintE (by rw [eIs_len])) ?_; refine hK _ _ ?_; clear hK K; refine dw_block ?_
  refine dw_loop (ι := { j : Nat // j ≤ o.length ∧ ∀ i (h : i < o.length), i < j → Ru.bad pm o[i] = false }) (fun j => [(.t 1, .p 0 0), (.t 2, .p 1 0), (.t 3, .v (.int .i64 0)), (.t 5, .p 16 0), (.t 28, .sl 1 (eIs o) none), (.t 29, .v (.int .i64 ↑o.length)), (.t 30, .v (.int .i64 ↑j.1)), (.c 0 0, .sl 2 (eTys pl.binds) none), (.c 0 1, .v (.int .i64 pl.kind)), (.c 0 2, .v (.int .i64 pl.index)), (.c 0 3, .sl 4 (eTms pl.args) none), (.c 0 4, .sl 2 (eTys pr.binds) none), (.c 0 5, .v (.int .i64 pr.kind)), (.c 0 6, .v (.int .i64 pr.index)), (.c 0 7, .sl 4 (eTms pr.args) none), (.c 0 8, .sl 2 (eTys pm) none), (.c 1 0, .v (.slice none 0 0)), (.c 1 1, .v (.int .i64 0)), (.c 1 2, .v (.int .i64 0)), (.c 1 3, .v (.slice none 0 0)), (.c 1 4, .v (.slice none 0 0)), (.c 1 5, .v (.int .i64 0)), (.c 1 6, .v (.int .i64 0)), (.c 1 7, .v (.slice none 0 0)), (.c 1 8, .v (.slice none 0 0)), (.c 16 0, .sl 2 (eTys L.binds) none), (.c 16 1, .v (.int .i64 L.kind)), (.c 16 2, .v (.int .i64 L.index)), (.c 16 3, .sl 4 (eTms L.args) none), (.c 16 4, .sl 2 (eTys R.binds) none), (.c 16 5, .v (.int .i64 R.kind)), (.c 16 6, .v (.int .i64 R.index)), (.c 16 7, .sl 4 (eTms R.args) none), (.c 16 8, .sl 2 (eTys (W.take j.1)) (some 25)), (.r 25, .rw 75 2 j.1)]) 26 (fun j => o.length - j.1) (⟨0, Nat.zero_le _, fun i h1 h2 => by omega⟩) (VS.toA) fun j => ?_
  obtain ⟨j, hj, hjb⟩ := j
  dsimp only
  by_cases hlt : j < o.length
  ·have hs := hwg j hlt
   have hlq : (eTys (W.take j)).length = j := by rw [eTys_len, List.length_take]; omega
   cases hb : Ru.bad pm o[j] with
   | true =>
    have ha : o.any (Ru.bad pm) = true := List.any_eq_true.2 ⟨_, List.getElem_mem hlt, hb⟩
    rw [if_pos ha, ePr_z]
    unfold Ru.bad at hb
    rw [decide_eq_true_eq] at hb
    by_cases hn : o[j] < 0
    ·skip
     refine dw_seq ?_; refine dwk [(31, .v (.bool true))] TRB_ok hnt fun K hK => ?_; refine And.intro auT ?_; refine hK _ _ ?_; clear hK K; refine dw_seq ?_; refine dw_cond (t := true) rfl ?_; rw [if_pos rfl]; refine dw_skip ?_; refine dw_seq ?_; refine dw_block ?_; refine dw_seq ?_; refine dwk [(32, .q [.v (.int .i64 (o[j]))])] TRB_ok hnt fun K hK => ?_; refine And.intro (elo (eIs_len o)) ?_; refine And.intro (elv (eIs_getD o j) rfl) ?_
     refine hK _ _ ?_; clear hK K; refine dw_seq ?_; refine dw_seq ?_; refine dwk [(35, .v (.bool true))] TRB_ok hnt fun K hK => ?_; refine And.intro auT ?_; refine hK _ _ ?_; clear hK K; refine dw_cond (t := true) rfl ?_; rw [if_pos rfl]; refine dw_seq ?_; refine dwk [] TRB_ok hnt fun K hK => ?_; refine hK _ _ ?_; clear hK K; refine dw_ret ?_
     exact reta rfl
    ·have hn2 : (pm.length : Int) ≤ o[j] := by omega
     refine dw_seq ?_; refine dwk [(31, .v (.bool true))] TRB_ok hnt fun K hK => ?_; refine And.intro auT ?_; refine hK _ _ ?_; clear hK K; refine dw_seq ?_; refine dw_cond (t := true) rfl ?_; rw [if_pos rfl]; refine dw_skip ?_; refine dw_seq ?_; refine dw_block ?_; refine dw_seq ?_; refine dwk [(32, .q [.v (.int .i64 (o[j]))])] TRB_ok hnt fun K hK => ?_; refine And.intro (elo (eIs_len o)) ?_; refine And.intro (elv (eIs_getD o j) rfl) ?_
     refine hK _ _ ?_; clear hK K; refine dw_seq ?_; refine dw_seq ?_; refine dwk [(35, .v (.bool false)), (40, .v (.int .i64 (↑pm.length))), (41, .v (.bool true))] TRB_ok hnt fun K hK => ?_; refine And.intro auF ?_; refine And.intro (dintE (by rw [eTys_len])) ?_; refine And.intro auT ?_; refine hK _ _ ?_; clear hK K; refine dw_cond (t := true) rfl ?_; rw [if_pos rfl]; refine dw_seq ?_; refine dwk [] TRB_ok hnt fun K hK => ?_
     refine hK _ _ ?_; clear hK K; refine dw_ret ?_
     exact reta rfl
   | false =>
    have hb2 := hb
    unfold Ru.bad at hb2
    rw [decide_eq_false_iff_not] at hb2
    obtain ⟨x, hx⟩ : ∃ x : Nat, o[j] = x := ⟨o[j].toNat, by omega⟩
    have hxl : x < pm.length := by omega
    have hc := arrow_d pm[x] [] (by have := hm _ (List.getElem_mem hxl); simp [Ty.sizes]; omega)
    rw [List.nil_append, show Ty.mk pm[x].args pm[x].base = pm[x] by generalize pm[x] = t; cases t; rfl] at hc
    have hc : PureC Tryz.prog 44 [.ag (eTy pm[x]), .v (.slice none 0 0)] (.ag (eTy pm[x])) := CallC.vle hc (.cons (VLe.refl _) (.cons (VLe.nil _) .nil)) (VLe.refl _)
    have hgo : (eIs o).getD j [] = [.v (.int .i64 ↑x)] := by rw [eIs_getD o j hlt, hx]
    rw [hx, Ru.mt_at hxl] at hs
    rw [eTy_eq] at hc
    refine dw_seq ?_; refine dwk [(31, .v (.bool true))] TRB_ok hnt fun K hK => ?_; refine And.intro auT ?_; refine hK _ _ ?_; clear hK K; refine dw_seq ?_; refine dw_cond (t := true) rfl ?_; rw [if_pos rfl]; refine dw_skip ?_; refine dw_seq ?_; refine dw_block ?_; refine dw_seq ?_; refine dwk [(32, .q [.v (.int .i64 ↑x)])] TRB_ok hnt fun K hK => ?_; refine And.intro (⟨by omega, by rw [eIs_len]; omega⟩) ?_
    refine And.intro (VLe.of_eq (by rw [Int.toNat_natCast, hgo])) ?_; refine hK _ _ ?_; clear hK K; refine dw_seq ?_; refine dw_seq ?_; refine dwk [(35, .v (.bool false)), (40, .v (.int .i64 (↑pm.length))), (41, .v (.bool false))] TRB_ok hnt fun K hK => ?_; refine And.intro auF ?_; refine And.intro (dintE (by rw [eTys_len])) ?_; refine And.intro auF ?_; refine hK _ _ ?_; clear hK K; refine dw_cond (t := false) rfl ?_
    rw [if_neg (by simp)]; refine dw_skip ?_; refine dwkD [(49, .q [.sl 2 (eTys pm[x].args) none, .v (.int .i64 pm[x].base)]), (53, .sl 2 (eTys (W.take (j + 1))) (some 25))] TRB_ok hnt fun K hK => ?_; refine And.intro (elo (eTys_len pm)) ?_; refine And.intro (elv (eTys_getD pm x) (eTy_eq _)) ?_; refine dcl (hc) ?_; refine And.intro (⟨by rw [hlq], by rw [hlq]; simp; omega⟩) ?_; refine And.intro (VLe.of_eq (by rw [hs])) ?_
    refine hK _ _ (by kernel_rfl) ?_; clear hK K; refine dwk [(55, .v (.int .i64 (↑(j + 1))))] TRB_ok hnt fun K hK => ?_; refine And.intro auI ?_; refine hK _ _ ?_; clear hK K
    refine ⟨⟨j + 1, hlt, fun i h1 h2 => if e : i = j then by subst e; exact hb else hjb i h1 (by omega)⟩, by first | omega | (dsimp only; omega), (by try simp only [List.length_append, List.length_take, List.length_cons, List.length_nil, Nat.zero_add, hlq]; exact VS.toA)⟩
  ·have ha : o.any (Ru.bad pm) = false := by
    rw [List.any_eq_false]
    intro x hx
    obtain ⟨i, hi, rfl⟩ := List.getElem_of_mem hx
    rw [hjb i hi (by omega)]; simp
   rw [if_neg (by rw [ha]; simp), ePr_eq]
   rw [List.take_of_length_le (by omega)]
   refine dw_seq ?_; refine dwk [(31, .v (.bool false))] TRB_ok hnt fun K hK => ?_; refine And.intro auF ?_; refine hK _ _ ?_; clear hK K; refine dw_seq ?_; refine dw_cond (t := false) rfl ?_; rw [if_neg (by simp)]; refine dw_exit ?_; refine dw_seq ?_; refine dwk [] TRB_ok hnt fun K hK => ?_; refine hK _ _ ?_; clear hK K; refine dw_ret ?_
   exact reta rfl
theorem ruequal_d (p q : Li.Pr) : PureC Tryz.prog 16 [.ag (ePr p), .ag (ePr q)] (.v (.bool (decide (p = q)))) := by
 obtain ⟨L, R, M⟩ := p
 obtain ⟨L', R', M'⟩ := q
 have c1 := equal2_d L L'
 have c2 := equal2_d R R'
 have c3 := eqTys_d M M' 52 rfl
 have e : decide ((⟨L, R, M⟩ : Li.Pr) = ⟨L', R', M'⟩) = ((decide (L = L') && decide (R = R')) && decide (M = M')) := by
  rw [Bool.eq_iff_iff]; simp [and_assoc]
 rw [e]
 rw [eTm_eq L, eTm_eq L'] at c1
 rw [eTm_eq R, eTm_eq R'] at c2
 rw [ePr_eq, ePr_eq]
 cases hA : decide (L = L') with
 | false =>
  rw [hA] at c1
  rw [Bool.false_and, Bool.false_and]
  refine calldw 0 24 [ResultVar.tmp 4] TRB_ok Tryz.func16 rfl Tryz.ntmps16 rfl fun cx hnt hn0 => ?_
  ·skip
   refine dw_seq ?_; refine dwk [] TRB_ok hnt fun K hK => ?_; refine hK _ _ ?_; clear hK K; refine dw_seq ?_; refine dwk [] TRB_ok hnt fun K hK => ?_; refine dcl (c1) ?_; refine hK _ _ ?_; clear hK K; refine dw_ret ?_
   exact reta rfl
 | true =>
  rw [hA] at c1
  cases hB : decide (R = R') with
  | false =>
   rw [hB] at c2
   rw [Bool.and_false, Bool.false_and]
   refine calldw 0 24 [ResultVar.tmp 4] TRB_ok Tryz.func16 rfl Tryz.ntmps16 rfl fun cx hnt hn0 => ?_
   ·skip
    refine dw_seq ?_; refine dwk [] TRB_ok hnt fun K hK => ?_; refine hK _ _ ?_; clear hK K; refine dw_seq ?_; refine dwk [] TRB_ok hnt fun K hK => ?_; refine dcl (c1) ?_; refine dcl (c2) ?_; refine hK _ _ ?_; clear hK K; refine dw_ret ?_
    exact reta rfl
  | true =>
   rw [hB] at c2
   rw [Bool.and_true, Bool.true_and]
   refine calldw 0 24 [ResultVar.tmp 4] TRB_ok Tryz.func16 rfl Tryz.ntmps16 rfl fun cx hnt hn0 => ?_
   ·skip
    refine dw_seq ?_; refine dwk [] TRB_ok hnt fun K hK => ?_; refine hK _ _ ?_; clear hK K; refine dw_seq ?_; refine dwk [] TRB_ok hnt fun K hK => ?_; refine dcl (c1) ?_; refine dcl (c2) ?_; refine dcl (c3) ?_; refine hK _ _ ?_; clear hK K; refine dw_ret ?_
    exact reta rfl
namespace Ru
def vari (p q : Li.Pr) : Bool := (decide ((own p).2 = 0) && decide ((own q).2 = 0)) && decide ((own p).1 = (own q).1)
end Ru
theorem ruvari_d (p q : Li.Pr) (hpl : p.l.full ≤ 100000 ∧ p.l.Fit) (hpr : p.r.full ≤ 100000 ∧ p.r.Fit) (hpm : ∀ t ∈ p.m, t.size ≤ 100000) (hpn : p.m.length ≤ 900000) (hql : q.l.full ≤ 100000 ∧ q.l.Fit) (hqr : q.r.full ≤ 100000 ∧ q.r.Fit) (hqm : ∀ t ∈ q.m, t.size ≤ 100000) (hqn : q.m.length ≤ 900000) : PureC Tryz.prog 17 [.ag (ePr p), .ag (ePr q)] (.v (.bool (Ru.vari p q))) := by
 have h1 := ruown_d p hpl hpr hpm hpn
 have h2 := ruown_d q hql hqr hqm hqn
 unfold Ru.vari
 generalize Ru.own p = x at h1 ⊢
 generalize Ru.own q = y at h2 ⊢
 obtain ⟨⟨xl, xr, xm⟩, xe⟩ := x
 obtain ⟨⟨yl, yr, ym⟩, ye⟩ := y
 dsimp only at h1 h2 ⊢
 have he := ruequal_d ⟨xl, xr, xm⟩ ⟨yl, yr, ym⟩
 rw [ePr_at] at h1 h2 ⊢
 rw [ePr_at q]
 rw [ePr_eq] at h1 h2
 rw [ePr_eq, ePr_eq] at he
 by_cases hx : xe = 0
 ·by_cases hy : ye = 0
  ·rw [decide_eq_true hx, decide_eq_true hy, Bool.true_and, Bool.true_and]
   refine calldw 0 30 [ResultVar.tmp 4] TRB_ok Tryz.func17 rfl Tryz.ntmps17 rfl fun cx hnt hn0 => ?_
   ·skip
    refine dw_seq ?_; refine dwk [] TRB_ok hnt fun K hK => ?_; refine hK _ _ ?_; clear hK K; refine dw_seq ?_; refine dwk [] TRB_ok hnt fun K hK => ?_; refine dcl (h1) ?_; refine hK _ _ ?_; clear hK K; refine dw_seq ?_; refine dwk [] TRB_ok hnt fun K hK => ?_; refine dcl (h2) ?_; refine hK _ _ ?_; clear hK K; refine dw_seq ?_; refine dwk [(20, .v (.bool true)), (23, .v (.bool true))] TRB_ok hnt fun K hK => ?_
    refine And.intro (beqT hx) ?_; refine And.intro (beqT hy) ?_; refine dcl (he) ?_; refine hK _ _ ?_; clear hK K; refine dw_ret ?_
    exact reta rfl
  ·rw [decide_eq_false hy, Bool.and_false, Bool.false_and]
   refine calldw 0 30 [ResultVar.tmp 4] TRB_ok Tryz.func17 rfl Tryz.ntmps17 rfl fun cx hnt hn0 => ?_
   ·skip
    refine dw_seq ?_; refine dwk [] TRB_ok hnt fun K hK => ?_; refine hK _ _ ?_; clear hK K; refine dw_seq ?_; refine dwk [] TRB_ok hnt fun K hK => ?_; refine dcl (h1) ?_; refine hK _ _ ?_; clear hK K; refine dw_seq ?_; refine dwk [] TRB_ok hnt fun K hK => ?_; refine dcl (h2) ?_; refine hK _ _ ?_; clear hK K; refine dw_seq ?_; refine dwk [(20, .v (.bool true)), (23, .v (.bool false))] TRB_ok hnt fun K hK => ?_
    refine And.intro (beqT hx) ?_; refine And.intro (beqF hy) ?_; refine hK _ _ ?_; clear hK K; refine dw_ret ?_
    exact reta rfl
 ·rw [decide_eq_false hx, Bool.false_and, Bool.false_and]
  refine calldw 0 30 [ResultVar.tmp 4] TRB_ok Tryz.func17 rfl Tryz.ntmps17 rfl fun cx hnt hn0 => ?_
  ·skip
   refine dw_seq ?_; refine dwk [] TRB_ok hnt fun K hK => ?_; refine hK _ _ ?_; clear hK K; refine dw_seq ?_; refine dwk [] TRB_ok hnt fun K hK => ?_; refine dcl (h1) ?_; refine hK _ _ ?_; clear hK K; refine dw_seq ?_; refine dwk [] TRB_ok hnt fun K hK => ?_; refine dcl (h2) ?_; refine hK _ _ ?_; clear hK K; refine dw_seq ?_; refine dwk [(20, .v (.bool false))] TRB_ok hnt fun K hK => ?_; refine And.intro (beqF hx) ?_
   refine hK _ _ ?_; clear hK K; refine dw_ret ?_
   exact reta rfl
end Go.Proofs.YtdmiekaeodcehaaGreat

namespace Go.Proofs.YtdmiekaeodcehaaGreat
open Go.RowKit
def TRQ_3 : TI := ⟨1, false, [Value.int IntKind.i64 0], [], none, 8, 2, none, false⟩
theorem TRQ_3_ok : TypOk Tryz.prog 3 TRQ_3 := ⟨by kernel_rfl, by kernel_rfl, by kernel_rfl, by kernel_rfl, by kernel_rfl⟩
def TRQ_27 : TI := ⟨4, true, [Value.slice none 0 0, Value.int IntKind.i64 0, Value.int IntKind.i64 0, Value.slice none 0 0], [(0, 1, false), (1, 2, true), (3, 1, false)], none, 64, 6, none, false⟩
theorem TRQ_27_ok : TypOk Tryz.prog 27 TRQ_27 := ⟨by kernel_rfl, by kernel_rfl, by kernel_rfl, by kernel_rfl, by kernel_rfl⟩
def TRQ_24 : TI := ⟨2, true, [Value.int IntKind.i64 0, Value.int IntKind.i64 0], [(0, 1, false), (1, 1, false)], none, 16, 6, none, true⟩
theorem TRQ_24_ok : TypOk Tryz.prog 24 TRQ_24 := ⟨by kernel_rfl, by kernel_rfl, by kernel_rfl, by kernel_rfl, by kernel_rfl⟩
def TRQ_82 : TI := ⟨1, false, [Value.slice none 0 0], [], some 3, 24, 5, none, false⟩
theorem TRQ_82_ok : TypOk Tryz.prog 82 TRQ_82 := ⟨by kernel_rfl, by kernel_rfl, by kernel_rfl, by kernel_rfl, by kernel_rfl⟩
def TRQ_25 : TI := ⟨1, false, [Value.slice none 0 0], [], some 27, 24, 5, none, false⟩
theorem TRQ_25_ok : TypOk Tryz.prog 25 TRQ_25 := ⟨by kernel_rfl, by kernel_rfl, by kernel_rfl, by kernel_rfl, by kernel_rfl⟩
def TRQ_135 : TI := ⟨1, false, [Value.slice none 0 0], [], some 82, 24, 5, none, false⟩
theorem TRQ_135_ok : TypOk Tryz.prog 135 TRQ_135 := ⟨by kernel_rfl, by kernel_rfl, by kernel_rfl, by kernel_rfl, by kernel_rfl⟩
def TRQ_116 : TI := ⟨1, false, [Value.slice none 0 0], [], some 166, 24, 5, none, false⟩
theorem TRQ_116_ok : TypOk Tryz.prog 116 TRQ_116 := ⟨by kernel_rfl, by kernel_rfl, by kernel_rfl, by kernel_rfl, by kernel_rfl⟩
def TRQ_166 : TI := ⟨4, true, [Value.int IntKind.i64 0, Value.slice none 0 0, Value.slice none 0 0, Value.slice none 0 0], [(0, 1, false), (1, 1, false), (2, 1, false), (3, 1, false)], none, 80, 6, none, false⟩
theorem TRQ_166_ok : TypOk Tryz.prog 166 TRQ_166 := ⟨by kernel_rfl, by kernel_rfl, by kernel_rfl, by kernel_rfl, by kernel_rfl⟩
def TRQ_22 : TI := ⟨1, false, [Value.slice none 0 0], [], some 91, 24, 5, none, false⟩
theorem TRQ_22_ok : TypOk Tryz.prog 22 TRQ_22 := ⟨by kernel_rfl, by kernel_rfl, by kernel_rfl, by kernel_rfl, by kernel_rfl⟩
def TRQ_91 : TI := ⟨2, true, [Value.slice none 0 0, Value.int IntKind.i64 0], [(0, 1, false), (1, 1, false)], none, 32, 6, none, false⟩
theorem TRQ_91_ok : TypOk Tryz.prog 91 TRQ_91 := ⟨by kernel_rfl, by kernel_rfl, by kernel_rfl, by kernel_rfl, by kernel_rfl⟩
def TRQ : List (Nat × TI) := [(3, TRQ_3), (27, TRQ_27), (24, TRQ_24), (82, TRQ_82), (25, TRQ_25), (135, TRQ_135), (116, TRQ_116), (166, TRQ_166), (22, TRQ_22), (91, TRQ_91)]
theorem TRQ_ok : TabOk Tryz.prog TRQ := (((((((((((TabOk.nil _).cons TRQ_91_ok).cons TRQ_22_ok).cons TRQ_166_ok).cons TRQ_116_ok).cons TRQ_135_ok).cons TRQ_25_ok).cons TRQ_82_ok).cons TRQ_24_ok).cons TRQ_27_ok).cons TRQ_3_ok)

set_option maxHeartbeats 2000000 in
theorem rvars_d (t : Tm) (n : Int) (hz : t.full ≤ 100000) (hf : t.Fit) : PureC Tryz.prog 112 [.ag (eTm t), .v (.int .i64 n)] (.tu [.sl 1 (eIs (Pn.vars t n).1) none, .v (.int .i64 (Pn.vars t n).2)]) := by
 have hz2 := full_args t
 have hz3 := fulls_len t.args
 rw [eTm_eq]
 by_cases hk : t.kind = 2
 ·by_cases hn : n < 0
  ·have hv : Pn.vars t n = ([], 1) := by unfold Pn.vars; rw [if_pos (.inr hn)]
   rw [hv]
   refine calldw 0 59 [ResultVar.tmp 4, ResultVar.tmp 5] TRQ_ok Tryz.func112 rfl Tryz.ntmps112 rfl fun cx hnt hn0 => ?_
   ·skip
    refine dw_seq ?_; refine dwk [] TRQ_ok hnt fun K hK => ?_; refine hK _ _ ?_; clear hK K; refine dw_seq ?_; refine dw_seq ?_; refine dwk [(13, .v (.bool false)), (16, .v (.bool true))] TRQ_ok hnt fun K hK => ?_; refine And.intro (bneF hk) ?_; refine And.intro auT ?_; refine hK _ _ ?_; clear hK K; refine dw_cond (t := true) rfl ?_; rw [if_pos rfl]; refine dw_seq ?_; refine dwk [] TRQ_ok hnt fun K hK => ?_
    refine hK _ _ ?_; clear hK K; refine dw_ret ?_
    exact reta rfl
  ·have hv : Pn.vars t n = match Pn.varsL n t.args [] with | some l => (l, 0) | none => ([], 6) := by unfold Pn.vars; exact if_neg (by simp [hk]; omega)
   refine calldw 0 59 [ResultVar.tmp 4, ResultVar.tmp 5] TRQ_ok Tryz.func112 rfl Tryz.ntmps112 rfl fun cx hnt hn0 => ?_
   ·skip
    refine dw_seq ?_; refine dwk [] TRQ_ok hnt fun K hK => ?_; refine hK _ _ ?_; clear hK K; refine dw_seq ?_; refine dw_seq ?_; refine dwk [(13, .v (.bool false)), (16, .v (.bool false))] TRQ_ok hnt fun K hK => ?_; refine And.intro (bneF hk) ?_; refine And.intro auF ?_; refine hK _ _ ?_; clear hK K; refine dw_cond (t := false) rfl ?_; rw [if_neg (by simp)]; refine dw_skip ?_; refine dw_seq ?_; refine dwk [] TRQ_ok hnt fun K hK => ?_
    refine hK _ _ ?_; clear hK K; refine dw_seq ?_; refine dw_seq ?_; refine dwk [] TRQ_ok hnt fun K hK => ?_; refine hK _ _ ?_; clear hK K; refine dw_block ?_
    refine dw_loop (ι := { p : Nat × List Int // Pn.varsL n (t.args.take p.1) [] = some p.2 ∧ p.1 ≤ t.args.length }) (fun p => [(.t 1, .v (.int .i64 n)), (.t 2, .p 0 0), (.t 6, .sl 1 (eIs p.1.2) (some 13)), (.t 7, .v (.int .i64 ↑p.1.1)), (.c 0 3, .sl 4 (eTms t.args) none), (.r 13, .rw 3 1 p.1.2.length)]) 14 (fun p => t.args.length - p.1.1) (⟨(0, []), rfl, Nat.zero_le _⟩) ((VS.trans (VS.rowT (x := 6) (by rw [hnt]; decide) 3 1 rfl) VS.toA)) fun p => ?_
    obtain ⟨⟨j, acc⟩, hp, hjl⟩ := p
    dsimp only at hp hjl ⊢
    by_cases hlt : j < t.args.length
    ·have hst := Pn.varsL_take n t.args j hlt hp
     have hal := Pn.varsL_len n _ _ _ hp
     rw [List.length_take, List.length_nil] at hal
     have hmem := List.getElem_mem hlt
     have hva := rvar_d t.args[j] (by have := full_mem hmem; omega) (fit_args hf _ hmem)
     unfold varV at hva
     rw [eTm_eq] at hva
     have hno : Pn.isVar n acc t.args[j] = false → Pn.vars t n = ([], 6) := fun h => by
      rw [hv, Pn.varsL_none n t.args (j + 1) (by rw [hst, h]; rfl)]
     unfold Pn.isVar at hno hst
     have hha := rhas_d acc t.args[j].headIx (by omega)
     refine dw_seq ?_; refine dw_seq ?_; refine dwk [(21, .v (.int .i64 (↑t.args.length))), (22, .v (.bool true))] TRQ_ok hnt fun K hK => ?_; refine And.intro (dintE (by rw [eTms_len])) ?_; refine And.intro auT ?_; refine hK _ _ ?_; clear hK K; refine dw_cond (t := true) rfl ?_; rw [if_pos rfl]
     cases h1 : longB t.args[j] with
     | false =>
      rw [hno (by simp [h1])]
      rw [h1] at hva
      refine dw_skip ?_; refine dw_seq ?_; refine dw_block ?_; refine dw_seq ?_; refine dwk [(29, .q [.sl 2 (eTys t.args[j].binds) none, .v (.int .i64 t.args[j].kind), .v (.int .i64 t.args[j].index), .sl 4 (eTms t.args[j].args) none])] TRQ_ok hnt fun K hK => ?_; refine And.intro (elo (eTms_len t.args)) ?_; refine And.intro (elv (eTms_getD t.args j) (eTm_eq _)) ?_; refine dcl (hva) ?_; refine hK _ _ ?_; clear hK K
      refine dw_seq ?_; refine dw_seq ?_; refine dwk [] TRQ_ok hnt fun K hK => ?_; refine hK _ _ ?_; clear hK K; refine dw_cond (t := true) rfl ?_; rw [if_pos rfl]; refine dw_seq ?_; refine dwk [] TRQ_ok hnt fun K hK => ?_; refine hK _ _ ?_; clear hK K; refine dw_ret ?_
      exact reta rfl
     | true =>
      rw [h1, if_pos rfl, if_pos rfl] at hva
      refine dw_skip ?_; refine dw_seq ?_; refine dw_block ?_; refine dw_seq ?_; refine dwk [(29, .q [.sl 2 (eTys t.args[j].binds) none, .v (.int .i64 t.args[j].kind), .v (.int .i64 t.args[j].index), .sl 4 (eTms t.args[j].args) none])] TRQ_ok hnt fun K hK => ?_; refine And.intro (elo (eTms_len t.args)) ?_; refine And.intro (elv (eTms_getD t.args j) (eTm_eq _)) ?_; refine dcl (hva) ?_; refine hK _ _ ?_; clear hK K
      by_cases h2 : t.args[j].kind = 0
      ·by_cases h3 : t.args[j].headIx < n
       ·cases h4 : acc.contains t.args[j].headIx with
        | true =>
         rw [hno (by rw [h1, h4]; simp)]
         rw [h4] at hha
         refine dw_seq ?_; refine dw_seq ?_; refine dwk [(39, .v (.bool false)), (45, .v (.bool false)), (48, .sl 1 (eIs acc) none)] TRQ_ok hnt fun K hK => ?_; refine And.intro (bneF h2) ?_; refine And.intro auF ?_; refine And.intro (VLe.untag _ _ _) ?_; refine dcl (hha) ?_; refine hK _ _ ?_; clear hK K; refine dw_cond (t := true) rfl ?_; rw [if_pos rfl]; refine dw_seq ?_; refine dwk [] TRQ_ok hnt fun K hK => ?_
         refine hK _ _ ?_; clear hK K; refine dw_ret ?_
         exact reta rfl
        | false =>
         rw [h4] at hha
         rw [if_pos (by simp only [h1, h2, h3, h4]; rfl)] at hst; refine dw_seq ?_; refine dw_seq ?_; refine dwk [(39, .v (.bool false)), (45, .v (.bool false)), (48, .sl 1 (eIs acc) none)] TRQ_ok hnt fun K hK => ?_; refine And.intro (bneF h2) ?_; refine And.intro auF ?_; refine And.intro (VLe.untag _ _ _) ?_; refine dcl (hha) ?_; refine hK _ _ ?_; clear hK K; refine dw_cond (t := false) rfl ?_; rw [if_neg (by simp)]
         refine dw_skip ?_; refine dwk [(57, .sl 1 (eIs (acc ++ [t.args[j].headIx])) (some 13))] TRQ_ok hnt fun K hK => ?_; refine And.intro (⟨by rw [eIs_len], by rw [eIs_len]; simp; omega⟩) ?_; refine And.intro (VLe.of_eq (by rw [eIs_append]; rfl)) ?_; refine hK _ _ ?_; clear hK K; refine dwk [(24, .v (.int .i64 (↑(j + 1))))] TRQ_ok hnt fun K hK => ?_; refine And.intro auI ?_; refine hK _ _ ?_; clear hK K
         have hl5 : (eIs acc).length = acc.length := eIs_len acc
         refine ⟨⟨(j + 1, acc ++ [t.args[j].headIx]), hst, hlt⟩, by first | omega | (dsimp only; omega), (by try simp only [List.length_append, List.length_take, List.length_cons, List.length_nil, Nat.zero_add, hl5]; exact VS.toA)⟩
       ·rw [hno (by rw [h1, h2, decide_eq_false h3]; simp)]
        refine dw_seq ?_; refine dw_seq ?_; refine dwk [(39, .v (.bool false)), (45, .v (.bool true))] TRQ_ok hnt fun K hK => ?_; refine And.intro (bneF h2) ?_; refine And.intro auT ?_; refine hK _ _ ?_; clear hK K; refine dw_cond (t := true) rfl ?_; rw [if_pos rfl]; refine dw_seq ?_; refine dwk [] TRQ_ok hnt fun K hK => ?_; refine hK _ _ ?_; clear hK K; refine dw_ret ?_
        exact reta rfl
      ·rw [hno (by rw [h1, decide_eq_false h2]; simp)]
       refine dw_seq ?_; refine dw_seq ?_; refine dwk [(39, .v (.bool true))] TRQ_ok hnt fun K hK => ?_; refine And.intro (bneT h2) ?_; refine hK _ _ ?_; clear hK K; refine dw_cond (t := true) rfl ?_; rw [if_pos rfl]; refine dw_seq ?_; refine dwk [] TRQ_ok hnt fun K hK => ?_; refine hK _ _ ?_; clear hK K; refine dw_ret ?_
       exact reta rfl
    ·rw [List.take_of_length_le (by omega)] at hp
     rw [hv, hp]
     refine dw_seq ?_; refine dw_seq ?_; refine dwk [(21, .v (.int .i64 (↑t.args.length))), (22, .v (.bool false))] TRQ_ok hnt fun K hK => ?_; refine And.intro (dintE (by rw [eTms_len])) ?_; refine And.intro auF ?_; refine hK _ _ ?_; clear hK K; refine dw_cond (t := false) rfl ?_; rw [if_neg (by simp)]; refine dw_exit ?_; refine dw_seq ?_; refine dwk [] TRQ_ok hnt fun K hK => ?_; refine hK _ _ ?_; clear hK K
     refine dw_ret ?_
     exact reta rfl
 ·have hv : Pn.vars t n = ([], 1) := by unfold Pn.vars; rw [if_pos (.inl hk)]
  rw [hv]
  refine calldw 0 59 [ResultVar.tmp 4, ResultVar.tmp 5] TRQ_ok Tryz.func112 rfl Tryz.ntmps112 rfl fun cx hnt hn0 => ?_
  ·skip
   refine dw_seq ?_; refine dwk [] TRQ_ok hnt fun K hK => ?_; refine hK _ _ ?_; clear hK K; refine dw_seq ?_; refine dw_seq ?_; refine dwk [(13, .v (.bool true))] TRQ_ok hnt fun K hK => ?_; refine And.intro (bneT hk) ?_; refine hK _ _ ?_; clear hK K; refine dw_cond (t := true) rfl ?_; rw [if_pos rfl]; refine dw_seq ?_; refine dwk [] TRQ_ok hnt fun K hK => ?_; refine hK _ _ ?_; clear hK K; refine dw_ret ?_
   exact reta rfl
namespace Pn
theorem useL_take (l : List Spot) (j : Nat) (hj : j < l.length) (h : (useL (l.take j)).2 = true) : useL (l.take (j + 1)) = ((useL (l.take j)).1 ++ (useL [l[j]]).1, (useL [l[j]]).2) := by
  rw [List.take_add_one, List.getElem?_eq_getElem hj, Option.toList_some, useL_app, if_pos h]
theorem useL_stop (l : List Spot) (j : Nat) (h : (useL (l.take j)).2 = false) : (useL l).2 = false := by
  have h1 : useL l = useL (l.take j ++ l.drop j) := by rw [List.take_append_drop]
  rw [h1, useL_app, if_neg (by simp [h])]; exact h
theorem useL_len (l : List Spot) : (useL l).1.length ≤ l.length := by
  induction l with
  | nil => simp [useL]
  | cons s l ih =>
    by_cases hk : s.1.kind = 2
    · cases hv : varsL (s.2.1.length : Nat) s.1.args [] with
      | none => rw [useL_bad _ hk hv]; simp
      | some v => rw [useL_use _ hk hv]; simpa using ih
    · rw [useL_other _ hk]; simp; omega
theorem subs_rng (t : Tm) : ∀ (ar : List Ty) (p : List Int), ∀ s ∈ subs t ar p, (∀ x ∈ s.2.2, x ∈ p ∨ (0 ≤ x ∧ x ≤ (t.full : Int))) ∧ s.2.2.length ≤ p.length + t.full ∧ s.2.1.length ≤ ar.length + t.full := by
  induction t using Tm.ind with
  | h bs k i a ih =>
    intro ar p s hs
    rw [subs_eq] at hs
    rw [Tm.full_eq]
    have hbl := Ty.le_sizes bs
    rcases List.mem_cons.1 hs with rfl | hs
    · exact ⟨fun x hx => .inl hx, by dsimp only; omega, by dsimp only; rw [List.length_append]; omega⟩
    · obtain ⟨j, hj, hs⟩ := subss_mem _ _ _ _ hs
      rw [Nat.zero_add] at hs
      have hfm := full_mem (List.getElem_mem hj)
      have hal := fulls_len a
      obtain ⟨h1, h2, h3⟩ := ih a[j] (List.getElem_mem hj) _ _ s hs
      refine ⟨fun x hx => ?_, by rw [List.length_append] at h2; simp at h2; omega, by rw [List.length_append] at h3; omega⟩
      rcases h1 x hx with h | h
      · rcases List.mem_append.1 h with h | h
        · exact .inl h
        · rw [List.mem_singleton] at h; right; omega
      · right; omega
end Pn
theorem subs_part (t : Tm) : ∀ (ar : List Ty) (p : List Int), t.Fit → ∀ s ∈ Pn.subs t ar p, s.1.full ≤ t.full ∧ s.1.Fit := by
  induction t using Tm.ind with
  | h bs k i a ih =>
    intro ar p hf s hs
    rw [Pn.subs_eq] at hs
    rcases List.mem_cons.1 hs with rfl | hs
    · exact ⟨Nat.le_refl _, hf⟩
    · obtain ⟨j, hj, hs⟩ := Pn.subss_mem _ _ _ _ hs
      have hfm := full_mem (List.getElem_mem hj)
      have := ih a[j] (List.getElem_mem hj) _ _ (fit_args hf _ (List.getElem_mem hj)) s hs
      rw [Tm.full_eq]
      exact ⟨by omega, this.2⟩
set_option maxHeartbeats 2000000 in
theorem ruses_d (t : Tm) (hz : t.full ≤ 50000) (hf : t.Fit) : PureC Tryz.prog 70 [.ag (eTm t)] (.tu [.sl 4 (if (Pn.uses t [] []).2 then eUses (Pn.uses t [] []).1 else []) none, .v (.bool (Pn.uses t [] []).2)]) := by
 have hall : PureC Tryz.prog 92 [.ag (eTm t), .v (.slice none 0 0)] (.sl 1 (ePaths (Pn.pth t [])) none) := CallC.vle (rall_d t [] (by simp; omega)) (.cons (VLe.refl _) (.cons (VLe.nil _) .nil)) (VLe.refl _)
 rw [← Pn.useL_subs, ← Pn.subs_pth t [] []] at *
 have hsl := Pn.subs_len t [] []
 have hsf := Tm.size_le_full t
 have hrg := Pn.subs_rng t [] []
 have hpt := subs_part t [] [] hf
 have hat := Pn.subs_at t [] [] t t.binds (by simp) rfl
 have hrat := fun p => rat_d p t
 obtain ⟨L, hL⟩ : ∃ L, Pn.subs t [] [] = L := ⟨_, rfl⟩
 rw [hL] at hsl hrg hpt hat hall ⊢
 obtain ⟨Ps, hPs⟩ : ∃ Ps, L.map (·.2.2) = Ps := ⟨_, rfl⟩
 rw [hPs] at hall
 have hPl : Ps.length = L.length := by rw [← hPs, List.length_map]
 rw [eTm_eq] at hall
 rw [eTm_eq]
 refine call_of_dw 0 57 [ResultVar.tmp 2, ResultVar.tmp 3] TRQ_ok (by kernel_rfl) Tryz.func70 rfl Tryz.ntmps70 rfl (by simp) ?dwords ?dbody
 case dwords => simp [wordsOk, D.ok, D.oks, D.okss, rnames, inN, ckey, eTms_ok, eTys_ok, eIs_ok, eUses_ok, apply_ite]
 case dbody =>
  intro cx hnt hn0
  refine dw_seq ?_; refine dwk [] TRQ_ok hnt fun K hK => ?_; refine hK _ _ ?_; clear hK K; refine dw_seq ?_; refine dwk [] TRQ_ok hnt fun K hK => ?_; refine hK _ _ ?_; clear hK K; refine dw_seq ?_; refine dwk [] TRQ_ok hnt fun K hK => ?_; refine dcl (hall) ?_; refine hK _ _ ?_; clear hK K; refine dw_seq ?_; refine dw_seq ?_; refine dwk [] TRQ_ok hnt fun K hK => ?_; refine hK _ _ ?_; clear hK K; refine dw_block ?_
  refine dw_loop (ι := { j : Nat // (Pn.useL (L.take j)).2 = true }) (fun j => [(.t 1, .p 0 0), (.t 4, .sl 4 (eUses (Pn.useL (L.take j.1)).1) (some 8)), (.r 8, .rw 166 4 (Pn.useL (L.take j.1)).1.length), (.t 5, .sl 1 (ePaths Ps) none), (.t 6, .v (.int .i64 ↑j.1)), (.c 0 0, .sl 2 (eTys t.binds) none), (.c 0 1, .v (.int .i64 t.kind)), (.c 0 2, .v (.int .i64 t.index)), (.c 0 3, .sl 4 (eTms t.args) none)]) 9 (fun j => Ps.length - j.1) (⟨0, rfl⟩) ((VS.trans (VS.rowT (x := 4) (by rw [hnt]; decide) 166 4 rfl) (VS.toK (by omega) (by repeat first | exact trivial | refine And.intro (And.intro (by first | rfl | simp [D.ok, D.oks, D.okss, D.okm, upto, keyOk, Pn.useL, eUses]) (by first | exact Or.inl rfl | exact Or.inr ⟨_, rfl, (by repeat first | exact VLe.refl _ | exact VLe.nil _ | exact VLe.untag _ _ _ | refine VLe.ag ?_ | refine VLe.tu ?_ | refine VLeL.cons ?_ ?_ | exact VLeL.nil), trivial⟩ | simp [get, Key.eq, Pn.useL, eUses])) ?_)))) fun j => ?_
  obtain ⟨j, hj⟩ := j
  dsimp only
  by_cases hlt : j < Ps.length
  ·have hltL : j < L.length := by omega
   have hmem := List.getElem_mem hltL
   have hst := Pn.useL_take L j hltL hj
   have hul := Pn.useL_len (L.take j)
   rw [List.length_take] at hul
   have hPj : Ps[j] = L[j].2.2 := by subst hPs; simp
   obtain ⟨⟨x, ar, p⟩, hs⟩ : ∃ s, L[j] = s := ⟨_, rfl⟩
   rw [hs] at hst hPj hmem
   dsimp only at hPj
   have h1 := hrg _ hmem
   have h2 := hpt _ hmem
   have h3 := hat _ hmem
   dsimp only at h1 h2 h3
   have hA := hrat p (by omega) (by simp at h1; omega) (fun y hy => by rcases h1.1 y hy with h | h; cases h; omega)
   rw [h3] at hA
   unfold atV at hA
   dsimp only at hA
   rw [eTm_eq, eTm_eq] at hA
   refine dw_seq ?_; refine dw_seq ?_; refine dwk [(16, .v (.int .i64 (↑Ps.length))), (17, .v (.bool true))] TRQ_ok hnt fun K hK => ?_; refine And.intro (dintE (by rw [ePaths_len])) ?_; refine And.intro auT ?_; refine hK _ _ ?_; clear hK K; refine dw_cond (t := true) rfl ?_; rw [if_pos rfl]; refine dw_skip ?_; refine dw_seq ?_; refine dw_block ?_; refine dw_seq ?_; refine dwkD [(24, .q [.sl 1 (eIs Ps[j]) none]), (25, .sl 1 (eIs p) none)] TRQ_ok hnt fun K hK => ?_
   refine And.intro (elo (ePaths_len Ps)) ?_; refine And.intro (elv (ePaths_getD Ps j) rfl) ?_; refine And.intro (VLe.of_eq (by rw [hPj])) ?_; refine dcl (hA) ?_; refine hK _ _ (by kernel_rfl) ?_; clear hK K
   by_cases hk : x.kind = 2
   ·have hV := rvars_d x (ar.length : Nat) (by omega) h2.2
    have hVv : Pn.vars x (ar.length : Nat) = match Pn.varsL (ar.length : Nat) x.args [] with | some l => (l, 0) | none => ([], 6) := by unfold Pn.vars; exact if_neg (by simp [hk])
    rw [hVv, eTm_eq] at hV
    cases hv : Pn.varsL (ar.length : Nat) x.args [] with
    | none =>
     rw [hv] at hV
     have hbad := Pn.useL_bad (s := (x, ar, p)) [] hk hv
     rw [hbad] at hst
     have hfin := Pn.useL_stop L (j + 1) (by rw [hst])
     rw [hfin]
     refine dw_seq ?_; refine dw_seq ?_; refine dwk [(33, .v (.bool false))] TRQ_ok hnt fun K hK => ?_; refine And.intro (bneF hk) ?_; refine hK _ _ ?_; clear hK K; refine dw_cond (t := false) rfl ?_; rw [if_neg (by simp)]; refine dw_skip ?_; refine dw_seq ?_; refine dwk [(37, .v (.int .i64 (↑ar.length)))] TRQ_ok hnt fun K hK => ?_; refine And.intro (dintE (by rw [eTys_len])) ?_; refine dcl (hV) ?_; refine hK _ _ ?_; clear hK K
     refine dw_seq ?_; refine dw_seq ?_; refine dwk [(42, .v (.bool true))] TRQ_ok hnt fun K hK => ?_; refine And.intro (VLe.refl _) ?_; refine hK _ _ ?_; clear hK K; refine dw_cond (t := true) rfl ?_; rw [if_pos rfl]; refine dw_seq ?_; refine dwk [] TRQ_ok hnt fun K hK => ?_; refine hK _ _ ?_; clear hK K; refine dw_ret ?_
     exact reta rfl
    | some v =>
     rw [hv] at hV
     have hus := Pn.useL_use (s := (x, ar, p)) [] hk hv
     rw [hus] at hst
     simp only [Pn.useL] at hst
     refine dw_seq ?_; refine dw_seq ?_; refine dwk [(33, .v (.bool false))] TRQ_ok hnt fun K hK => ?_; refine And.intro (bneF hk) ?_; refine hK _ _ ?_; clear hK K; refine dw_cond (t := false) rfl ?_; rw [if_neg (by simp)]; refine dw_skip ?_; refine dw_seq ?_; refine dwk [(37, .v (.int .i64 (↑ar.length)))] TRQ_ok hnt fun K hK => ?_; refine And.intro (dintE (by rw [eTys_len])) ?_; refine dcl (hV) ?_; refine hK _ _ ?_; clear hK K
     refine dw_seq ?_; refine dw_seq ?_; refine dwk [(42, .v (.bool false))] TRQ_ok hnt fun K hK => ?_; refine And.intro (VLe.refl _) ?_; refine hK _ _ ?_; clear hK K; refine dw_cond (t := false) rfl ?_; rw [if_neg (by simp)]; refine dw_skip ?_; refine dwkD [(51, .q [.sl 1 (eIs Ps[j]) none]), (52, .sl 1 (eIs p) none), (55, .sl 4 (eUses (Pn.useL (L.take (j + 1))).1) (some 8))] TRQ_ok hnt fun K hK => ?_; refine And.intro (elo (ePaths_len Ps)) ?_
     refine And.intro (elv (ePaths_getD Ps j) rfl) ?_; refine And.intro (VLe.of_eq (by rw [hPj])) ?_; refine And.intro (⟨by rw [eUses_len], by rw [eUses_len]; simp; omega⟩) ?_; refine And.intro (VLe.of_eq (by rw [hst, eUses_append]; rfl)) ?_; refine hK _ _ (by kernel_rfl) ?_; clear hK K; refine dwk [(19, .v (.int .i64 (↑(j + 1))))] TRQ_ok hnt fun K hK => ?_; refine And.intro auI ?_; refine hK _ _ ?_; clear hK K
     have hlq : (eUses (Pn.useL (L.take j)).1).length + 1 = (Pn.useL (L.take (j + 1))).1.length := by rw [eUses_len, hst]; simp
     refine ⟨⟨j + 1, by rw [hst]⟩, by first | omega | (dsimp only; omega), (by try simp only [List.length_append, List.length_take, List.length_cons, List.length_nil, Nat.zero_add, hlq]; exact VS.toA)⟩
   ·have hot := Pn.useL_other (s := (x, ar, p)) [] hk
    rw [hot] at hst
    simp only [Pn.useL, List.append_nil] at hst
    have e1 : (Pn.useL (L.take (j + 1))).1 = (Pn.useL (L.take j)).1 := by rw [hst]
    rw [← e1]
    refine dw_seq ?_; refine dw_seq ?_; refine dwk [(33, .v (.bool true))] TRQ_ok hnt fun K hK => ?_; refine And.intro (bneT hk) ?_; refine hK _ _ ?_; clear hK K; refine dw_cond (t := true) rfl ?_; rw [if_pos rfl]; refine dw_exit ?_; refine dwk [(19, .v (.int .i64 (↑(j + 1))))] TRQ_ok hnt fun K hK => ?_; refine And.intro auI ?_; refine hK _ _ ?_; clear hK K
    refine ⟨⟨j + 1, by rw [hst]⟩, by first | omega | (dsimp only; omega), VS.toA⟩
  ·rw [List.take_of_length_le (by omega)] at hj ⊢
   rw [hj, if_pos rfl]
   refine dw_seq ?_; refine dw_seq ?_; refine dwk [(16, .v (.int .i64 (↑Ps.length))), (17, .v (.bool false))] TRQ_ok hnt fun K hK => ?_; refine And.intro (dintE (by rw [ePaths_len])) ?_; refine And.intro auF ?_; refine hK _ _ ?_; clear hK K; refine dw_cond (t := false) rfl ?_; rw [if_neg (by simp)]; refine dw_exit ?_; refine dw_seq ?_; refine dwk [] TRQ_ok hnt fun K hK => ?_; refine hK _ _ ?_; clear hK K
   refine dw_ret ?_
   exact reta rfl
end Go.Proofs.YtdmiekaeodcehaaGreat

namespace Go.Proofs.YtdmiekaeodcehaaGreat
open Go.RowKit
namespace Ru
theorem met_pre (o : List Int) (m : Int) : ∃ s, met o m = o ++ s := by
  unfold met; split
  · exact ⟨[], by simp⟩
  · exact ⟨[m], rfl⟩
theorem trs_pre_of {l : List Tm} (h : ∀ t ∈ l, ∀ o, ∃ s, (tr t o).1 = o ++ s) : ∀ o, ∃ s, (trs l o).1 = o ++ s := by
  induction l with
  | nil => intro o; exact ⟨[], by simp [trs]⟩
  | cons t l ih =>
    intro o
    obtain ⟨s1, h1⟩ := h t (by simp) o
    obtain ⟨s2, h2⟩ := ih (fun u hu => h u (by simp [hu])) (tr t o).1
    exact ⟨s1 ++ s2, by rw [trs, h2, h1, List.append_assoc]⟩
theorem tr_pre (t : Tm) : ∀ o, ∃ s, (tr t o).1 = o ++ s := by
  induction t using Tm.ind with
  | h b k i a ih =>
    intro o
    obtain ⟨s1, h1⟩ : ∃ s, (if k = 2 then met o i else o) = o ++ s := by
      split
      · exact met_pre o i
      · exact ⟨[], by simp⟩
    obtain ⟨s2, h2⟩ := trs_pre_of ih (if k = 2 then met o i else o)
    rw [tr_eq]
    exact ⟨s1 ++ s2, by rw [h2, h1, List.append_assoc]⟩
theorem ix_app (m : Int) : ∀ (o s : List Int), m ∈ o → ix m (o ++ s) = ix m o
  | [], _, h => by cases h
  | x :: l, s, h => by
    rw [List.cons_append, ix, ix]
    by_cases hx : x = m
    · rw [if_pos hx, if_pos hx]
    · rw [if_neg hx, if_neg hx, ix_app m l s (by rcases List.mem_cons.1 h with h | h; exact absurd h.symm hx; exact h)]
theorem met_mem (o : List Int) (m : Int) : m ∈ met o m := by
  unfold met; split
  · assumption
  · simp
theorem ix_new (m : Int) : ∀ o : List Int, m ∉ o → ix m (o ++ [m]) = o.length
  | [], _ => by simp [ix]
  | x :: l, h => by
    have hx : x ≠ m := fun e => h (by simp [e])
    rw [List.cons_append, ix, if_neg hx, ix_new m l (fun h2 => h (by simp [h2]))]; rfl
theorem ix_met (o : List Int) (m : Int) : ix m (met o m) = ix m o := by
  unfold met; split
  · rfl
  · rename_i h
    rw [ix_no h, ix_new m o h]
theorem met_nodup {o : List Int} (h : o.Nodup) (m : Int) : (met o m).Nodup := by
  unfold met; split
  · exact h
  · rename_i hm
    rw [List.nodup_append]
    refine ⟨h, by simp, ?_⟩
    intro a ha b hb e
    rw [List.mem_singleton] at hb; subst hb; subst e; exact hm ha
theorem trs_nodup_of {l : List Tm} (h : ∀ t ∈ l, ∀ o, o.Nodup → (tr t o).1.Nodup) : ∀ o, o.Nodup → (trs l o).1.Nodup := by
  induction l with
  | nil => intro o ho; simpa [trs] using ho
  | cons t l ih =>
    intro o ho
    rw [trs]
    exact ih (fun u hu => h u (by simp [hu])) _ (h t (by simp) o ho)
theorem tr_nodup (t : Tm) : ∀ o, o.Nodup → (tr t o).1.Nodup := by
  induction t using Tm.ind with
  | h b k i a ih =>
    intro o ho
    rw [tr_eq]
    refine trs_nodup_of ih _ ?_
    split
    · exact met_nodup ho i
    · exact ho
/-! the order -/
def ordF : List Pn.Spot → List Int → List Int
  | [], o => o
  | s :: l, o => ordF l (if s.1.kind = 2 then met o s.1.index else o)
theorem ordF_app : ∀ (a b : List Pn.Spot) (o : List Int), ordF (a ++ b) o = ordF b (ordF a o)
  | [], _, _ => rfl
  | s :: a, b, o => by rw [List.cons_append, ordF, ordF, ordF_app a b]
theorem ordF_take (L : List Pn.Spot) (o : List Int) (j : Nat) (h : j < L.length) : ordF (L.take (j + 1)) o = if L[j].1.kind = 2 then met (ordF (L.take j) o) L[j].1.index else ordF (L.take j) o := by
  rw [List.take_succ_eq_append_getElem h, ordF_app]; rfl
theorem ordF_subs (t : Tm) : ∀ (ar : List Ty) (p : List Int) (o : List Int), ordF (Pn.subs t ar p) o = (tr t o).1 := by
  induction t using Tm.ind with
  | h b k i a ih =>
    intro ar p o
    have key : ∀ (l : List Tm) (_ : ∀ t ∈ l, t ∈ a) (j : Nat) (o : List Int), ordF (Pn.subss l (ar ++ b) p j) o = (trs l o).1 := by
      intro l
      induction l with
      | nil => intro _ j o; simp [Pn.subss, ordF, trs]
      | cons t l ihl =>
        intro hl j o
        rw [Pn.subss, ordF_app, ih t (hl t (by simp)), ihl (fun u hu => hl u (by simp [hu])), trs]
    rw [Pn.subs_eq, ordF, key a (fun _ h => h), tr_eq]
    rfl
/-! renamed -/
mutual
def rn (l : List Int) : Tm → Tm
  | .mk b k i a => .mk b k (if k = 2 ∧ i ∈ l then (ix i l : Int) else i) (rns l a)
def rns (l : List Int) : List Tm → List Tm
  | [] => []
  | t :: r => rn l t :: rns l r
end
theorem rn_eq (l : List Int) (b : List Ty) (k i : Int) (a : List Tm) : rn l (.mk b k i a) = .mk b k (if k = 2 ∧ i ∈ l then (ix i l : Int) else i) (rns l a) := by rw [rn]
theorem rns_map (l : List Int) (a : List Tm) : rns l a = a.map (rn l) := by
  induction a with
  | nil => rfl
  | cons t a ih => rw [rns, ih]; rfl
theorem rns_len (l : List Int) (a : List Tm) : (rns l a).length = a.length := by rw [rns_map, List.length_map]
theorem trs_rn_of {l : List Tm} (h : ∀ t ∈ l, ∀ o f, (∃ s, f = (tr t o).1 ++ s) → (tr t o).2 = rn f t) : ∀ o f, (∃ s, f = (trs l o).1 ++ s) → (trs l o).2 = rns f l := by
  induction l with
  | nil => intro o f _; simp [trs, rns]
  | cons t l ih =>
    intro o f hf
    rw [trs] at hf ⊢
    rw [rns]
    dsimp only at hf ⊢
    obtain ⟨s2, h2⟩ := trs_pre_of (fun t _ => tr_pre t) (l := l) (tr t o).1
    rw [ih (fun u hu => h u (by simp [hu])) _ f hf]
    obtain ⟨s, hs⟩ := hf
    rw [h t (by simp) o f ⟨s2 ++ s, by rw [hs, h2, List.append_assoc]⟩]
theorem tr_rn (t : Tm) : ∀ o f, (∃ s, f = (tr t o).1 ++ s) → (tr t o).2 = rn f t := by
  induction t using Tm.ind with
  | h b k i a ih =>
    intro o f hf
    rw [tr_eq] at hf ⊢
    rw [rn_eq]
    dsimp only at hf ⊢
    rw [trs_rn_of ih _ f hf]
    obtain ⟨s, hs⟩ := hf
    obtain ⟨s2, h2⟩ := trs_pre_of (fun t _ => tr_pre t) (l := a) (if k = 2 then met o i else o)
    by_cases hk : k = 2
    · rw [if_pos hk] at h2 hs
      have hfe : f = met o i ++ (s2 ++ s) := by rw [hs, h2, List.append_assoc]
      have hm : i ∈ f := by rw [hfe]; exact List.mem_append_left _ (met_mem o i)
      rw [if_pos hk, if_pos ⟨hk, hm⟩]
      have : ix i f = ix i o := by rw [hfe, ix_app i _ _ (met_mem o i), ix_met]
      rw [this]
    · rw [if_neg hk, if_neg fun h => hk h.1]
theorem own_eq (p : Li.Pr) (o : List Int) (ho : (tr p.r (tr p.l []).1).1 = o) : own p = if o.any (bad p.m) then (.z, 10) else (⟨rn o p.l, rn o p.r, o.map (mt p.m)⟩, 0) := by
  unfold own
  rw [ho]
  obtain ⟨s, hs⟩ := tr_pre p.r (tr p.l []).1
  rw [tr_rn p.l [] o ⟨s, by rw [← ho, hs]⟩, tr_rn p.r (tr p.l []).1 o ⟨[], by rw [ho]; simp⟩]
theorem ix_at {l : List Int} : ∀ {j : Nat} (h : j < l.length), (∀ i (hi : i < l.length), i < j → l[i] ≠ l[j]) → ix l[j] l = j := by
  induction l with
  | nil => intro j h; simp at h
  | cons x l ih =>
    intro j h hn
    cases j with
    | zero => simp [ix]
    | succ j =>
      have h0 := hn 0 (by simp) (by omega)
      simp only [List.getElem_cons_zero, List.getElem_cons_succ] at h0 ⊢
      rw [ix, if_neg h0, ih (by simpa using h) fun i hi hij => by
        have := hn (i + 1) (by simpa using hi) (by omega)
        simpa using this]
end Ru
end Go.Proofs.YtdmiekaeodcehaaGreat

namespace Go.Proofs.YtdmiekaeodcehaaGreat
open Go.RowKit
def TRD_27 : TI := ⟨4, true, [Value.slice none 0 0, Value.int IntKind.i64 0, Value.int IntKind.i64 0, Value.slice none 0 0], [(0, 1, false), (1, 2, true), (3, 1, false)], none, 64, 6, none, false⟩
theorem TRD_27_ok : TypOk Tryz.prog 27 TRD_27 := ⟨by kernel_rfl, by kernel_rfl, by kernel_rfl, by kernel_rfl, by kernel_rfl⟩
def TRD_29 : TI := ⟨9, true, [Value.slice none 0 0, Value.int IntKind.i64 0, Value.int IntKind.i64 0, Value.slice none 0 0, Value.slice none 0 0, Value.int IntKind.i64 0, Value.int IntKind.i64 0, Value.slice none 0 0, Value.slice none 0 0], [(0, 4, true), (4, 4, true), (8, 1, false)], none, 152, 6, none, false⟩
theorem TRD_29_ok : TypOk Tryz.prog 29 TRD_29 := ⟨by kernel_rfl, by kernel_rfl, by kernel_rfl, by kernel_rfl, by kernel_rfl⟩
def TRD_3 : TI := ⟨1, false, [Value.int IntKind.i64 0], [], none, 8, 2, none, false⟩
theorem TRD_3_ok : TypOk Tryz.prog 3 TRD_3 := ⟨by kernel_rfl, by kernel_rfl, by kernel_rfl, by kernel_rfl, by kernel_rfl⟩
def TRD_82 : TI := ⟨1, false, [Value.slice none 0 0], [], some 3, 24, 5, none, false⟩
theorem TRD_82_ok : TypOk Tryz.prog 82 TRD_82 := ⟨by kernel_rfl, by kernel_rfl, by kernel_rfl, by kernel_rfl, by kernel_rfl⟩
def TRD_22 : TI := ⟨1, false, [Value.slice none 0 0], [], some 91, 24, 5, none, false⟩
theorem TRD_22_ok : TypOk Tryz.prog 22 TRD_22 := ⟨by kernel_rfl, by kernel_rfl, by kernel_rfl, by kernel_rfl, by kernel_rfl⟩
def TRD_25 : TI := ⟨1, false, [Value.slice none 0 0], [], some 27, 24, 5, none, false⟩
theorem TRD_25_ok : TypOk Tryz.prog 25 TRD_25 := ⟨by kernel_rfl, by kernel_rfl, by kernel_rfl, by kernel_rfl, by kernel_rfl⟩
def TRD_24 : TI := ⟨2, true, [Value.int IntKind.i64 0, Value.int IntKind.i64 0], [(0, 1, false), (1, 1, false)], none, 16, 6, none, true⟩
theorem TRD_24_ok : TypOk Tryz.prog 24 TRD_24 := ⟨by kernel_rfl, by kernel_rfl, by kernel_rfl, by kernel_rfl, by kernel_rfl⟩
def TRD_135 : TI := ⟨1, false, [Value.slice none 0 0], [], some 82, 24, 5, none, false⟩
theorem TRD_135_ok : TypOk Tryz.prog 135 TRD_135 := ⟨by kernel_rfl, by kernel_rfl, by kernel_rfl, by kernel_rfl, by kernel_rfl⟩
def TRD_91 : TI := ⟨2, true, [Value.slice none 0 0, Value.int IntKind.i64 0], [(0, 1, false), (1, 1, false)], none, 32, 6, none, false⟩
theorem TRD_91_ok : TypOk Tryz.prog 91 TRD_91 := ⟨by kernel_rfl, by kernel_rfl, by kernel_rfl, by kernel_rfl, by kernel_rfl⟩
def TRD : List (Nat × TI) := [(27, TRD_27), (29, TRD_29), (3, TRD_3), (82, TRD_82), (22, TRD_22), (25, TRD_25), (24, TRD_24), (135, TRD_135), (91, TRD_91)]
theorem TRD_ok : TabOk Tryz.prog TRD := ((((((((((TabOk.nil _).cons TRD_91_ok).cons TRD_135_ok).cons TRD_24_ok).cons TRD_25_ok).cons TRD_22_ok).cons TRD_82_ok).cons TRD_3_ok).cons TRD_29_ok).cons TRD_27_ok)
namespace Ru
theorem rns_snoc (l : List Int) (a : List Tm) (j : Nat) (h : j < a.length) : eTms ((rns l a).take j) ++ [[.sl 2 (eTys (rn l a[j]).binds) none, .v (.int .i64 (rn l a[j]).kind), .v (.int .i64 (rn l a[j]).index), .sl 4 (eTms (rn l a[j]).args) none]] = eTms ((rns l a).take (j + 1)) := by
  have h2 : j < (rns l a).length := by rw [rns_len]; exact h
  rw [← eTms_snoc _ j h2]
  congr 2
  simp only [rns_map, List.getElem_map]
theorem ordF_len : ∀ (L : List Pn.Spot) (o : List Int), (ordF L o).length ≤ o.length + L.length
  | [], o => Nat.le_refl _
  | s :: l, o => by
    have h1 := ordF_len l (if s.1.kind = 2 then met o s.1.index else o)
    have h2 := met_len o s.1.index
    rw [ordF, List.length_cons]
    split at h1 <;> rename_i hk
    · rw [if_pos hk]; omega
    · rw [if_neg hk]; omega
end Ru
set_option maxHeartbeats 4000000 in
theorem rorder_row (o : List Int) (t : Tm) (hz : o.length + t.full ≤ 50000) (hf : t.Fit) : CallG Tryz.prog 45 [.sl 1 (eIs o) (some 5), .ag (eTm t)] [(.r 5, .rw 3 1 o.length)] [(.r 5, .rw 3 1 (Ru.tr t o).1.length)] (.sl 1 (eIs (Ru.tr t o).1) (some 5)) := by
 have hall : PureC Tryz.prog 92 [.ag (eTm t), .v (.slice none 0 0)] (.sl 1 (ePaths (Pn.pth t [])) none) := CallC.vle (rall_d t [] (by simp; omega)) (.cons (VLe.refl _) (.cons (VLe.nil _) .nil)) (VLe.refl _)
 have hgr := Ru.tr_grow t o
 rw [← Ru.ordF_subs t [] []] at hgr ⊢
 rw [← Pn.subs_pth t [] []] at hall
 have hsl := Pn.subs_len t [] []
 have hsf := Tm.size_le_full t
 have hrg := Pn.subs_rng t [] []
 have hpt := subs_part t [] [] hf
 have hat := Pn.subs_at t [] [] t t.binds (by simp) rfl
 have hrat := fun p => rat_d p t
 obtain ⟨L, hL⟩ : ∃ L, Pn.subs t [] [] = L := ⟨_, rfl⟩
 rw [hL] at hsl hrg hpt hat hall hgr ⊢
 have hol := Ru.ordF_len L o
 obtain ⟨Ps, hPs⟩ : ∃ Ps, L.map (·.2.2) = Ps := ⟨_, rfl⟩
 rw [hPs] at hall
 have hPl : Ps.length = L.length := by rw [← hPs, List.length_map]
 have hwhole : L = L.take L.length := by simp
 rw [eTm_eq] at hall
 rw [eTm_eq]
 refine callG_of_dw 6 47 [ResultVar.tmp 4] TRD_ok (by kernel_rfl) Tryz.func45 rfl Tryz.ntmps45 rfl (by simp) ?dwords ?dbody
 case dwords => simp [wordsG, rowN, rowsR, gkey, Key.eq, D.ok, D.oks, D.okss, rnames, inN, ckey, ePaths_ok, eTms_ok, eTys_ok, eIs_ok]
 case dbody =>
  intro cx hnt hn0
  refine dw_seq ?_; refine dwk [] TRD_ok hnt fun K hK => ?_; refine hK _ _ ?_; clear hK K; refine dw_seq ?_; refine dwk [] TRD_ok hnt fun K hK => ?_; refine dcl (hall) ?_; refine hK _ _ ?_; clear hK K; refine dw_seq ?_; refine dw_seq ?_; refine dwk [] TRD_ok hnt fun K hK => ?_; refine hK _ _ ?_; clear hK K; refine dw_block ?_
  refine dw_loop (ι := { j : Nat // j ≤ Ps.length }) (fun j => [(.t 3, .p 6 0), (.t 0, .sl 1 (eIs (Ru.ordF (L.take j.1) o)) (some 5)), (.r 5, .rw 3 1 (Ru.ordF (L.take j.1) o).length), (.t 5, .sl 1 (ePaths Ps) none), (.t 6, .v (.int .i64 ↑j.1)), (.c 6 0, .sl 2 (eTys t.binds) none), (.c 6 1, .v (.int .i64 t.kind)), (.c 6 2, .v (.int .i64 t.index)), (.c 6 3, .sl 4 (eTms t.args) none)]) 7 (fun j => Ps.length - j.1) (⟨0, Nat.zero_le _⟩) ((VS.toK (by omega) (by repeat first | exact trivial | refine And.intro (And.intro (by first | rfl | simp [D.ok, D.oks, D.okss, D.okm, upto, keyOk, Ru.ordF]) (by first | exact Or.inl rfl | exact Or.inr ⟨_, rfl, (by repeat first | exact VLe.refl _ | exact VLe.nil _ | exact VLe.untag _ _ _ | refine VLe.ag ?_ | refine VLe.tu ?_ | refine VLeL.cons ?_ ?_ | exact VLeL.nil), trivial⟩ | simp [get, Key.eq, Ru.ordF])) ?_))) fun j => ?_
  obtain ⟨j, hj⟩ := j
  dsimp only
  by_cases hlt : j < Ps.length
  ·have hltL : j < L.length := by omega
   have hmem := List.getElem_mem hltL
   have hst := Ru.ordF_take L o j hltL
   have hul := Ru.ordF_len (L.take j) o
   rw [List.length_take] at hul
   have hPj : Ps[j] = L[j].2.2 := by subst hPs; simp
   obtain ⟨⟨x, ar, p⟩, hs⟩ : ∃ s, L[j] = s := ⟨_, rfl⟩
   rw [hs] at hst hPj hmem
   dsimp only at hPj hst
   have h1 := hrg _ hmem
   have h2 := hpt _ hmem
   have h3 := hat _ hmem
   dsimp only at h1 h2 h3
   have hA := hrat p (by omega) (by simp at h1; omega) (fun y hy => by rcases h1.1 y hy with h | h; cases h; omega)
   rw [h3] at hA
   unfold atV at hA
   dsimp only at hA
   rw [eTm_eq, eTm_eq] at hA
   obtain ⟨q, hq⟩ : ∃ q, Ru.ordF (L.take j) o = q := ⟨_, rfl⟩
   rw [hq] at hst hul ⊢
   have hH := rhas_d q x.index (by omega)
   refine dw_seq ?_; refine dw_seq ?_; refine dwk [(14, .v (.int .i64 (↑Ps.length))), (15, .v (.bool true))] TRD_ok hnt fun K hK => ?_; refine And.intro (dintE (by rw [ePaths_len])) ?_; refine And.intro auT ?_; refine hK _ _ ?_; clear hK K; refine dw_cond (t := true) rfl ?_; rw [if_pos rfl]; refine dw_skip ?_; refine dw_seq ?_; refine dw_block ?_; refine dw_seq ?_; refine dwkD [(22, .q [.sl 1 (eIs Ps[j]) none]), (23, .sl 1 (eIs p) none)] TRD_ok hnt fun K hK => ?_
   refine And.intro (elo (ePaths_len Ps)) ?_; refine And.intro (elv (ePaths_getD Ps j) rfl) ?_; refine And.intro (VLe.of_eq (by rw [hPj])) ?_; refine dcl (hA) ?_; refine hK _ _ (by kernel_rfl) ?_; clear hK K
   by_cases hk : x.kind = 2
   ·rw [if_pos hk] at hst
    unfold Ru.met at hst
    by_cases hm : x.index ∈ q
    ·rw [if_pos hm] at hst
     rw [List.contains_iff_mem.2 hm] at hH
     rw [← hst]
     refine dw_seq ?_; refine dwk [(31, .v (.bool true)), (33, .sl 1 (eIs (Ru.ordF (L.take (j + 1)) o)) none)] TRD_ok hnt fun K hK => ?_; refine And.intro (beqT hk) ?_; refine And.intro (VLe.untag _ _ _) ?_; refine dcl ((hst ▸ hH)) ?_; refine hK _ _ ?_; clear hK K; refine dw_cond (t := false) rfl ?_; rw [if_neg (by simp)]; refine dw_skip ?_; refine dwk [(17, .v (.int .i64 (↑(j + 1))))] TRD_ok hnt fun K hK => ?_
     refine And.intro auI ?_; refine hK _ _ ?_; clear hK K
     refine ⟨⟨j + 1, hlt⟩, by first | omega | (dsimp only; omega), VS.toA⟩
    ·rw [if_neg hm] at hst
     rw [show q.contains x.index = false by rw [Bool.eq_false_iff]; exact fun h => hm (List.contains_iff_mem.1 h)] at hH
     refine dw_seq ?_; refine dwk [(31, .v (.bool true)), (33, .sl 1 (eIs q) none)] TRD_ok hnt fun K hK => ?_; refine And.intro (beqT hk) ?_; refine And.intro (VLe.untag _ _ _) ?_; refine dcl (hH) ?_; refine hK _ _ ?_; clear hK K; refine dw_cond (t := true) rfl ?_; rw [if_pos rfl]; refine dwk [(45, .sl 1 (eIs (Ru.ordF (L.take (j + 1)) o)) (some 5))] TRD_ok hnt fun K hK => ?_; refine And.intro (⟨by rw [eIs_len], by rw [eIs_len]; simp; omega⟩) ?_
     refine And.intro (VLe.of_eq (by rw [hst, eIs_append]; rfl)) ?_; refine hK _ _ ?_; clear hK K; refine dwk [(17, .v (.int .i64 (↑(j + 1))))] TRD_ok hnt fun K hK => ?_; refine And.intro auI ?_; refine hK _ _ ?_; clear hK K
     have hlq : (eIs q).length + 1 = (Ru.ordF (L.take (j + 1)) o).length := by rw [eIs_len, hst]; simp
     refine ⟨⟨j + 1, hlt⟩, by first | omega | (dsimp only; omega), (by try simp only [List.length_append, List.length_take, List.length_cons, List.length_nil, Nat.zero_add, hlq]; exact VS.toA)⟩
   ·rw [if_neg hk] at hst
    rw [← hst]
    refine dw_seq ?_; refine dwk [(31, .v (.bool false))] TRD_ok hnt fun K hK => ?_; refine And.intro (beqF hk) ?_; refine hK _ _ ?_; clear hK K; refine dw_cond (t := false) rfl ?_; rw [if_neg (by simp)]; refine dw_skip ?_; refine dwk [(17, .v (.int .i64 (↑(j + 1))))] TRD_ok hnt fun K hK => ?_; refine And.intro auI ?_; refine hK _ _ ?_; clear hK K
    refine ⟨⟨j + 1, hlt⟩, by first | omega | (dsimp only; omega), VS.toA⟩
  ·have hjL : L.take j = L := List.take_of_length_le (by omega)
   rw [hjL]
   refine dw_seq ?_; refine dw_seq ?_; refine dwk [(14, .v (.int .i64 (↑Ps.length))), (15, .v (.bool false))] TRD_ok hnt fun K hK => ?_; refine And.intro (dintE (by rw [ePaths_len])) ?_; refine And.intro auF ?_; refine hK _ _ ?_; clear hK K; refine dw_cond (t := false) rfl ?_; rw [if_neg (by simp)]; refine dw_exit ?_; refine dw_seq ?_; refine dwk [] TRD_ok hnt fun K hK => ?_; refine hK _ _ ?_; clear hK K
   refine dw_ret ?_
   exact reta rfl
set_option maxHeartbeats 4000000 in
theorem rorder_nil (t : Tm) (hz : t.full ≤ 50000) (hf : t.Fit) (nm : Nat) : CallN Tryz.prog 45 [.v (.slice none 0 0), .ag (eTm t)] [] nm [(.r nm, .rw 3 1 (Ru.tr t []).1.length)] (.sl 1 (eIs (Ru.tr t []).1) (some nm)) := by
 have hall : PureC Tryz.prog 92 [.ag (eTm t), .v (.slice none 0 0)] (.sl 1 (ePaths (Pn.pth t [])) none) := CallC.vle (rall_d t [] (by simp; omega)) (.cons (VLe.refl _) (.cons (VLe.nil _) .nil)) (VLe.refl _)
 have hgr := Ru.tr_grow t []
 rw [← Ru.ordF_subs t [] []] at hgr ⊢
 rw [← Pn.subs_pth t [] []] at hall
 have hsl := Pn.subs_len t [] []
 have hsf := Tm.size_le_full t
 have hrg := Pn.subs_rng t [] []
 have hpt := subs_part t [] [] hf
 have hat := Pn.subs_at t [] [] t t.binds (by simp) rfl
 have hrat := fun p => rat_d p t
 obtain ⟨L, hL⟩ : ∃ L, Pn.subs t [] [] = L := ⟨_, rfl⟩
 rw [hL] at hsl hrg hpt hat hall hgr ⊢
 have hol := Ru.ordF_len L []
 simp only [List.length_nil, Nat.zero_add] at hgr hol
 have hokt : ∀ f g, D.oks f g [.sl 2 (eTys t.binds) none, .v (.int .i64 t.kind), .v (.int .i64 t.index), .sl 4 (eTms t.args) none] = true := fun f g => by rw [← eTm_eq]; exact eTm_ok f g t
 obtain ⟨Ps, hPs⟩ : ∃ Ps, L.map (·.2.2) = Ps := ⟨_, rfl⟩
 rw [hPs] at hall
 have hPl : Ps.length = L.length := by rw [← hPs, List.length_map]
 have hwhole : L = L.take L.length := by simp
 rw [eTm_eq] at hall
 rw [eTm_eq]
 refine callRow_of_dw 47 [ResultVar.tmp 4] TRD_ok (by kernel_rfl) Tryz.func45 rfl Tryz.ntmps45 rfl (by simp) (by simp [D.ok, hokt, ePaths_ok, eTms_ok, eTys_ok, eIs_ok]) (by simp [D.okss, hokt, ePaths_ok, eTms_ok, eTys_ok, eIs_ok]) ?dbody nm
 case dbody =>
  intro cx hnt hn0
  refine dw_seq ?_; refine dwk [] TRD_ok hnt fun K hK => ?_; refine hK _ _ ?_; clear hK K; refine dw_seq ?_; refine dwk [] TRD_ok hnt fun K hK => ?_; refine dcl (hall) ?_; refine hK _ _ ?_; clear hK K; refine dw_seq ?_; refine dw_seq ?_; refine dwk [] TRD_ok hnt fun K hK => ?_; refine hK _ _ ?_; clear hK K; refine dw_block ?_
  refine dw_loop (ι := { j : Nat // j ≤ Ps.length }) (fun j => [(.t 3, .p 0 0), (.t 0, .sl 1 (eIs (Ru.ordF (L.take j.1) [])) (some 6)), (.r 6, .rw 3 1 (Ru.ordF (L.take j.1) []).length), (.t 5, .sl 1 (ePaths Ps) none), (.t 6, .v (.int .i64 ↑j.1)), (.c 0 0, .sl 2 (eTys t.binds) none), (.c 0 1, .v (.int .i64 t.kind)), (.c 0 2, .v (.int .i64 t.index)), (.c 0 3, .sl 4 (eTms t.args) none)]) 7 (fun j => Ps.length - j.1) (⟨0, Nat.zero_le _⟩) ((VS.trans (VS.rowT (x := 0) (by rw [hnt]; decide) 3 1 rfl) (VS.toK (by omega) (by repeat first | exact trivial | refine And.intro (And.intro (by first | rfl | simp [D.ok, D.oks, D.okss, D.okm, upto, keyOk, Ru.ordF, eIs]) (by first | exact Or.inl rfl | exact Or.inr ⟨_, rfl, (by repeat first | exact VLe.refl _ | exact VLe.nil _ | exact VLe.untag _ _ _ | refine VLe.ag ?_ | refine VLe.tu ?_ | refine VLeL.cons ?_ ?_ | exact VLeL.nil), trivial⟩ | simp [get, Key.eq, Ru.ordF, eIs])) ?_)))) fun j => ?_
  obtain ⟨j, hj⟩ := j
  dsimp only
  by_cases hlt : j < Ps.length
  ·have hltL : j < L.length := by omega
   have hmem := List.getElem_mem hltL
   have hst := Ru.ordF_take L [] j hltL
   have hul := Ru.ordF_len (L.take j) []
   rw [List.length_take] at hul
   simp only [List.length_nil, Nat.zero_add] at hul
   have hPj : Ps[j] = L[j].2.2 := by subst hPs; simp
   obtain ⟨⟨x, ar, p⟩, hs⟩ : ∃ s, L[j] = s := ⟨_, rfl⟩
   rw [hs] at hst hPj hmem
   dsimp only at hPj hst
   have h1 := hrg _ hmem
   have h2 := hpt _ hmem
   have h3 := hat _ hmem
   dsimp only at h1 h2 h3
   have hA := hrat p (by omega) (by simp at h1; omega) (fun y hy => by rcases h1.1 y hy with h | h; cases h; omega)
   rw [h3] at hA
   unfold atV at hA
   dsimp only at hA
   rw [eTm_eq, eTm_eq] at hA
   obtain ⟨q, hq⟩ : ∃ q, Ru.ordF (L.take j) [] = q := ⟨_, rfl⟩
   rw [hq] at hst hul ⊢
   have hH := rhas_d q x.index (by omega)
   refine dw_seq ?_; refine dw_seq ?_; refine dwk [(14, .v (.int .i64 (↑Ps.length))), (15, .v (.bool true))] TRD_ok hnt fun K hK => ?_; refine And.intro (dintE (by rw [ePaths_len])) ?_; refine And.intro auT ?_; refine hK _ _ ?_; clear hK K; refine dw_cond (t := true) rfl ?_; rw [if_pos rfl]; refine dw_skip ?_; refine dw_seq ?_; refine dw_block ?_; refine dw_seq ?_; refine dwkD [(22, .q [.sl 1 (eIs Ps[j]) none]), (23, .sl 1 (eIs p) none)] TRD_ok hnt fun K hK => ?_
   refine And.intro (elo (ePaths_len Ps)) ?_; refine And.intro (elv (ePaths_getD Ps j) rfl) ?_; refine And.intro (VLe.of_eq (by rw [hPj])) ?_; refine dcl (hA) ?_; refine hK _ _ (by kernel_rfl) ?_; clear hK K
   by_cases hk : x.kind = 2
   ·rw [if_pos hk] at hst
    unfold Ru.met at hst
    by_cases hm : x.index ∈ q
    ·rw [if_pos hm] at hst
     rw [List.contains_iff_mem.2 hm] at hH
     rw [← hst]
     refine dw_seq ?_; refine dwk [(31, .v (.bool true)), (33, .sl 1 (eIs (Ru.ordF (L.take (j + 1)) [])) none)] TRD_ok hnt fun K hK => ?_; refine And.intro (beqT hk) ?_; refine And.intro (VLe.untag _ _ _) ?_; refine dcl ((hst ▸ hH)) ?_; refine hK _ _ ?_; clear hK K; refine dw_cond (t := false) rfl ?_; rw [if_neg (by simp)]; refine dw_skip ?_; refine dwk [(17, .v (.int .i64 (↑(j + 1))))] TRD_ok hnt fun K hK => ?_
     refine And.intro auI ?_; refine hK _ _ ?_; clear hK K
     refine ⟨⟨j + 1, hlt⟩, by first | omega | (dsimp only; omega), VS.toA⟩
    ·rw [if_neg hm] at hst
     rw [show q.contains x.index = false by rw [Bool.eq_false_iff]; exact fun h => hm (List.contains_iff_mem.1 h)] at hH
     refine dw_seq ?_; refine dwk [(31, .v (.bool true)), (33, .sl 1 (eIs q) none)] TRD_ok hnt fun K hK => ?_; refine And.intro (beqT hk) ?_; refine And.intro (VLe.untag _ _ _) ?_; refine dcl (hH) ?_; refine hK _ _ ?_; clear hK K; refine dw_cond (t := true) rfl ?_; rw [if_pos rfl]; refine dwk [(45, .sl 1 (eIs (Ru.ordF (L.take (j + 1)) [])) (some 6))] TRD_ok hnt fun K hK => ?_; refine And.intro (⟨by rw [eIs_len], by rw [eIs_len]; simp; omega⟩) ?_
     refine And.intro (VLe.of_eq (by rw [hst, eIs_append]; rfl)) ?_; refine hK _ _ ?_; clear hK K; refine dwk [(17, .v (.int .i64 (↑(j + 1))))] TRD_ok hnt fun K hK => ?_; refine And.intro auI ?_; refine hK _ _ ?_; clear hK K
     have hlq : (eIs q).length + 1 = (Ru.ordF (L.take (j + 1)) []).length := by rw [eIs_len, hst]; simp
     refine ⟨⟨j + 1, hlt⟩, by first | omega | (dsimp only; omega), (by try simp only [List.length_append, List.length_take, List.length_cons, List.length_nil, Nat.zero_add, hlq]; exact VS.toA)⟩
   ·rw [if_neg hk] at hst
    rw [← hst]
    refine dw_seq ?_; refine dwk [(31, .v (.bool false))] TRD_ok hnt fun K hK => ?_; refine And.intro (beqF hk) ?_; refine hK _ _ ?_; clear hK K; refine dw_cond (t := false) rfl ?_; rw [if_neg (by simp)]; refine dw_skip ?_; refine dwk [(17, .v (.int .i64 (↑(j + 1))))] TRD_ok hnt fun K hK => ?_; refine And.intro auI ?_; refine hK _ _ ?_; clear hK K
    refine ⟨⟨j + 1, hlt⟩, by first | omega | (dsimp only; omega), VS.toA⟩
  ·have hjL : L.take j = L := List.take_of_length_le (by omega)
   rw [hjL]
   refine dw_seq ?_; refine dw_seq ?_; refine dwk [(14, .v (.int .i64 (↑Ps.length))), (15, .v (.bool false))] TRD_ok hnt fun K hK => ?_; refine And.intro (dintE (by rw [ePaths_len])) ?_; refine And.intro auF ?_; refine hK _ _ ?_; clear hK K; refine dw_cond (t := false) rfl ?_; rw [if_neg (by simp)]; refine dw_exit ?_; refine dw_seq ?_; refine dwk [] TRD_ok hnt fun K hK => ?_; refine hK _ _ ?_; clear hK K
   refine dw_ret ?_
   exact ⟨.inr rfl, 6, rfl, rfl⟩
namespace Ru
def cur (l : List Int) (i : Int) (j : Nat) : Int := if i ∈ l.take j then (ix i l : Int) else i
theorem cur_hit {l : List Int} (hn : l.Nodup) {j : Nat} (h : j < l.length) : cur l l[j] (j + 1) = j := by
  unfold cur
  rw [if_pos (List.mem_iff_getElem.2 ⟨j, by rw [List.length_take]; omega, by rw [List.getElem_take]⟩)]
  rw [ix_at h fun i hi hij => List.pairwise_iff_getElem.1 hn i j hi h hij]
theorem cur_miss {l : List Int} {i : Int} {j : Nat} (h : j < l.length) (hne : l[j] ≠ i) : cur l i (j + 1) = cur l i j := by
  unfold cur
  have : i ∈ l.take (j + 1) ↔ i ∈ l.take j := by
    rw [List.take_succ_eq_append_getElem h, List.mem_append, List.mem_singleton]
    exact ⟨fun h => h.elim id fun e => absurd e.symm hne, .inl⟩
  by_cases hm : i ∈ l.take j
  · rw [if_pos hm, if_pos (this.2 hm)]
  · rw [if_neg hm, if_neg fun h => hm (this.1 h)]
theorem cur_end (l : List Int) (i : Int) : cur l i l.length = if i ∈ l then (ix i l : Int) else i := by unfold cur; rw [List.take_length]
end Ru
set_option maxHeartbeats 4000000 in
theorem rren_d (l : List Int) (hnd : l.Nodup) (hl : l.length ≤ 900000) : ∀ t : Tm, t.full ≤ 700000 → PureC Tryz.prog 46 [.sl 1 (eIs l) none, .ag (eTm t)] (.ag (eTm (Ru.rn l t))) := by
 intro t
 induction t using Tm.ind with
 | h b k i a ih =>
 intro hz
 rw [Tm.full_eq] at hz
 have hal := cFulls_len a
 have hl0 := Ru.rns_len l a
 have hsn := Ru.rns_snoc l a
 have hI : ∀ j (h : j < a.length), PureC Tryz.prog 46 [.sl 1 (eIs l) none, .ag (eTm a[j])] (.ag (eTm (Ru.rn l a[j]))) := fun j h => ih _ (List.getElem_mem h) (by have := Tm.full_mem (List.getElem_mem h); omega)
 rw [Ru.rn_eq]
 obtain ⟨r, hr⟩ : ∃ r, Ru.rns l a = r := ⟨_, rfl⟩
 rw [hr] at hl0 hsn ⊢
 clear hr ih
 rw [eTm_eq, eTm_eq]
 simp only [bindsT, kindT, indexT, argsTm]
 have hce := Ru.cur_end l i
 by_cases hk : k = 2
 ·have e : (if k = 2 ∧ i ∈ l then (Ru.ix i l : Int) else i) = Ru.cur l i l.length := by
   rw [hce]
   by_cases hm : i ∈ l
   ·rw [if_pos ⟨hk, hm⟩, if_pos hm]
   ·rw [if_neg fun h => hm h.2, if_neg hm]
  have hc0 : Ru.cur l i 0 = i := by unfold Ru.cur; simp
  rw [e]
  clear e hce
  refine calldw 0 54 [ResultVar.cell 4 27] TRD_ok Tryz.func46 rfl Tryz.ntmps46 rfl fun cx hnt hn0 => ?_
  ·skip
   refine dw_seq ?_; refine dwk [] TRD_ok hnt fun K hK => ?_; refine hK _ _ ?_; clear hK K; refine dw_seq ?_; refine dwk [] TRD_ok hnt fun K hK => ?_; refine hK _ _ ?_; clear hK K
   refine DW.vs (VS.row (k := 7) (off := 3) 27 4 rfl) ?_
   refine dw_seq ?_; refine dw_seq ?_; refine dwk [(16, .v (.bool true))] TRD_ok hnt fun K hK => ?_; refine And.intro (beqT hk) ?_; refine hK _ _ ?_; clear hK K; refine dw_cond (t := true) rfl ?_; rw [if_pos rfl]; refine dw_seq ?_; refine dwk [] TRD_ok hnt fun K hK => ?_; refine hK _ _ ?_; clear hK K; refine dw_block ?_
   refine dw_loop (ι := { j : Nat // j ≤ l.length }) (fun j => [(.t 0, .sl 1 (eIs l) none), (.t 3, .p 0 0), (.t 4, .p 1 0), (.t 5, .p 7 0), (.t 6, .v (.int .i64 ↑j.1)), (.c 0 0, .sl 2 (eTys b) none), (.c 0 1, .v (.int .i64 k)), (.c 0 2, .v (.int .i64 i)), (.c 0 3, .sl 4 (eTms a) none), (.c 1 0, .v (.slice none 0 0)), (.c 1 1, .v (.int .i64 0)), (.c 1 2, .v (.int .i64 0)), (.c 1 3, .v (.slice none 0 0)), (.c 7 0, .sl 2 (eTys b) none), (.c 7 1, .v (.int .i64 k)), (.c 7 2, .v (.int .i64 (Ru.cur l i j.1))), (.c 7 3, .sl 4 [] (some 9)), (.r 9, .rw 27 4 0)]) 10 (fun j => l.length - j.1) (⟨0, Nat.zero_le _⟩) ((by try simp only [List.length_append, List.length_take, List.length_cons, List.length_nil, Nat.zero_add, hc0]; exact VS.toA)) fun j => ?_
   obtain ⟨j, hj⟩ := j
   dsimp only
   by_cases hlt : j < l.length
   ·by_cases he : l[j] = i
    ·have hcu := Ru.cur_hit hnd hlt
     rw [he] at hcu
     refine dw_seq ?_; refine dw_seq ?_; refine dwk [(19, .v (.int .i64 (↑l.length))), (20, .v (.bool true))] TRD_ok hnt fun K hK => ?_; refine And.intro (dintE (by rw [eIs_len])) ?_; refine And.intro auT ?_; refine hK _ _ ?_; clear hK K; refine dw_cond (t := true) rfl ?_; rw [if_pos rfl]; refine dw_skip ?_; refine dw_seq ?_; refine dw_block ?_; refine dw_seq ?_; refine dwkD [(25, .q [.v (.int .i64 (l[j]))]), (30, .v (.bool true))] TRD_ok hnt fun K hK => ?_
     refine And.intro (elo (eIs_len l)) ?_; refine And.intro (elv (eIs_getD l j) rfl) ?_; refine And.intro (beqT he) ?_; refine hK _ _ (by kernel_rfl) ?_; clear hK K; refine dw_cond (t := true) rfl ?_; rw [if_pos rfl]; refine dwk [] TRD_ok hnt fun K hK => ?_; refine hK _ _ ?_; clear hK K
     rw [← hcu]
     refine dwk [(22, .v (.int .i64 (↑(j + 1))))] TRD_ok hnt fun K hK => ?_; refine And.intro auI ?_; refine hK _ _ ?_; clear hK K
     refine ⟨⟨j + 1, hlt⟩, by first | omega | (dsimp only; omega), VS.toA⟩
    ·have hcu := Ru.cur_miss hlt he
     rw [← hcu]
     refine dw_seq ?_; refine dw_seq ?_; refine dwk [(19, .v (.int .i64 (↑l.length))), (20, .v (.bool true))] TRD_ok hnt fun K hK => ?_; refine And.intro (dintE (by rw [eIs_len])) ?_; refine And.intro auT ?_; refine hK _ _ ?_; clear hK K; refine dw_cond (t := true) rfl ?_; rw [if_pos rfl]; refine dw_skip ?_; refine dw_seq ?_; refine dw_block ?_; refine dw_seq ?_; refine dwkD [(25, .q [.v (.int .i64 (l[j]))]), (30, .v (.bool false))] TRD_ok hnt fun K hK => ?_
     refine And.intro (elo (eIs_len l)) ?_; refine And.intro (elv (eIs_getD l j) rfl) ?_; refine And.intro (beqF he) ?_; refine hK _ _ (by kernel_rfl) ?_; clear hK K; refine dw_cond (t := false) rfl ?_; rw [if_neg (by simp)]; refine dw_skip ?_; refine dwk [(22, .v (.int .i64 (↑(j + 1))))] TRD_ok hnt fun K hK => ?_; refine And.intro auI ?_; refine hK _ _ ?_; clear hK K
     refine ⟨⟨j + 1, hlt⟩, by first | omega | (dsimp only; omega), VS.toA⟩
   ·rw [show j = l.length by omega]
    refine dw_seq ?_; refine dw_seq ?_; refine dwk [(19, .v (.int .i64 (↑l.length))), (20, .v (.bool false))] TRD_ok hnt fun K hK => ?_; refine And.intro (dintE (by rw [eIs_len])) ?_; refine And.intro auF ?_; refine hK _ _ ?_; clear hK K; refine dw_cond (t := false) rfl ?_; rw [if_neg (by simp)]; refine dw_exit ?_; refine dw_seq ?_; refine dw_seq ?_; refine dwk [] TRD_ok hnt fun K hK => ?_; refine hK _ _ ?_; clear hK K
    refine dw_block ?_
    refine dw_loop (ι := { j : Nat // j ≤ a.length }) (fun j => [(.t 0, .sl 1 (eIs l) none), (.t 3, .p 0 0), (.t 4, .p 1 0), (.t 5, .p 7 0), (.t 7, .v (.int .i64 ↑j.1)), (.c 0 0, .sl 2 (eTys b) none), (.c 0 1, .v (.int .i64 k)), (.c 0 2, .v (.int .i64 i)), (.c 0 3, .sl 4 (eTms a) none), (.c 1 0, .v (.slice none 0 0)), (.c 1 1, .v (.int .i64 0)), (.c 1 2, .v (.int .i64 0)), (.c 1 3, .v (.slice none 0 0)), (.c 7 0, .sl 2 (eTys b) none), (.c 7 1, .v (.int .i64 k)), (.c 7 2, .v (.int .i64 (Ru.cur l i l.length))), (.c 7 3, .sl 4 (eTms (r.take j.1)) (some 9)), (.r 9, .rw 27 4 j.1)]) 10 (fun j => a.length - j.1) (⟨0, Nat.zero_le _⟩) (VS.toA) fun q => ?_
    obtain ⟨q, hq⟩ := q
    dsimp only
    by_cases hlt : q < a.length
    ·have hc := hI q hlt
     have hs := hsn q hlt
     rw [eTm_eq, eTm_eq] at hc
     have hlq : (eTms (r.take q)).length = q := by rw [eTms_len, List.length_take]; omega
     refine dw_seq ?_; refine dw_seq ?_; refine dwk [(37, .v (.int .i64 (↑a.length))), (38, .v (.bool true))] TRD_ok hnt fun K hK => ?_; refine And.intro (dintE (by rw [eTms_len])) ?_; refine And.intro auT ?_; refine hK _ _ ?_; clear hK K; refine dw_cond (t := true) rfl ?_; rw [if_pos rfl]; refine dw_skip ?_; refine dw_seq ?_; refine dw_block ?_; refine dwkD [(47, .q [.sl 2 (eTys a[q].binds) none, .v (.int .i64 a[q].kind), .v (.int .i64 a[q].index), .sl 4 (eTms a[q].args) none]), (51, .sl 4 (eTms (r.take (q + 1))) (some 9))] TRD_ok hnt fun K hK => ?_
     refine And.intro (elo (eTms_len a)) ?_; refine And.intro (elv (eTms_getD a q) (eTm_eq _)) ?_; refine dcl (hc) ?_; refine And.intro (⟨by rw [hlq], by rw [hlq]; simp; omega⟩) ?_; refine And.intro (VLe.of_eq (by rw [hs])) ?_; refine hK _ _ (by kernel_rfl) ?_; clear hK K; refine dwk [(40, .v (.int .i64 (↑(q + 1))))] TRD_ok hnt fun K hK => ?_; refine And.intro auI ?_; refine hK _ _ ?_; clear hK K
     refine ⟨⟨q + 1, hlt⟩, by first | omega | (dsimp only; omega), (by try simp only [List.length_append, List.length_take, List.length_cons, List.length_nil, Nat.zero_add, hlq]; exact VS.toA)⟩
    ·rw [List.take_of_length_le (by omega)]
     refine dw_seq ?_; refine dw_seq ?_; refine dwk [(37, .v (.int .i64 (↑a.length))), (38, .v (.bool false))] TRD_ok hnt fun K hK => ?_; refine And.intro (dintE (by rw [eTms_len])) ?_; refine And.intro auF ?_; refine hK _ _ ?_; clear hK K; refine dw_cond (t := false) rfl ?_; rw [if_neg (by simp)]; refine dw_exit ?_; refine dw_seq ?_; refine dwk [] TRD_ok hnt fun K hK => ?_; refine hK _ _ ?_; clear hK K
     refine dw_ret ?_
     exact reta rfl
 ·rw [if_neg fun h => hk h.1]
  refine calldw 0 54 [ResultVar.cell 4 27] TRD_ok Tryz.func46 rfl Tryz.ntmps46 rfl fun cx hnt hn0 => ?_
  ·skip
   refine dw_seq ?_; refine dwk [] TRD_ok hnt fun K hK => ?_; refine hK _ _ ?_; clear hK K; refine dw_seq ?_; refine dwk [] TRD_ok hnt fun K hK => ?_; refine hK _ _ ?_; clear hK K
   refine DW.vs (VS.row (k := 7) (off := 3) 27 4 rfl) ?_
   refine dw_seq ?_; refine dw_seq ?_; refine dwk [(16, .v (.bool false))] TRD_ok hnt fun K hK => ?_; refine And.intro (beqF hk) ?_; refine hK _ _ ?_; clear hK K; refine dw_cond (t := false) rfl ?_; rw [if_neg (by simp)]; refine dw_skip ?_; refine dw_seq ?_; refine dw_seq ?_; refine dwk [] TRD_ok hnt fun K hK => ?_; refine hK _ _ ?_; clear hK K; refine dw_block ?_
   refine dw_loop (ι := { j : Nat // j ≤ a.length }) (fun j => [(.t 0, .sl 1 (eIs l) none), (.t 3, .p 0 0), (.t 4, .p 1 0), (.t 5, .p 7 0), (.t 7, .v (.int .i64 ↑j.1)), (.c 0 0, .sl 2 (eTys b) none), (.c 0 1, .v (.int .i64 k)), (.c 0 2, .v (.int .i64 i)), (.c 0 3, .sl 4 (eTms a) none), (.c 1 0, .v (.slice none 0 0)), (.c 1 1, .v (.int .i64 0)), (.c 1 2, .v (.int .i64 0)), (.c 1 3, .v (.slice none 0 0)), (.c 7 0, .sl 2 (eTys b) none), (.c 7 1, .v (.int .i64 k)), (.c 7 2, .v (.int .i64 i)), (.c 7 3, .sl 4 (eTms (r.take j.1)) (some 9)), (.r 9, .rw 27 4 j.1)]) 10 (fun j => a.length - j.1) (⟨0, Nat.zero_le _⟩) (VS.toA) fun q => ?_
   obtain ⟨q, hq⟩ := q
   dsimp only
   by_cases hlt : q < a.length
   ·have hc := hI q hlt
    have hs := hsn q hlt
    rw [eTm_eq, eTm_eq] at hc
    have hlq : (eTms (r.take q)).length = q := by rw [eTms_len, List.length_take]; omega
    refine dw_seq ?_; refine dw_seq ?_; refine dwk [(37, .v (.int .i64 (↑a.length))), (38, .v (.bool true))] TRD_ok hnt fun K hK => ?_; refine And.intro (dintE (by rw [eTms_len])) ?_; refine And.intro auT ?_; refine hK _ _ ?_; clear hK K; refine dw_cond (t := true) rfl ?_; rw [if_pos rfl]; refine dw_skip ?_; refine dw_seq ?_; refine dw_block ?_; refine dwkD [(47, .q [.sl 2 (eTys a[q].binds) none, .v (.int .i64 a[q].kind), .v (.int .i64 a[q].index), .sl 4 (eTms a[q].args) none]), (51, .sl 4 (eTms (r.take (q + 1))) (some 9))] TRD_ok hnt fun K hK => ?_
    refine And.intro (elo (eTms_len a)) ?_; refine And.intro (elv (eTms_getD a q) (eTm_eq _)) ?_; refine dcl (hc) ?_; refine And.intro (⟨by rw [hlq], by rw [hlq]; simp; omega⟩) ?_; refine And.intro (VLe.of_eq (by rw [hs])) ?_; refine hK _ _ (by kernel_rfl) ?_; clear hK K; refine dwk [(40, .v (.int .i64 (↑(q + 1))))] TRD_ok hnt fun K hK => ?_; refine And.intro auI ?_; refine hK _ _ ?_; clear hK K
    refine ⟨⟨q + 1, hlt⟩, by first | omega | (dsimp only; omega), (by try simp only [List.length_append, List.length_take, List.length_cons, List.length_nil, Nat.zero_add, hlq]; exact VS.toA)⟩
   ·rw [List.take_of_length_le (by omega)]
    refine dw_seq ?_; refine dw_seq ?_; refine dwk [(37, .v (.int .i64 (↑a.length))), (38, .v (.bool false))] TRD_ok hnt fun K hK => ?_; refine And.intro (dintE (by rw [eTms_len])) ?_; refine And.intro auF ?_; refine hK _ _ ?_; clear hK K; refine dw_cond (t := false) rfl ?_; rw [if_neg (by simp)]; refine dw_exit ?_; refine dw_seq ?_; refine dwk [] TRD_ok hnt fun K hK => ?_; refine hK _ _ ?_; clear hK K
    refine dw_ret ?_
    exact reta rfl
set_option maxHeartbeats 4000000 in
theorem rown_d (p : Li.Pr) (hl : p.l.full ≤ 20000 ∧ p.l.Fit) (hr : p.r.full ≤ 20000 ∧ p.r.Fit) (hml : p.m.length ≤ 900000) : PureC Tryz.prog 10 [.ag (ePr p)] (.tu [.ag (ePr (Ru.own p).1), .v (.bool (decide ((Ru.own p).2 = 0)))]) := by
 have h1 := rorder_nil p.l (by omega) hl.2 5
 have g1 := Ru.tr_grow p.l []
 simp only [List.length_nil, Nat.zero_add] at g1
 obtain ⟨o1, ho1⟩ : ∃ o1, (Ru.tr p.l []).1 = o1 := ⟨_, rfl⟩
 have n1 : o1.Nodup := by rw [← ho1]; exact Ru.tr_nodup p.l [] (by simp)
 rw [ho1] at h1 g1
 have h2 := rorder_row o1 p.r (by omega) hr.2
 have g2 := Ru.tr_grow p.r o1
 obtain ⟨o, ho⟩ : ∃ o, (Ru.tr p.r o1).1 = o := ⟨_, rfl⟩
 have n2 : o.Nodup := by rw [← ho]; exact Ru.tr_nodup p.r o1 n1
 rw [ho] at h2 g2
 rw [Ru.own_eq p o (by rw [ho1, ho])]
 have c1 := rren_d o n2 (by omega) p.l (by omega)
 have c2 := rren_d o n2 (by omega) p.r (by omega)
 obtain ⟨pl, pr, pm⟩ := p
 dsimp only at *
 obtain ⟨L, hL⟩ : ∃ L, Ru.rn o pl = L := ⟨_, rfl⟩
 obtain ⟨R, hR⟩ : ∃ R, Ru.rn o pr = R := ⟨_, rfl⟩
 rw [hL] at c1 ⊢
 rw [hR] at c2 ⊢
 rw [eTm_eq] at h1 h2
 rw [eTm_eq, eTm_eq] at c1 c2
 rw [ePr_eq]
 have hwl : (o.map (Ru.mt pm)).length = o.length := List.length_map ..
 have hwg := Ru.map_snoc (Ru.mt pm) o
 obtain ⟨W, hW⟩ : ∃ W, o.map (Ru.mt pm) = W := ⟨_, rfl⟩
 rw [hW] at hwl hwg ⊢
 clear hW hL hR ho1 ho
 refine calldw 0 59 [ResultVar.cell 2 29, ResultVar.tmp 3] TRD_ok Tryz.func10 rfl Tryz.ntmps10 rfl fun cx hnt hn0 => ?_
 ·skip
  refine dw_seq ?_; refine dwk [] TRD_ok hnt fun K hK => ?_; refine hK _ _ ?_; clear hK K; refine dw_seq ?_; refine dwkD [] TRD_ok hnt fun K hK => ?_; refine dcn (h1) ?_; refine dcn (CallG.n (h2) _) ?_; refine hK _ _ (by kernel_rfl) ?_; clear hK K; refine dw_seq ?_; refine dwk [] TRD_ok hnt fun K hK => ?_; refine hK _ _ ?_; clear hK K
  refine DW.vs (VS.row (k := 10) (off := 8) 91 2 rfl) ?_
  refine dw_seq ?_; refine dw_seq ?_; refine dwk [] TRD_ok hnt fun K hK => ?_; refine hK _ _ ?_; clear hK K; refine dw_block ?_
  refine dw_loop (ι := { j : Nat // j ≤ o.length ∧ ∀ i (h : i < o.length), i < j → Ru.bad pm o[i] = false }) (fun j => [(.t 1, .p 0 0), (.t 2, .p 1 0), (.t 4, .sl 1 (eIs o) none), (.t 5, .p 10 0), (.t 6, .v (.int .i64 ↑j.1)), (.c 0 0, .sl 2 (eTys pl.binds) none), (.c 0 1, .v (.int .i64 pl.kind)), (.c 0 2, .v (.int .i64 pl.index)), (.c 0 3, .sl 4 (eTms pl.args) none), (.c 0 4, .sl 2 (eTys pr.binds) none), (.c 0 5, .v (.int .i64 pr.kind)), (.c 0 6, .v (.int .i64 pr.index)), (.c 0 7, .sl 4 (eTms pr.args) none), (.c 0 8, .sl 2 (eTys pm) none), (.c 1 0, .v (.slice none 0 0)), (.c 1 1, .v (.int .i64 0)), (.c 1 2, .v (.int .i64 0)), (.c 1 3, .v (.slice none 0 0)), (.c 1 4, .v (.slice none 0 0)), (.c 1 5, .v (.int .i64 0)), (.c 1 6, .v (.int .i64 0)), (.c 1 7, .v (.slice none 0 0)), (.c 1 8, .v (.slice none 0 0)), (.c 10 0, .v (.slice none 0 0)), (.c 10 1, .v (.int .i64 0)), (.c 10 2, .v (.int .i64 0)), (.c 10 3, .v (.slice none 0 0)), (.c 10 4, .v (.slice none 0 0)), (.c 10 5, .v (.int .i64 0)), (.c 10 6, .v (.int .i64 0)), (.c 10 7, .v (.slice none 0 0)), (.c 10 8, .sl 2 (eTys (W.take j.1)) (some 11)), (.r 11, .rw 91 2 j.1)]) 12 (fun j => o.length - j.1) (⟨0, Nat.zero_le _, fun i h1 h2 => by omega⟩) (VS.toA) fun j => ?_
  obtain ⟨j, hj, hjb⟩ := j
  dsimp only
  by_cases hlt : j < o.length
  ·have hs := hwg j hlt
   have hlq : (eTys (W.take j)).length = j := by rw [eTys_len, List.length_take]; omega
   cases hb : Ru.bad pm o[j] with
   | true =>
    have ha : o.any (Ru.bad pm) = true := List.any_eq_true.2 ⟨_, List.getElem_mem hlt, hb⟩
    rw [if_pos ha, ePr_z]
    unfold Ru.bad at hb
    rw [decide_eq_true_eq] at hb
    rw [show decide ((10 : Int) = 0) = false by decide]
    by_cases hn : o[j] < 0
    ·skip
     refine dw_seq ?_; refine dw_seq ?_; refine dwk [(15, .v (.int .i64 (↑o.length))), (16, .v (.bool true))] TRD_ok hnt fun K hK => ?_; refine And.intro (dintE (by rw [eIs_len])) ?_; refine And.intro auT ?_; refine hK _ _ ?_; clear hK K; refine dw_cond (t := true) rfl ?_; rw [if_pos rfl]; refine dw_skip ?_; refine dw_seq ?_; refine dw_block ?_; refine dw_seq ?_; refine dw_seq ?_; refine dwkD [(21, .q [.v (.int .i64 (o[j]))]), (23, .v (.bool true))] TRD_ok hnt fun K hK => ?_
     refine And.intro (elo (eIs_len o)) ?_; refine And.intro (elv (eIs_getD o j) rfl) ?_; refine And.intro auT ?_; refine hK _ _ (by kernel_rfl) ?_; clear hK K; refine dw_cond (t := true) rfl ?_; rw [if_pos rfl]; refine dw_seq ?_; refine dwk [] TRD_ok hnt fun K hK => ?_; refine hK _ _ ?_; clear hK K; refine dw_ret ?_
     exact reta rfl
    ·have hn2 : (pm.length : Int) ≤ o[j] := by omega
     refine dw_seq ?_; refine dw_seq ?_; refine dwk [(15, .v (.int .i64 (↑o.length))), (16, .v (.bool true))] TRD_ok hnt fun K hK => ?_; refine And.intro (dintE (by rw [eIs_len])) ?_; refine And.intro auT ?_; refine hK _ _ ?_; clear hK K; refine dw_cond (t := true) rfl ?_; rw [if_pos rfl]; refine dw_skip ?_; refine dw_seq ?_; refine dw_block ?_; refine dw_seq ?_; refine dw_seq ?_; refine dwkD [(21, .q [.v (.int .i64 (o[j]))]), (23, .v (.bool false)), (27, .q [.v (.int .i64 (o[j]))]), (31, .v (.int .i64 (↑pm.length))), (32, .v (.bool true))] TRD_ok hnt fun K hK => ?_
     refine And.intro (elo (eIs_len o)) ?_; refine And.intro (elv (eIs_getD o j) rfl) ?_; refine And.intro auF ?_; refine And.intro (elo (eIs_len o)) ?_; refine And.intro (elv (eIs_getD o j) rfl) ?_; refine And.intro (dintE (by rw [eTys_len])) ?_; refine And.intro auT ?_; refine hK _ _ (by kernel_rfl) ?_; clear hK K; refine dw_cond (t := true) rfl ?_; rw [if_pos rfl]; refine dw_seq ?_; refine dwk [] TRD_ok hnt fun K hK => ?_
     refine hK _ _ ?_; clear hK K; refine dw_ret ?_
     exact reta rfl
   | false =>
    have hb2 := hb
    unfold Ru.bad at hb2
    rw [decide_eq_false_iff_not] at hb2
    obtain ⟨x, hx⟩ : ∃ x : Nat, o[j] = x := ⟨o[j].toNat, by omega⟩
    have hxl : x < pm.length := by omega
    have hgo : (eIs o).getD j [] = [.v (.int .i64 ↑x)] := by rw [eIs_getD o j hlt, hx]
    rw [hx, Ru.mt_at hxl] at hs
    refine dw_seq ?_; refine dw_seq ?_; refine dwk [(15, .v (.int .i64 (↑o.length))), (16, .v (.bool true))] TRD_ok hnt fun K hK => ?_; refine And.intro (dintE (by rw [eIs_len])) ?_; refine And.intro auT ?_; refine hK _ _ ?_; clear hK K; refine dw_cond (t := true) rfl ?_; rw [if_pos rfl]; refine dw_skip ?_; refine dw_seq ?_; refine dw_block ?_; refine dw_seq ?_; refine dw_seq ?_; refine dwkD [(21, .q [.v (.int .i64 ↑x)]), (23, .v (.bool false)), (27, .q [.v (.int .i64 ↑x)]), (31, .v (.int .i64 (↑pm.length))), (32, .v (.bool false))] TRD_ok hnt fun K hK => ?_
    refine And.intro (⟨by omega, by rw [eIs_len]; omega⟩) ?_; refine And.intro (VLe.of_eq (by rw [Int.toNat_natCast, hgo])) ?_; refine And.intro auF ?_; refine And.intro (⟨by omega, by rw [eIs_len]; omega⟩) ?_; refine And.intro (VLe.of_eq (by rw [Int.toNat_natCast, hgo])) ?_; refine And.intro (dintE (by rw [eTys_len])) ?_; refine And.intro auF ?_; refine hK _ _ (by kernel_rfl) ?_; clear hK K; refine dw_cond (t := false) rfl ?_
    rw [if_neg (by simp)]; refine dw_skip ?_; refine dwkD [(41, .q [.v (.int .i64 ↑x)]), (43, .q [.sl 2 (eTys pm[x].args) none, .v (.int .i64 pm[x].base)]), (46, .sl 2 (eTys (W.take (j + 1))) (some 11))] TRD_ok hnt fun K hK => ?_; refine And.intro (⟨by omega, by rw [eIs_len]; omega⟩) ?_; refine And.intro (VLe.of_eq (by rw [Int.toNat_natCast, hgo])) ?_; refine And.intro (elo (eTys_len pm)) ?_; refine And.intro (elv (eTys_getD pm x) (eTy_eq _)) ?_
    refine And.intro (⟨by rw [hlq], by rw [hlq]; simp; omega⟩) ?_; refine And.intro (VLe.of_eq (by rw [hs])) ?_; refine hK _ _ (by kernel_rfl) ?_; clear hK K; refine dwk [(18, .v (.int .i64 (↑(j + 1))))] TRD_ok hnt fun K hK => ?_; refine And.intro auI ?_; refine hK _ _ ?_; clear hK K
    refine ⟨⟨j + 1, hlt, fun i h1 h2 => if e : i = j then by subst e; exact hb else hjb i h1 (by omega)⟩, by first | omega | (dsimp only; omega), (by try simp only [List.length_append, List.length_take, List.length_cons, List.length_nil, Nat.zero_add, hlq]; exact VS.toA)⟩
  ·have ha : o.any (Ru.bad pm) = false := by
    rw [List.any_eq_false]
    intro x hx
    obtain ⟨i, hi, rfl⟩ := List.getElem_of_mem hx
    rw [hjb i hi (by omega)]; simp
   rw [if_neg (by rw [ha]; simp), ePr_eq]
   rw [List.take_of_length_le (by omega)]
   rw [show decide ((0 : Int) = 0) = true by decide]
   refine dw_seq ?_; refine dw_seq ?_; refine dwk [(15, .v (.int .i64 (↑o.length))), (16, .v (.bool false))] TRD_ok hnt fun K hK => ?_; refine And.intro (dintE (by rw [eIs_len])) ?_; refine And.intro auF ?_; refine hK _ _ ?_; clear hK K; refine dw_cond (t := false) rfl ?_; rw [if_neg (by simp)]; refine dw_exit ?_; refine dw_seq ?_; refine dwkD [] TRD_ok hnt fun K hK => ?_; refine dcl (c1) ?_; refine dcl (c2) ?_
   refine hK _ _ (by kernel_rfl) ?_; clear hK K; refine dw_seq ?_; refine dwk [] TRD_ok hnt fun K hK => ?_; refine hK _ _ ?_; clear hK K; refine dw_ret ?_
   exact reta rfl
end Go.Proofs.YtdmiekaeodcehaaGreat

namespace Go.Proofs.YtdmiekaeodcehaaGreat
open Go.RowKit
/-! slices.Concat of terms -/
def eTmss (ls : List (List Tm)) : List (List D) := ls.map fun l => [.sl 4 (eTms l) none]
@[simp] theorem eTmss_ok (f g : Nat → Bool) (l : List (List Tm)) : D.okss f g (eTmss l) = true := D.okss_map _ l fun l _ => by simp [D.oks, D.ok, eTms_ok]
/-! variables -/
namespace Li
def vars (B : List Ty) (n : Int) : List Tm := B.mapIdx fun i b => Ty.Eta b 0 (n + B.length - 1 - i)
mutual
def lif (B : List Ty) : Tm → Int → Tm
  | .mk b k i a, n => .mk b k i ((if k = 2 then vars B (n + b.length) else []) ++ lifs B a (n + b.length))
def lifs (B : List Ty) : List Tm → Int → List Tm
  | [], _ => []
  | t :: l, n => lif B t n :: lifs B l n
end
end Li
end Go.Proofs.YtdmiekaeodcehaaGreat

namespace Go.Proofs.YtdmiekaeodcehaaGreat
open Go.RowKit
variable {β : Type} {Ok : Obj → Prop} {B : Nat} {I I' : β → World → Prop}

end Go.Proofs.YtdmiekaeodcehaaGreat

namespace Go.Proofs.YtdmiekaeodcehaaGreat
open Go.RowKit

def rpInt : Rp Int where
  n := 1
  R _ _ x v := x = [.int .i64 v]
  len := by rintro F w x a rfl; rfl
  one := by rintro F w x a rfl u hu; simp at hu; subst hu; rfl
  keep := fun h _ => h
  weaken := fun h _ => h

theorem infoI : (Tryz.prog.info? 3).map (fun i => (i.zero, i.size, i.bytes)) = some (some (.int .i64 0), 1, 8) := by kernel_rfl

def FreshInts (l : List Int) (w : World) (e : Ending) (w' : World) : Prop := ∃ a c, e = .returned (.slice a l.length c) ∧ IsSl rpInt (fun q => w.heap.size ≤ q) w' (.slice a l.length c) l ∧ Below w.heap.size w w'

end Go.Proofs.YtdmiekaeodcehaaGreat

namespace Go.Proofs.YtdmiekaeodcehaaGreat
open Go.RowKit

namespace Tm
mutual
def heads : Tm → Int → List (Int × Int)
  | .mk b k i a, n => (if k ≠ 0 then [(k, i)] else if n + (b.length : Int) ≤ i then [(0, i - (n + (b.length : Int)))] else []) ++ headss a (n + (b.length : Int))
def headss : List Tm → Int → List (Int × Int)
  | [], _ => []
  | t :: l, n => heads t n ++ headss l n
end
theorem heads_eq (b : List Ty) (k i : Int) (a : List Tm) (n m : Int) (hm : n + (b.length : Int) = m) : heads (.mk b k i a) n = (if k ≠ 0 then [(k, i)] else if m ≤ i then [(0, i - m)] else []) ++ headss a m := by subst hm; rw [heads]
theorem headss_append (l l' : List Tm) (n : Int) : headss (l ++ l') n = headss l n ++ headss l' n := by
  induction l with
  | nil => simp [headss]
  | cons t l ih => simp [headss, ih]
theorem headss_take (l : List Tm) (n : Int) (j : Nat) (h : j < l.length) : headss (l.take (j + 1)) n = headss (l.take j) n ++ heads l[j] n := by
  rw [List.take_succ_eq_append_getElem h, headss_append]; simp [headss]
theorem headss_len_of {l : List Tm} (h : ∀ t ∈ l, ∀ n, (t.heads n).length ≤ t.full) : ∀ n, (headss l n).length ≤ fulls l := by
  intro n
  induction l with
  | nil => simp [headss, fulls]
  | cons t l ih =>
    have h1 := h t (by simp) n
    have h2 := ih fun u hu => h u (by simp [hu])
    simp only [headss, fulls, List.length_append]; omega
theorem heads_len (t : Tm) : ∀ n, (t.heads n).length ≤ t.full := by
  induction t using Tm.ind with
  | h b k i a ih =>
    intro n
    have h := headss_len_of ih (n + b.length)
    rw [heads_eq _ _ _ _ _ _ rfl, full_eq, List.length_append]
    have : (if k ≠ 0 then [(k, i)] else if n + (b.length : Int) ≤ i then [(0, i - (n + (b.length : Int)))] else []).length ≤ 1 := by
      split
      · simp
      · split <;> simp
    omega
theorem headss_len (l : List Tm) (n : Int) : (headss l n).length ≤ fulls l := headss_len_of (fun t _ n => heads_len t n) n
end Tm

end Go.Proofs.YtdmiekaeodcehaaGreat

namespace Go.Proofs.YtdmiekaeodcehaaGreat
open Go.RowKit

end Go.Proofs.YtdmiekaeodcehaaGreat

namespace Go.Proofs.YtdmiekaeodcehaaGreat
open Go.RowKit Go.Shelf
attribute [local go_sem] Oper.semAt_some

def hdOf (p : Nat × Nat × Tm) : Option (Int × Int) := if p.2.2.kind ≠ 0 then some (p.2.2.kind, p.2.2.index) else if (p.1 : Int) ≤ p.2.2.index then some (0, IntKind.i64.wrap (p.2.2.index - p.1)) else none
theorem heads_pres_of {l : List Tm} (h : ∀ t ∈ l, ∀ (s d : Nat), t.Fit → t.heads s = (t.pre s d).filterMap hdOf) : ∀ (s d : Nat), (∀ t ∈ l, t.Fit) → Tm.headss l s = (Tm.pres l s d).filterMap hdOf := by
  induction l with
  | nil => intro s d _; simp [Tm.pres, Tm.headss]
  | cons t l ih =>
    intro s d hf
    rw [Tm.pres, Tm.headss, List.filterMap_append, h t (by simp) s d (hf t (by simp)), ih (fun u hu => h u (by simp [hu])) s d (fun u hu => hf u (by simp [hu]))]
theorem heads_pre (t : Tm) : ∀ (s d : Nat), t.Fit → t.heads s = (t.pre s d).filterMap hdOf := by
  induction t using Tm.ind with
  | h b k i a ih =>
    intro s d hf
    obtain ⟨hi0, hi1, hfa⟩ := Tm.fit_iff.1 hf
    rw [Tm.pre_eq, Tm.heads_eq _ _ _ _ _ ((s + b.length : Nat) : Int) (by simp), List.filterMap_cons, heads_pres_of ih _ _ hfa]
    have e : hdOf (s + b.length, d, .mk b k i a) = if k ≠ 0 then some (k, i) else if ((s + b.length : Nat) : Int) ≤ i then some (0, IntKind.i64.wrap (i - ((s + b.length : Nat) : Int))) else none := rfl
    rw [e]
    by_cases hk : k = 0
    · have hk' : ¬ (k ≠ 0) := by simpa using hk
      by_cases h : ((s + b.length : Nat) : Int) ≤ i
      · have hw : IntKind.i64.wrap (i - ((s + b.length : Nat) : Int)) = i - ((s + b.length : Nat) : Int) := IntWalk.i64_in _ (by omega)
        simp only [if_neg hk', if_pos h, hw]; rfl
      · simp only [if_neg hk', if_neg h]; rfl
    · simp only [if_pos hk]; rfl

end Go.Proofs.YtdmiekaeodcehaaGreat

namespace Go.Proofs.YtdmiekaeodcehaaGreat
open Go.RowKit

def sortU (zs : List Int) : List Int := Lib.compact (zs.mergeSort fun x y => decide (x ≤ y))

theorem keeps_zero (d : Array Int) : Lib.keeps d 0 = true := by simp [Lib.keeps]
theorem upTo_rises (d : Array Int) : ∀ m, m ≤ d.size → (∀ i j, i ≤ j → j < d.size → d[i]! ≤ d[j]!) → (Lib.compactUpTo d m).Pairwise (· < ·) ∧ (∀ x ∈ Lib.compactUpTo d m, ∃ j, j < m ∧ d[j]! = x) ∧ (∀ j, j < m → d[j]! ∈ Lib.compactUpTo d m) := by
  intro m
  induction m with
  | zero => intro _ _; simp [Lib.compactUpTo]
  | succ m ih =>
    intro hm hs
    obtain ⟨h1, h2, h3⟩ := ih (by omega) hs
    rw [Lib.compactUpTo_succ]
    by_cases hk : Lib.keeps d m = true
    · rw [if_pos hk]
      refine ⟨?_, ?_, ?_⟩
      · rw [List.pairwise_append]
        refine ⟨h1, by simp, fun a ha b hb => ?_⟩
        obtain ⟨j, hj, rfl⟩ := h2 a ha
        simp at hb; subst hb
        have hle := hs j (m - 1) (by omega) (by omega)
        have hle2 := hs (m - 1) m (by omega) (by omega)
        have hne : d[m - 1]! ≠ d[m]! := by
          cases m with
          | zero => omega
          | succ k =>
            have : d[k + 1]! ≠ d[k]! := by simpa [Lib.keeps] using hk
            exact fun e => this e.symm
        omega
      · intro x hx
        rcases List.mem_append.1 hx with hx | hx
        · obtain ⟨j, hj, e⟩ := h2 x hx; exact ⟨j, by omega, e⟩
        · simp at hx; exact ⟨m, by omega, hx.symm⟩
      · intro j hj
        rw [List.mem_append]
        by_cases hjm : j = m
        · subst hjm; right; simp
        · left; exact h3 j (by omega)
    · rw [if_neg hk, List.append_nil]
      refine ⟨h1, fun x hx => by obtain ⟨j, hj, e⟩ := h2 x hx; exact ⟨j, by omega, e⟩, fun j hj => ?_⟩
      by_cases hjm : j = m
      · subst hjm
        cases j with
        | zero => exact absurd (keeps_zero d) hk
        | succ k =>
          have : d[k + 1]! = d[k]! := by simpa [Lib.keeps] using hk
          rw [this]; exact h3 k (by omega)
      · exact h3 j (by omega)

theorem sortU_spec (zs : List Int) : (sortU zs).Pairwise (· < ·) ∧ ∀ x, x ∈ sortU zs ↔ x ∈ zs := by
  obtain ⟨ss, hss⟩ : ∃ ss, (zs.mergeSort fun x y => decide (x ≤ y)) = ss := ⟨_, rfl⟩
  have hp : ss.Perm zs := by rw [← hss]; exact List.mergeSort_perm _ _
  have hs : ss.Pairwise (fun x y => x ≤ y) := by
    have := List.pairwise_mergeSort (le := fun x y : Int => decide (x ≤ y)) (fun a b c h1 h2 => by simp at *; omega) (fun a b => by simp; omega) zs
    rw [hss] at this
    simpa using this
  have hs' : ∀ i j, i ≤ j → j < ss.toArray.size → ss.toArray[i]! ≤ ss.toArray[j]! := by
    intro i j hij hj
    have hj' : j < ss.length := by simpa using hj
    have hi' : i < ss.length := by omega
    simp only [List.getElem!_toArray, getElem!_pos ss i hi', getElem!_pos ss j hj']
    by_cases e : i = j
    · subst e; exact Int.le_refl _
    · exact List.pairwise_iff_getElem.1 hs i j hi' hj' (by omega)
  obtain ⟨h1, h2, h3⟩ := upTo_rises ss.toArray ss.length (by simp) hs'
  unfold sortU
  rw [hss]
  refine ⟨h1, fun x => ?_⟩
  rw [← hp.mem_iff]
  constructor
  · intro hx
    obtain ⟨j, hj, e⟩ := h2 x hx
    rw [← e]
    simp only [List.getElem!_toArray, getElem!_pos ss j hj]
    exact List.getElem_mem hj
  · intro hx
    obtain ⟨j, hj, e⟩ := List.getElem_of_mem hx
    have := h3 j hj
    simp only [List.getElem!_toArray, getElem!_pos ss j hj, e] at this
    exact this
theorem rises_eq : ∀ {l r : List Int}, l.Pairwise (· < ·) → r.Pairwise (· < ·) → (∀ x, x ∈ l ↔ x ∈ r) → l = r
  | [], [], _, _, _ => rfl
  | [], b :: r, _, _, h => absurd ((h b).2 (by simp)) (by simp)
  | a :: l, [], _, _, h => absurd ((h a).1 (by simp)) (by simp)
  | a :: l, b :: r, h1, h2, h => by
    rw [List.pairwise_cons] at h1 h2
    have hab : a = b := by
      have ha := (h a).1 (by simp)
      have hb := (h b).2 (by simp)
      rcases List.mem_cons.1 ha with e | ha
      · exact e
      rcases List.mem_cons.1 hb with e | hb
      · exact e.symm
      have := h2.1 a ha; have := h1.1 b hb; omega
    subst hab
    rw [rises_eq h1.2 h2.2 fun x => ?_]
    constructor
    · intro hx
      rcases List.mem_cons.1 ((h x).1 (by simp [hx])) with e | hx'
      · have := h1.1 x hx; omega
      · exact hx'
    · intro hx
      rcases List.mem_cons.1 ((h x).2 (by simp [hx])) with e | hx'
      · have := h2.1 x hx; omega
      · exact hx'
theorem sort_own {base : Nat} {w : World} {v : Value} {zs : List Int} (h : w.ownsRow base 3 1 v zs.length (zs.map (Value.int .i64))) (hl : zs.length ≤ 1000000) :
    Calls Tryz.prog 108 #[v] w fun e w' => e = .returned (.tuple #[]) ∧ w'.ownsRow base 3 1 v zs.length ((zs.mergeSort fun x y => decide (x ≤ y)).map (Value.int .i64)) ∧ w.grownBy w' v.ownBlock := by
  by_cases hv : v = .slice none 0 0
  · subst hv
    have h0 : zs = [] := by
      rcases h.2 with ⟨_, e⟩ | ⟨_, _, _, e, _⟩
      · exact List.eq_nil_of_length_eq_zero e
      · cases e
    subst h0
    refine (Tryz.slices_Sort_int_none none 0 w).mono ?_
    rintro e w' ⟨rfl, rfl⟩
    exact ⟨rfl, by simpa using h, ⟨rfl, rfl, rfl, Nat.le_refl _, fun _ _ _ => rfl⟩⟩
  · obtain ⟨g, cap, rfl, hb, hlt, hn, hm, _, hH⟩ := Lib.holds_of_ownsRow h hv
    refine (Tryz.slices_Sort_int g 0 cap zs w hH hlt (by omega)).mono ?_
    rintro e w' ⟨rfl, n, os, rfl⟩
    refine ⟨rfl, ?_, grownBy_sortedI _⟩
    rcases h.2 with ⟨e, _⟩ | ⟨g', cap', cur, e, _, hg, _, _, hc, _⟩
    · cases e
    · cases e
      exact ownsRow_sortedI (ss := zs) (by simp) hb hg hn hm hc

theorem compact_own {base : Nat} {w : World} {v : Value} {zs : List Int} (h : w.ownsRow base 3 1 v zs.length (zs.map (Value.int .i64))) (hl : zs.length ≤ 1000000) :
    Calls Tryz.prog 109 #[v] w fun e w' => ∃ v', e = .returned v' ∧ w'.ownsRow base 3 1 v' (Lib.compact zs).length ((Lib.compact zs).map (Value.int .i64)) ∧ w.grownBy w' v.ownBlock := by
  by_cases hv : v = .slice none 0 0
  · subst hv
    have h0 : zs = [] := by
      rcases h.2 with ⟨_, e⟩ | ⟨_, _, _, e, _⟩
      · exact List.eq_nil_of_length_eq_zero e
      · cases e
    subst h0
    refine (Tryz.slices_Compact_int_empty none 0 w).mono ?_
    rintro e w' ⟨rfl, rfl⟩
    exact ⟨_, rfl, h, ⟨rfl, rfl, rfl, Nat.le_refl _, fun _ _ _ => rfl⟩⟩
  · obtain ⟨g, cap, rfl, hb, hlt, hn, hm, _, hH⟩ := Lib.holds_of_ownsRow h hv
    refine (Tryz.slices_Compact_int g 0 cap zs w hH (by omega) hn).mono ?_
    rintro e w' ⟨rfl, q, rfl⟩
    have hcl := Lib.compact_length_le zs
    refine ⟨_, rfl, ?_, ?_⟩
    · have := Lib.ownsRow_putRow (q := q) (k := (Lib.compact zs).length) (ys := Lib.compact zs ++ List.replicate (zs.length - (Lib.compact zs).length) 0) h (by simp; omega) hcl
      simpa using this
    · have := grownBy_sortedI (w := w) (g := g) (n := q) (os := #[]) (Lib.compact zs ++ List.replicate (zs.length - (Lib.compact zs).length) 0).toArray
      simpa [Value.ownBlock] using this

theorem own_ints {base : Nat} {w : World} {v : Value} {l : List Int} (h : w.ownsRow base 3 1 v l.length (l.map (Value.int .i64))) : ∃ a c, v = .slice a l.length c ∧ IsSl rpInt (fun q => base ≤ q) w v l := by
  have hA : Acc rpInt 3 base (fun _ => False) w v l := by
    refine ⟨l.map (fun z => [.int .i64 z]), by simp, ?_, fun i hi => ⟨[.int .i64 l[i]], by simp [List.getElem?_eq_getElem hi], rfl⟩⟩
    have : (l.map (fun z => [Value.int .i64 z])).flatten = l.map (Value.int .i64) := by
      clear h
      induction l with
      | nil => rfl
      | cons a l ih => simp only [List.map_cons, List.flatten_cons, ih]; rfl
    rw [this]; exact h
  obtain ⟨a, c, hv⟩ := hA.len_shape
  exact ⟨a, c, hv, hA.sl (fun _ _ h => h.elim) (fun _ h => h)⟩
end Go.Proofs.YtdmiekaeodcehaaGreat

namespace Go.Proofs.YtdmiekaeodcehaaGreat
open Go.RowKit

theorem leaves_marks {F : Fence} {n : Nat} {P : Program} {fn : Func} {tmps : Array Value} {R : Ending → World → Prop} (B : Nat) : ∀ (Ds : List Nat) (w : World), Ds.Nodup → B ≤ w.heap.size → (∀ D ∈ Ds, B ≤ D ∧ w.heap[D]? = some (.deferred (some []))) →
    (∀ w', Keep (fun _ => True) w w' → Below B w w' → LeavesIn F n P fn tmps R [] .returning w') → LeavesInM F n P fn tmps R (Ds.map fun D => { target := .collected D, args := #[] }) .returning w
  | [], w, _, _, _, hk => hk w (Keep.refl _ _) (Below.refl _ _)
  | D :: Ds, w, hd, hB, hD, hk => by
    rw [List.nodup_cons] at hd
    have h1 := hD D (by simp)
    have hlt : D < w.heap.size := (Array.getElem?_eq_some_iff.1 h1.2).1
    refine ⟨by simp, .inl ⟨D, _, rfl, run_takeDeferred h1.2, ?_⟩⟩
    have hbel : Below B w (w.putObj D (.deferred none)) := (Below.refl _ _).grown (grownBy_putObj' w D (.deferred none)) hB (fun r e => by cases e; exact h1.1)
    have hkp : Keep (fun _ => True) w (w.putObj D (.deferred none)) := fun o v k _ hv => cell_kept hv (grownBy_putObj' _ D (.deferred none)) (fun r e => by cases e; exact ⟨_, h1.2, rfl⟩)
    refine leaves_marks B Ds _ hd.2 (by simpa using hB) (fun D' hD' => ⟨(hD D' (by simp [hD'])).1, ?_⟩) fun w' hk' hb' => hk w' (hkp.trans hk') (hbel.trans hb')
    have hne : D' ≠ D := fun e => hd.1 (e ▸ hD')
    exact (World.putObj_heap_other hne).trans (hD D' (by simp [hD'])).2

theorem keepsOthers_grown {W W' : World} {row : Option Nat} (hg : W.grownBy W' row) (hr : ∀ r, row = some r → ∃ o : Obj, W.heap[r]? = some o ∧ o.isCells = true) : KeepsOthers W W' :=
  ⟨hg.size, fun k o ho hc => (hg.block k (Array.getElem?_eq_some_iff.1 ho).1 (fun e => by
    obtain ⟨o', ho', hc'⟩ := hr k e.symm
    rw [ho] at ho'; cases ho'; rw [hc] at hc'; cases hc')).trans ho⟩

theorem own_row {w : World} {base : Nat} {e : TypeId} {size : Nat} {v : Value} {n : Nat} {xs : List Value} (h : w.ownsRow base e size v n xs) : ∀ r, v.ownBlock = some r → base ≤ r ∧ ∃ cs, w.heap[r]? = some (.cells cs e (0, 0)) := by
  intro r hr
  rcases h.2 with ⟨rfl, _⟩ | ⟨g, cap, cur, rfl, hb, hg, _⟩
  · cases hr
  · cases hr; exact ⟨hb, _, hg⟩
theorem own_kept {w w' : World} {base : Nat} {e : TypeId} {size : Nat} {v : Value} {n : Nat} {xs : List Value} {row : Option Nat} (h : w.ownsRow base e size v n xs) (hg : w.grownBy w' row)
    (hr : ∀ r, row = some r → ∃ o : Obj, w.heap[r]? = some o ∧ ∀ cs, o ≠ .cells cs e (0, 0)) : w'.ownsRow base e size v n xs := by
  refine h.kept hg ?_
  cases hv : v.ownBlock with
  | none => exact .inl rfl
  | some g =>
    refine .inr fun e' => ?_
    obtain ⟨_, cs, hc⟩ := own_row h g hv
    obtain ⟨o, ho, hne⟩ := hr g e'.symm
    rw [hc] at ho; cases ho; exact hne cs rfl

structure OutAt (w : World) (Ds : List Nat) (vv : Value) (zs : List Int) (W : World) : Prop where
  box : Blk W w.heap.size #[vv] 82
  own : W.ownsRow (w.heap.size + 1) 3 1 vv zs.length (zs.map (Value.int .i64))
  nod : Ds.Nodup
  marks : ∀ D ∈ Ds, w.heap.size + 1 ≤ D ∧ W.heap[D]? = some (.deferred (some []))
  below : Below w.heap.size w W
def OutG (B k : Nat) (t : TypeId) : Prop := k < B ∨ (B < k ∧ t ≠ 3)
namespace OutAt
variable {w W W' : World} {Ds : List Nat} {vv : Value} {zs : List Int}
theorem lt (h : OutAt w Ds vv zs W) : ∀ D ∈ Ds, D < W.heap.size := fun D hD => (Array.getElem?_eq_some_iff.1 (h.marks D hD).2).1
theorem blw (h : OutAt w Ds vv zs W) (hb : Below W.heap.size W W') : OutAt w Ds vv zs W' :=
  ⟨h.box.below hb, ownsRow_below h.own hb, h.nod, fun D hD => ⟨(h.marks D hD).1, (hb.block D (h.lt D hD)).trans (h.marks D hD).2⟩, h.below.trans (hb.mono h.below.size)⟩
theorem alloc (h : OutAt w Ds vv zs W) (o : Obj) : OutAt w Ds vv zs (W.alloc o) := h.blw ((Below.refl _ _).alloc (Nat.le_refl _) _)
theorem grown {B : Nat} {row : Option Nat} (h : OutAt w Ds vv zs W) (hlt : ∀ D ∈ Ds, D < B) (hwB : w.heap.size < B) (hg : W.grownBy W' row)
    (hr : ∀ r, row = some r → B ≤ r ∧ ∃ o : Obj, W.heap[r]? = some o ∧ ∀ cs, o ≠ .cells cs 3 (0, 0)) : OutAt w Ds vv zs W' :=
  ⟨h.box.grown hg (fun e => by have := (hr _ e).1; omega), own_kept h.own hg (fun r e => (hr r e).2), h.nod,
    fun D hD => ⟨(h.marks D hD).1, (hg.block D (h.lt D hD) (fun e => by have := (hr _ e.symm).1; have := hlt D hD; omega)).trans (h.marks D hD).2⟩,
    h.below.grown hg h.below.size (fun r e => by have := (hr r e).1; omega)⟩
theorem mark (h : OutAt w Ds vv zs W) {D : Nat} (hD : W.heap[D]? = some (.deferred (some []))) (hn : ∀ D' ∈ Ds, D' < D) (hw : w.heap.size + 1 ≤ D) : OutAt w (D :: Ds) vv zs W :=
  ⟨h.box, h.own, List.nodup_cons.2 ⟨fun hm => by have := hn D hm; omega, h.nod⟩, fun D' h' => by
    rcases List.mem_cons.1 h' with rfl | h'
    · exact ⟨hw, hD⟩
    · exact h.marks D' h', h.below⟩
theorem push (h : OutAt w Ds vv zs W) (x : Int) {w3 : World} {v' : Value} (hg : (W.alloc (.cells #[.int .i64 x] 3)).grownBy w3 vv.ownBlock)
    (hown : w3.ownsRow (w.heap.size + 1) 3 1 v' (zs.length + 1) (zs.map (Value.int .i64) ++ [.int .i64 x])) :
    OutAt w Ds v' (zs ++ [x]) (w3.setCell ⟨w.heap.size, 0, none⟩ v') ∧ KeepsOthers W (w3.setCell ⟨w.heap.size, 0, none⟩ v') ∧ KeepC (OutG w.heap.size) W (w3.setCell ⟨w.heap.size, 0, none⟩ v') := by
  have ho1 := h.own.alloc (.cells #[.int .i64 x] 3)
  have h1 := h.alloc (.cells #[.int .i64 x] 3)
  have hrow := own_row ho1
  have hk3 : KeepsOthers (W.alloc (.cells #[.int .i64 x] 3)) w3 := keepsOthers_grown hg (fun r e => by
    obtain ⟨_, cs, hc⟩ := hrow r e; exact ⟨_, hc, rfl⟩)
  have hbox3 : Blk w3 w.heap.size #[vv] 82 := h1.box.grown hg (fun e => by have := (hrow _ e).1; omega)
  have hbel3 : Below w.heap.size w w3 := h1.below.grown hg h1.below.size (fun r e => by have := (hrow r e).1; omega)
  have hkc : KeepC (OutG w.heap.size) (W.alloc (.cells #[.int .i64 x] 3)) w3 := ⟨hg.size, fun k cs t fr hk hc => (hg.block k (Array.getElem?_eq_some_iff.1 hc).1 (fun e => by
    obtain ⟨hle, cs', hc'⟩ := hrow k e.symm
    rw [hc] at hc'; cases hc'
    rcases hk with hk | hk
    · omega
    · exact hk.2 rfl)).trans hc⟩
  refine ⟨⟨hbox3.set 0 _, ?_, h.nod, fun D hD => ⟨(h1.marks D hD).1, ?_⟩, hbel3.setCell (by simp) _⟩, (((KeepsOthers.alloc W _).trans hk3).trans (KeepsOthers.setCell _ _ _)), ?_⟩
  · have := ownsRow_setCell_below hown (a := ⟨w.heap.size, 0, none⟩) (by simp) v'
    simpa using this
  · exact (KeepsOthers.setCell w3 _ v').same D _ (hk3.same D _ (h1.marks D hD).2 rfl) rfl
  · exact (((KeepC.refl _ W).alloc _).trans hkc).setCell _ _ (fun t ht => by rcases ht with h | h <;> simp at h)
theorem push_box (h : OutAt w Ds vv zs W) {x : Int} {w3 : World} (hg : (W.alloc (.cells #[.int .i64 x] 3)).grownBy w3 vv.ownBlock) : Blk w3 w.heap.size #[vv] 82 :=
  (h.alloc (.cells #[.int .i64 x] 3)).box.grown hg (fun e => by have := (own_row (h.own.alloc (.cells #[.int .i64 x] 3)) _ e).1; omega)
theorem turned (h : OutAt w Ds vv zs W) {ys : List Int} {W' : World} (hg : W.grownBy W' vv.ownBlock) {v' : Value} (hown : W'.ownsRow (w.heap.size + 1) 3 1 v' ys.length (ys.map (Value.int .i64))) :
    (Blk W' w.heap.size #[vv] 82 ∧ ∀ D ∈ Ds, w.heap.size + 1 ≤ D ∧ W'.heap[D]? = some (.deferred (some []))) ∧ Below w.heap.size w W' := by
  have hrow := own_row h.own
  refine ⟨⟨h.box.grown hg (fun e => by have := (hrow _ e).1; omega), fun D hD => ⟨(h.marks D hD).1, ?_⟩⟩, h.below.grown hg h.below.size (fun r e => by have := (hrow r e).1; omega)⟩
  refine (hg.block D (h.lt D hD) (fun e => ?_)).trans (h.marks D hD).2
  obtain ⟨_, cs, hc⟩ := hrow D e.symm
  rw [(h.marks D hD).2] at hc; cases hc
theorem sorted (h : OutAt w Ds vv zs W) {ys : List Int} {W' : World} (hg : W.grownBy W' vv.ownBlock) (hown : W'.ownsRow (w.heap.size + 1) 3 1 vv ys.length (ys.map (Value.int .i64))) : OutAt w Ds vv ys W' :=
  let q := h.turned hg hown
  ⟨q.1.1, hown, h.nod, q.1.2, q.2⟩
theorem leave (h : OutAt w Ds vv zs W) {ys : List Int} {W' : World} (hg : W.grownBy W' vv.ownBlock) {v' : Value} (hown : W'.ownsRow (w.heap.size + 1) 3 1 v' ys.length (ys.map (Value.int .i64)))
    {F : Fence} {n : Nat} {P : Program} {fn : Func} {tmps : Array Value} (hr : ∀ w3 : World, (results fn tmps).run P w3 = .ok v' w3) :
    LeavesInM F n P fn tmps (FreshInts ys w) (Ds.map fun D => { target := .collected D, args := #[] }) .returning W' := by
  obtain ⟨⟨hb, hm⟩, hbel⟩ := h.turned hg hown
  refine leaves_marks (w.heap.size + 1) Ds W' h.nod (by have := hb.lt; omega) hm (fun w3 hk hb3 => ?_)
  obtain ⟨a, c, hv, hs⟩ := own_ints hown
  subst hv
  exact ⟨_, hr w3, a, c, rfl, (hs.keep (fun k o u _ hu => hk k o u trivial hu)).weaken (by decide) (fun q _ hq => by omega), hbel.trans (hb3.mono (by omega))⟩
end OutAt
end Go.Proofs.YtdmiekaeodcehaaGreat

namespace Go.Proofs.YtdmiekaeodcehaaGreat
open Go.RowKit Go.Shelf
attribute [local go_sem] Oper.semAt_some

theorem tms_cells {F : Nat → Prop} {w : World} {v : Value} {l : List Tm} (h : IsSl rpTm F w v l) : ∃ a c, v = .slice a l.length c ∧ (l.length ≤ maxLen ∧ l.length ≤ c) ∧ ∃ (bl off : Nat),
    (0 < l.length → a = some ⟨bl, off, none⟩ ∧ F bl) ∧ ∀ j (hj : j < l.length), ∃ b k i s, w.cell? ⟨bl, off + j * 4, none⟩ = some b ∧ w.cell? ⟨bl, off + j * 4 + 1, none⟩ = some k ∧ w.cell? ⟨bl, off + j * 4 + 2, none⟩ = some i ∧ w.cell? ⟨bl, off + j * 4 + 3, none⟩ = some s ∧ IsTm F w b k i s l[j] := by
  obtain ⟨a, c, bl, off, X, hv, hm, ha, h1, h2⟩ := h
  refine ⟨a, c, hv, hm, bl, off, ha, fun j hj => ?_⟩
  obtain ⟨b, k, i, s, hx, ht⟩ := h2 j hj
  exact ⟨b, k, i, s, h1 j 0 b hj (by rw [hx]; rfl), h1 j 1 k hj (by rw [hx]; rfl), h1 j 2 i hj (by rw [hx]; rfl), h1 j 3 s hj (by rw [hx]; rfl), ht⟩

def metasH (l : List (Int × Int)) : List Int := l.filterMap fun p => if p.1 = 2 then some p.2 else none
def metasP (l : List (Nat × Nat × Tm)) : List Int := l.filterMap fun p => if p.2.2.kind = 2 then some p.2.2.index else none
def metasL (l : List Tm) : List Int := l.flatMap fun t => metasP (t.pre 0 1)
theorem metasL_take (l : List Tm) (j : Nat) (h : j < l.length) : metasL (l.take (j + 1)) = metasL (l.take j) ++ metasP (l[j].pre 0 1) := by
  rw [List.take_succ_eq_append_getElem h]; unfold metasL; rw [List.flatMap_append]; simp
theorem metasL_len (l : List Tm) (m : Nat) (h : ∀ t ∈ l, t.full ≤ m) : (metasL l).length ≤ l.length * m := by
  induction l with
  | nil => simp [metasL]
  | cons t l ih =>
    have h1 := h t (by simp)
    have h2 := ih (fun u hu => h u (by simp [hu]))
    have h3 : (metasL (t :: l)).length = (metasP (t.pre 0 1)).length + (metasL l).length := by simp [metasL]
    have h4 : (metasP (t.pre 0 1)).length ≤ (t.pre 0 1).length := List.length_filterMap_le _ _
    rw [Tm.pre_length] at h4
    have h5 := Tm.size_le_full t
    rw [h3, List.length_cons, Nat.succ_mul]; omega
theorem metasH_pre (t : Tm) (hf : t.Fit) : metasH (t.heads 0) = metasP (t.pre 0 1) := by
  have e := heads_pre t 0 1 hf
  rw [show t.heads 0 = t.heads ((0 : Nat) : Int) from rfl, e]
  unfold metasH metasP
  rw [List.filterMap_filterMap]
  congr 1
  funext p
  unfold hdOf
  by_cases h0 : p.2.2.kind = 0
  · by_cases h1 : (p.1 : Int) ≤ p.2.2.index
    · simp [h0, h1]
    · simp [h0, h1]
  · simp [h0]

set_option maxRecDepth 100000 in
set_option maxHeartbeats 4000000 in
theorem metas6_k {F : Nat → Prop} {w : World} {v : Value} {l : List Tm} (h : IsSl rpTm F w v l) (hl : l.length ≤ 9) (hsz : ∀ t ∈ l, t.full ≤ 90000) : Calls Tryz.prog 66 #[v] w (FreshInts (sortU (metasL l)) w) := by
  refine (callsIn_wide (n := 9)).1 ?_
  have Ht := Lib.hid (h.weaken (F' := fun _ => True) (by decide) fun _ _ _ => trivial)
  obtain ⟨a, c, rfl, hm, bl, off, ha, hc⟩ := tms_cells Ht.out
  obtain ⟨ll, hll⟩ : ∃ x, l.length = x := ⟨_, rfl⟩
  clear h Ht
  have Hm := Lib.hid hm; clear hm
  have Hc := Lib.hid hc; clear hc
  have Hsz := Lib.hid hsz; clear hsz
  rw [hll] at ha hl ⊢
  obtain ⟨i2, hi2, hz0, hz1, hz2⟩ := info_parts infoI
  refine callsIn_of_wp_marks Tryz.func66 rfl trivial ?_ rfl
  simp only [Tryz.ntmps66, List.size_toArray, List.length_cons, List.length_nil, Nat.reduceAdd, Nat.reduceSub, Array.replicate_succ, Array.replicate_zero, List.push_toArray, List.append_toArray, List.nil_append, List.cons_append]
  gi_wp2_with fail
  refine wpIn_loop (fun a' w' => ∃ (j : Nat) (Ds : List Nat) (zs : List Int) (vv u5 u11 u12 u13 u14 u15 u28 : Value), a' = { tmps := #[.slice a ll c, undef, .slice none 0 0, .pointer (some ⟨w.heap.size, 0, none⟩), undef, u5, undef, undef, .slice a ll c, .int .i64 ll, .int .i64 j, u11, u12, u13, u14, u15, undef, undef, undef, undef, undef, undef, undef, undef, undef, undef, undef, undef, u28, undef, undef, undef, undef], defers := Ds.map fun D => { target := .collected D, args := #[] } } ∧
      j ≤ ll ∧ Hid (zs = metasL (l.take j)) ∧ OutAt w Ds vv zs w') (fun a' _ => ll - (intOf (a'.tmps.getD 10 undef)).toNat) ?start ?round
  case start =>
    refine ⟨0, [], [], .slice none 0 0, undef, undef, undef, undef, undef, undef, undef, rfl, by omega, by show _ = _; simp [metasL], ?_⟩
    exact ⟨Blk.new _ _ _ rfl, World.ownsRow_nil _ _ _ _, by simp, by simp, (Below.refl _ _).alloc (Nat.le_refl _) _⟩
  case round =>
    rintro a' W ⟨j, Ds, zs, vv, u5, u11, u12, u13, u14, u15, u28, rfl, hj, hzs, hO⟩
    have hj0 : (0 : Int) ≤ (j : Int) := Int.natCast_nonneg _
    have HO := Lib.hid hO; clear hO
    by_cases hlt : j < ll
    · have hj1 : (j : Int) < (ll : Int) := by omega
      obtain ⟨rfl, _⟩ := ha (by omega)
      obtain ⟨vb, vk, vi, vs, e1, e2, e3, e4, hty⟩ := Hc.out j (by omega)
      have hW := HO.out.below
      have e1 := ((Keep.refl (fun _ => True) _).below hW) _ _ _ trivial e1
      have e2 := ((Keep.refl (fun _ => True) _).below hW) _ _ _ trivial e2
      have e3 := ((Keep.refl (fun _ => True) _).below hW) _ _ _ trivial e3
      have e4 := ((Keep.refl (fun _ => True) _).below hW) _ _ _ trivial e4
      have Htk := Lib.hid (metasL_take l j (by omega))
      have hts := Hsz.out l[j] (List.getElem_mem _)
      obtain ⟨t, ht⟩ : ∃ t, l[j] = t := ⟨_, rfl⟩
      rw [ht] at hty Htk hts
      clear ht
      obtain ⟨pa, pc, qa, qc, rfl, rfl, rfl, rfl⟩ := hty.shape
      have Hty := Lib.hid hty; clear hty
      obtain ⟨x1, hx1⟩ : ∃ x, t.binds.length = x := ⟨_, rfl⟩
      obtain ⟨x2, hx2⟩ : ∃ x, t.args.length = x := ⟨_, rfl⟩
      obtain ⟨x3, hx3⟩ : ∃ x, t.kind = x := ⟨_, rfl⟩
      obtain ⟨x4, hx4⟩ : ∃ x, t.index = x := ⟨_, rfl⟩
      rw [hx1, hx2, hx3, hx4] at Hty
      rw [hx1] at e1
      rw [hx3] at e2
      rw [hx4] at e3
      rw [hx2] at e4
      clear hx1 hx2 hx3 hx4
      gi_wp2_with fail
      refine ⟨trivial, (each6_k _ _ _ _ _ _ ⟨_, _, _, rfl⟩ ⟨_, rfl⟩ ⟨_, rfl⟩ ⟨_, _, _, rfl⟩).mono ?_⟩
      rintro e w' ⟨rfl, rfl⟩
      gi_wp2_with fail
      have HO5 := Lib.hid ((HO.out.alloc (.cells #[.slice pa x1 pc, .int .i64 x3, .int .i64 x4, .slice qa x2 qc] 36)).alloc (.cells #[.slice pa x1 pc, .int .i64 x3, .int .i64 x4, .slice qa x2 qc] 36))
      obtain ⟨w5, hw5⟩ : ∃ w5, (W.alloc (.cells #[.slice pa x1 pc, .int .i64 x3, .int .i64 x4, .slice qa x2 qc] 36)).alloc (.cells #[.slice pa x1 pc, .int .i64 x3, .int .i64 x4, .slice qa x2 qc] 36) = w5 := ⟨_, rfl⟩
      have hz : w5.heap.size = W.heap.size + 2 := by rw [← hw5]; simp
      have y3 : Blk w5 (W.heap.size + 1) #[.slice pa x1 pc, .int .i64 x3, .int .i64 x4, .slice qa x2 qc] 36 := by rw [← hw5]; exact Blk.new _ _ _ (by simp)
      rw [hw5] at HO5 ⊢
      clear hw5
      have hsz1 := HO.out.box.lt
      have hlts := HO.out.lt
      clear HO
      have Hlts : Hid (∀ D ∈ Ds, D < w5.heap.size) := fun D hD => by have := hlts D hD; omega
      clear hlts
      refine range_softA (Ok := SpotOk) (fun o h => .inl h) rfl (by omega) (gf := 125) (lb := #[.pointer (some ⟨W.heap.size + 1, 0, none⟩)]) rfl trivial (enters_of Tryz.func125 (by kernel_rfl) rfl)
        (each6_soft (OutG w.heap.size) (fun k _ _ hk => .inl hk) Hty.out (by omega) (9 - 1) w5 (fun k _ hk ht => .inr ⟨by omega, ht⟩) ((Keep.refl _ _).below HO5.out.below) (W.heap.size + 1) y3)
        (fun h h' => h.trans h') (fun W l o o' _ hl ho _ => KeepC.putObj _ W l o o' hl ho) (Below.refl _ _) (fun _ => rfl)
        (fun pre V => ∃ v', OutAt w Ds v' (zs ++ metasP (pre.map Hit6.key)) V)
        (fun _ _ _ => False)
        (fun pre A B row ⟨v', h⟩ hg hr => ⟨v', h.grown Hlts.out (by omega) hg (fun r e => by
          obtain ⟨h1, o, ho, hc⟩ := hr r e
          refine ⟨h1, o, ho, fun cs e => ?_⟩
          subst e
          rcases hc with hc | ⟨cs', fr, hc⟩
          · simp [Obj.isCells] at hc
          · cases hc)⟩)
        (fun _ _ _ _ _ hs _ _ => hs)
        ⟨vv, by simpa [metasP] using HO5.out⟩
        (fun x a' V => ∃ Bx, Blk V Bx #[.slice x.pb x.t.binds.length x.cb, .int .i64 x.t.kind, .int .i64 x.t.index, .slice x.pa x.t.args.length x.ca] 36 ∧ a' = { tmps := #[.slice (some ⟨bl, off, none⟩) ll c, undef, .slice none 0 0, .pointer (some ⟨w.heap.size, 0, none⟩), undef, .pointer (some ⟨W.heap.size, 0, none⟩), undef, .pointer (some ⟨Bx, 0, none⟩), .slice (some ⟨bl, off, none⟩) ll c, .int .i64 ll, .int .i64 j, .bool true, .pointer (some ⟨bl, off + j * 4, none⟩), .agg #[.slice pa x1 pc, .int .i64 x3, .int .i64 x4, .slice qa x2 qc], .agg #[.slice pa x1 pc, .int .i64 x3, .int .i64 x4, .slice qa x2 qc], .func (.func 125) #[] #[.pointer (some ⟨W.heap.size + 1, 0, none⟩)], .agg #[.int .i64 x.s, .int .i64 x.d], .agg #[.slice x.pb x.t.binds.length x.cb, .int .i64 x.t.kind, .int .i64 x.t.index, .slice x.pa x.t.args.length x.ca], undef, undef, undef, undef, undef, undef, undef, undef, undef, undef, u28, undef, undef, undef, undef], defers := [] })
        (fun x a' W l o o' hl ho hoc => by
          rintro ⟨Bx, h2, h3⟩
          have hne : l ≠ Bx := fun e => by
            subst e
            have hb : W.heap[l]? = _ := h2
            rw [hb] at ho; cases ho; simp [Obj.isCells] at hoc
          exact ⟨Bx, (World.putObj_heap_other (Ne.symm hne)).trans h2, h3⟩) ?assign ?body ?done ?stop
      case assign =>
        rintro l pre x V K ⟨v', hV⟩ hK
        have HK := Lib.hid hK; clear hK
        have HV := Lib.hid hV; clear hV
        simp only [Hit6.enc] at *
        gi_wp2
        exact HK.out _ _ ((KeepsOthers.alloc _ _).from _) ((KeepC.refl _ V).alloc _) ⟨v', HV.out.alloc _⟩ ⟨V.heap.size, Blk.new _ _ _ rfl, rfl⟩
      case body =>
        rintro l' pre x a' V ⟨v', hV⟩ hlt' ⟨Bx, bX, rfl⟩
        have c1 : V.cell? ⟨w.heap.size, 0, none⟩ = some v' := hV.box.cell rfl
        have cx1 : V.cell? ⟨Bx, 1, none⟩ = some (.int .i64 x.t.kind) := bX.cell rfl
        have cx2 : V.cell? ⟨Bx, 2, none⟩ = some (.int .i64 x.t.index) := bX.cell rfl
        have hlen0 : (zs ++ metasP (pre.map Hit6.key)).length ≤ 900000 := by
          have h1 : (metasL (l.take j)).length ≤ 720000 := by
            have := metasL_len (l.take j) 90000 (fun t ht => Hsz.out t (List.mem_of_mem_take ht))
            have h2 : (l.take j).length ≤ 8 := by simp; omega
            exact Nat.le_trans this (Nat.le_trans (Nat.mul_le_mul_right 90000 h2) (by decide))
          have h2 : (metasP (pre.map Hit6.key)).length ≤ pre.length := by
            have := List.length_filterMap_le (fun p : Nat × Nat × Tm => if p.2.2.kind = 2 then some p.2.2.index else none) (pre.map Hit6.key)
            simpa [metasP] using this
          have h3 := Tm.size_le_full t
          rw [hzs.out, List.length_append]
          omega
        have hkey : metasP ((pre ++ [x]).map Hit6.key) = metasP (pre.map Hit6.key) ++ (if x.t.kind = 2 then [x.t.index] else []) := by
          unfold metasP
          rw [List.map_append, List.filterMap_append]
          congr 1
          by_cases hk : x.t.kind = 2
          · simp [Hit6.key, hk]
          · simp [Hit6.key, hk]
        have hkey2 : zs ++ metasP ((pre ++ [x]).map Hit6.key) = (zs ++ metasP (pre.map Hit6.key)) ++ (if x.t.kind = 2 then [x.t.index] else []) := by rw [hkey, List.append_assoc]
        clear hkey
        obtain ⟨zp, hzp⟩ : ∃ zp, zs ++ metasP (pre.map Hit6.key) = zp := ⟨_, rfl⟩
        rw [hzp] at hV hkey2 hlen0
        obtain ⟨kk, hkk⟩ : ∃ k, x.t.kind = k := ⟨_, rfl⟩
        obtain ⟨ii, hii⟩ : ∃ k, x.t.index = k := ⟨_, rfl⟩
        rw [hkk, hii] at hkey2
        rw [hkk] at cx1 ⊢
        rw [hii] at cx2 ⊢
        clear hzp hkk hii
        have HV := Lib.hid hV; clear hV
        have hsz3 := HV.out.below.size
        have f0 := HV.out.box.free 0
        by_cases hk : kk = 2
        · subst hk
          rw [if_pos rfl] at hkey2
          have Hkey := Lib.hid hkey2; clear hkey2
          gi_wp2_with (gi_at_builtin; refine wpListIn_append_own _ rfl _ _ 82 rfl (w.heap.size + 1) 3 i2 _ 1 8 Tryz.underlying82 hi2 hz0 hz1 hz2 rfl (by decide) v' zp.length (zp.map (Value.int .i64)) rfl (HV.out.own.alloc _) ⟨V.heap.size, 0, none⟩ 1 1 [.int .i64 ii] rfl rfl (fun jj u hu => by
              cases jj with
              | zero => simp at hu; subst hu; exact (Blk.new V #[.int .i64 ii] 3 rfl).cell rfl
              | succ _ => simp at hu) (by simp [Value.oneCell']) (by simp [maxLen]; omega) (by omega) (by have := HV.out.box.lt; simp; omega) ?_; intro v2 w3 hown3 hg3 hnil3; have Hg3 := Lib.hid hg3; obtain ⟨g3, cap3, rfl⟩ := ownsRow_succ hown3; have Hown3 := Lib.hid hown3; clear hown3 hg3 hnil3; have c3 := (HV.out.push_box Hg3.out).cell (i := 0) rfl; have f3 := (HV.out.push_box Hg3.out).free 0)
          obtain ⟨q1, q2, q3⟩ := HV.out.push ii Hg3.out Hown3.out
          exact ⟨q2.from _, q3, _, by rw [Hkey.out]; exact q1⟩
        · rw [if_neg hk, List.append_nil] at hkey2
          have Hkey := Lib.hid hkey2; clear hkey2
          have hk' : (kk == 2) = false := by simpa using hk
          gi_wp2
          exact ⟨(KeepsOthers.refl _).from _, KeepC.refl _ _, _, by rw [Hkey.out]; exact HV.out⟩
      case done =>
        rintro D ys V hD hys ⟨v', hV⟩ hK
        have hV2 := hV.mark hK (fun D' h' => by have := Hlts.out D' h'; omega) (by omega)
        have Hz : Hid (zs ++ metasP (ys.map Hit6.key) = metasL (l.take (j + 1))) := by show _ = _; rw [hys, Htk.out, hzs.out]
        rw [Hz.out] at hV2
        clear hV hK hys
        have HV := Lib.hid hV2; clear hV2
        gi_wp2_with fail
        refine ⟨⟨j + 1, D :: Ds, _, v', _, _, _, _, _, _, _, rfl, by omega, rfl, HV.out⟩, ?_⟩
        simp [intOf]; omega
      case stop =>
        rintro D cc pre V _ _ h _
        exact h.elim
    · have hO := HO.out
      have hz2 : zs = metasL l := by rw [hzs.out, List.take_of_length_le (by omega)]
      have hlen : zs.length ≤ 1000000 := by
        have := metasL_len l 90000 Hsz.out
        rw [hz2]
        exact Nat.le_trans this (Nat.le_trans (Nat.mul_le_mul_right 90000 (show l.length ≤ 9 by omega)) (by decide))
      have c1 : W.cell? ⟨w.heap.size, 0, none⟩ = some vv := hO.box.cell rfl
      clear hO
      gi_wp2_with fail
      refine ⟨trivial, (callsIn_wide.2 (sort_own (base := w.heap.size + 1) HO.out.own hlen)).mono ?_⟩
      rintro e W2 ⟨rfl, hown2, hg2⟩
      have hl2 := List.length_mergeSort (le := fun x y : Int => decide (x ≤ y)) zs
      have HO2 := Lib.hid (HO.out.sorted hg2 (by rw [hl2]; exact hown2))
      clear HO hown2 hg2
      have c2 : W2.cell? ⟨w.heap.size, 0, none⟩ = some vv := HO2.out.box.cell rfl
      gi_wp2_with fail
      refine ⟨trivial, (callsIn_wide.2 (compact_own (base := w.heap.size + 1) HO2.out.own (by rw [hl2]; exact hlen))).mono ?_⟩
      rintro e W3 ⟨v', rfl, hown3, hg3⟩
      have Hown3 := Lib.hid hown3; have Hg3 := Lib.hid hg3
      clear hown3 hg3
      gi_wp2_with fail
      have h := HO2.out.leave Hg3.out Hown3.out (F := Fence.wide) (n := 9) (P := Tryz.prog) (fn := Tryz.f66) (tmps := #[.slice a ll c, undef, v', .pointer (some ⟨w.heap.size, 0, none⟩), undef, u5, undef, undef, .slice a ll c, .int .i64 ll, .int .i64 j, .bool false, u12, u13, u14, u15, undef, undef, undef, undef, undef, undef, undef, undef, undef, undef, undef, undef, u28, vv, .tuple #[], vv, v']) (fun w3 => results_tmp (t := 2) rfl _ _ w3)
      rw [hz2] at h
      exact h
end Go.Proofs.YtdmiekaeodcehaaGreat

namespace Go.Proofs.YtdmiekaeodcehaaGreat
open Go.RowKit
theorem metas_d (l : List Tm) (hl : l.length ≤ 9) (hz : ∀ t ∈ l, t.full ≤ 90000) : PureC Tryz.prog 66 [.sl 4 (eTms l) none] (.sl 1 (eIs (sortU (metasL l))) none) := by
  refine pure_below (by kernel_rfl) fun m Im w vs hv => ?_
  match vs, hv with
  | [x], hv =>
    have hs : IsSl rpTm (fun _ => True) w x l := (sl_of_rel (r := rpTm) (e := eTm) eTm_len (fun x t hx _ => tm_of_rel t hx) (by decide) (by rw [eTms_map] at hv; exact hv.1)).weaken (by decide) fun _ _ _ => trivial
    refine (metas6_k hs hl hz).mono ?_
    rintro e w' ⟨a, c, rfl, h1, h2⟩
    refine ⟨_, rfl, h2, fun Im' _ hI => ?_⟩
    exact rel_of_sl (r := rpInt) (e := fun i => [.v (.int .i64 i)]) (fun b o v hq hc => hI b o v hq hc) (fun _ => rfl) (fun x a h => by
      have : x = [.int .i64 a] := h
      subst this; exact ⟨.v _, trivial⟩) h1

def fidx (P : Int → Bool) (l : List Int) : Int := match l.findIdx? P with | some i => (i : Int) | none => -1
theorem fidx_at {P : Int → Bool} {l : List Int} {i : Nat} (h : i < l.length) (h1 : P l[i] = true) (h2 : ∀ j (h : j < l.length), j < i → P l[j] = false) : fidx P l = i := by
  have : l.findIdx? P = some i := List.findIdx?_eq_some_iff_getElem.2 ⟨h, h1, fun j hj => by rw [h2 j (by omega) hj]; simp⟩
  rw [fidx, this]
theorem fidx_no {P : Int → Bool} {l : List Int} (h2 : ∀ j (h : j < l.length), P l[j] = false) : fidx P l = -1 := by
  have : l.findIdx? P = none := List.findIdx?_eq_none_iff.2 fun x hx => by
    obtain ⟨i, hi, rfl⟩ := List.getElem_of_mem hx
    exact h2 i hi
  rw [fidx, this]
theorem fidx_any (P : Int → Bool) (l : List Int) : decide (fidx P l ≥ 0) = l.any P := by
  rw [fidx]
  cases h : l.findIdx? P with
  | some i =>
    obtain ⟨h1, h2, _⟩ := List.findIdx?_eq_some_iff_getElem.1 h
    rw [List.any_eq_true.2 ⟨_, List.getElem_mem h1, h2⟩]
    simp
  | none =>
    rw [List.any_eq_false.2 fun x hx => by simp [List.findIdx?_eq_none_iff.1 h x hx]]
    simp
namespace Li
def lo (t : Tm) : Bool := decide ((t.looses 0).foldl looseL 0 > 0)
def rt (t : Tm) : Bool := decide (t.size ≤ 5000 ∧ t.depth ≤ 60)
def may (L R : Tm) (M B : List Ty) : Int :=
  if (lo L || lo R) = true then 1
  else if ((sortU (metasL [L, R])).any fun x => decide (x < 0 ∨ (M.length : Int) ≤ x)) = true then 10
  else if (decide ((B.length : Int) > 900) || (!rt L || !rt R)) = true then 2 else 0
def done (p : Pr) : Pr × Int := if (rt p.l && rt p.r) = true then (p, 0) else (.z, 2)
def cl (t : Tm) (B : List Ty) : Tm := .mk (B ++ t.binds) t.kind t.index t.args
def arr (B : List Ty) (t : Ty) : Ty := .mk (B ++ t.args) t.base
def up (p : Pr) (B : List Ty) : Pr := ⟨lif B p.l 0, lif B p.r 0, p.m.map (arr B)⟩
def over (p : Pr) (B : List Ty) : Pr × Int := if may p.l p.r p.m B ≠ 0 then (.z, may p.l p.r p.m B) else done (up p B)
def clP (p : Pr) (B : List Ty) : Pr := ⟨cl p.l B, cl p.r B, p.m⟩
def closed (p : Pr) (B : List Ty) : Pr × Int := if (over p B).2 ≠ 0 then (.z, (over p B).2) else done (clP (over p B).1 B)
end Li
theorem nodup_le : ∀ (l m : List Int), l.Nodup → (∀ x ∈ l, x ∈ m) → l.length ≤ m.length
  | [], m, _, _ => Nat.zero_le _
  | x :: l, m, h1, h2 => by
    have hx := h2 x (by simp)
    have := nodup_le l (m.erase x) (List.nodup_cons.1 h1).2 fun y hy => (List.mem_erase_of_ne fun e => (List.nodup_cons.1 h1).1 (by rw [← e]; exact hy)).2 (h2 y (by simp [hy]))
    rw [List.length_erase_of_mem hx] at this
    have := List.length_pos_of_mem hx
    simp; omega
theorem sortU_len (l : List Int) : (sortU l).length ≤ l.length :=
  nodup_le _ _ ((sortU_spec l).1.imp fun h => by omega) fun x h => ((sortU_spec l).2 x).1 h
end Go.Proofs.YtdmiekaeodcehaaGreat

namespace Go.Proofs.YtdmiekaeodcehaaGreat
open Go.RowKit
def eBd (b : Pn.Bd) : List (Int × D) := b.map fun p => (p.1, .ag (eTm p.2))
@[simp] theorem eBd_ok (f g : Nat → Bool) (b : Pn.Bd) : D.okm f g (eBd b) = true := okm_map _ b fun p _ => by simp [D.ok, eTm_ok]
end Go.Proofs.YtdmiekaeodcehaaGreat

namespace Go.Proofs.YtdmiekaeodcehaaGreat
open Go.RowKit

namespace Pn
end Pn

end Go.Proofs.YtdmiekaeodcehaaGreat

namespace Go.Proofs.YtdmiekaeodcehaaGreat
open Go.RowKit

section
variable {P : Program} {T : List (Nat × TI)} {cx : Cx} {Fr : Nat → Prop} {m : Mp} {Im : Nat → Nat → Prop} {w w' : World} {a : Act} {σ σ' : List (Key × D)}
theorem St.drew (h : St cx Fr m Im w a σ) : St cx Fr m Im w.drew a σ := h.below0 (Below.refl _ _).drew
end

section
variable {P : Program} {T : List (Nat × TI)} {cx : Cx} {m : Mp} {Im : Nat → Nat → Prop} {w : World} {a : Act} {σ : List (Key × D)} {ops : Array Oper} {Q : Exit → Act → World → Prop}
end
end Go.Proofs.YtdmiekaeodcehaaGreat

namespace Go.Proofs.YtdmiekaeodcehaaGreat
open Go.RowKit
def ePP (p : Tm × Tm) : List D := eTm p.1 ++ eTm p.2
def ePPs (l : List (Tm × Tm)) : List (List D) := l.map ePP
theorem ePP_eq (p : Tm × Tm) : ePP p = [.sl 2 (eTys p.1.binds) none, .v (.int .i64 p.1.kind), .v (.int .i64 p.1.index), .sl 4 (eTms p.1.args) none, .sl 2 (eTys p.2.binds) none, .v (.int .i64 p.2.kind), .v (.int .i64 p.2.index), .sl 4 (eTms p.2.args) none] := by unfold ePP; rw [eTm_eq, eTm_eq]; rfl
@[simp] theorem ePPs_ok (f g : Nat → Bool) (l : List (Tm × Tm)) : D.okss f g (ePPs l) = true := D.okss_map _ l fun p _ => by simp [ePP_eq, D.oks, D.ok, eTms_ok, eTys_ok]
namespace Pn
end Pn
end Go.Proofs.YtdmiekaeodcehaaGreat

namespace Go.Proofs.YtdmiekaeodcehaaGreat
open Go.RowKit
/-! the examples -/
def mb (i : Int) : Tm := .mk [] 0 i []
def mc (i : Int) (l : List Tm) : Tm := .mk [] 1 i l
end Go.Proofs.YtdmiekaeodcehaaGreat

namespace Go.Proofs.YtdmiekaeodcehaaGreat
open Go.RowKit

end Go.Proofs.YtdmiekaeodcehaaGreat

namespace Go.Proofs.YtdmiekaeodcehaaGreat
open Go.RowKit
end Go.Proofs.YtdmiekaeodcehaaGreat

namespace Go.Proofs.YtdmiekaeodcehaaGreat
open Go.RowKit

end Go.Proofs.YtdmiekaeodcehaaGreat

namespace Go.Proofs.YtdmiekaeodcehaaGreat
open Go.RowKit
end Go.Proofs.YtdmiekaeodcehaaGreat

namespace Go.Proofs.YtdmiekaeodcehaaGreat
open Go.RowKit

end Go.Proofs.YtdmiekaeodcehaaGreat

namespace Go.Proofs.YtdmiekaeodcehaaGreat
open Go.RowKit
end Go.Proofs.YtdmiekaeodcehaaGreat

namespace Go.Proofs.YtdmiekaeodcehaaGreat
open Go.RowKit
/-! the example -/
namespace Li
def kA : Ty := .mk [] 0
def kX : Tm := .mk [] 2 0 []
def kC : Tm := .mk [] 1 0 [kX]
end Li
/-! the law -/
theorem sizes_le22 {l : List Ty} {n : Nat} (h : ∀ t ∈ l, t.size ≤ n) : Ty.sizes l ≤ l.length * n := by
  induction l with
  | nil => simp [Ty.sizes]
  | cons t l ih =>
    have h1 := h t (by simp)
    have h2 := ih fun u hu => h u (by simp [hu])
    rw [Ty.sizes, List.length_cons, Nat.add_mul]; omega
end Go.Proofs.YtdmiekaeodcehaaGreat

namespace Go.Proofs.YtdmiekaeodcehaaGreat
open Go.RowKit

end Go.Proofs.YtdmiekaeodcehaaGreat

namespace Go.Proofs.YtdmiekaeodcehaaGreat
open Go.RowKit
namespace Li
end Li
end Go.Proofs.YtdmiekaeodcehaaGreat

namespace Go.Proofs.YtdmiekaeodcehaaGreat
open Go.RowKit
namespace Pn
theorem ix_get {x : Int} : ∀ {l : List Int} {k : Nat}, ix x l = some k → l[k]? = some x
  | v :: l, k, h => by
    rw [ix] at h
    split at h
    · rename_i e; cases h; simp [e]
    · cases hx : ix x l with
      | none => rw [hx] at h; cases h
      | some j => rw [hx] at h; cases h; simpa using ix_get hx
end Pn
end Go.Proofs.YtdmiekaeodcehaaGreat

namespace Go.Proofs.YtdmiekaeodcehaaGreat
open Go.RowKit

end Go.Proofs.YtdmiekaeodcehaaGreat

namespace Go.Proofs.YtdmiekaeodcehaaGreat
open Go.RowKit

def Rises (out S : List Int) : Prop := out.Pairwise (· < ·) ∧ (∀ y, y ∈ out ↔ y ∈ S) ∧ out.length ≤ S.length
theorem rises_nil : Rises [] [] := ⟨.nil, by simp, by simp⟩
theorem Rises.skip {out S : List Int} {x : Int} (h : Rises out S) (hx : x ∈ out) : Rises out (S ++ [x]) :=
  ⟨h.1, fun y => by
    rw [h.2.1, List.mem_append]
    constructor
    · exact .inl
    · rintro (h' | h')
      · exact h'
      · simp at h'; subst h'; exact (h.2.1 _).1 hx, by have := h.2.2; simp; omega⟩
theorem Rises.put {out S : List Int} {x : Int} {a : Nat} (h : Rises out S) (ha : a ≤ out.length) (hlt : ∀ k (hk : k < a), out[k] < x) (hge : ∀ h' : a < out.length, ¬ out[a] < x ∧ out[a] ≠ x) : Rises (out.take a ++ [x] ++ out.drop a) (S ++ [x]) := by
  have h1 := List.pairwise_iff_getElem.1 h.1
  have hT : ∀ y ∈ out.take a, y < x := fun y hy => by
    obtain ⟨k, hk, e⟩ := List.getElem_of_mem hy
    have hk' : k < a := by simp at hk; omega
    rw [← e, List.getElem_take]; exact hlt k hk'
  have hD : ∀ y ∈ out.drop a, x < y := fun y hy => by
    obtain ⟨k, hk, e⟩ := List.getElem_of_mem hy
    have hk' : a + k < out.length := by simp at hk; omega
    rw [← e, List.getElem_drop]
    have h2 := hge (by omega)
    by_cases hk0 : k = 0
    · subst hk0; simp only [Nat.add_zero]; omega
    · have := h1 a (a + k) (by omega) hk' (by omega); omega
  refine ⟨?_, fun y => ?_, ?_⟩
  · have hp : (out.take a ++ out.drop a).Pairwise (· < ·) := by rw [List.take_append_drop]; exact h.1
    rw [List.pairwise_append] at hp
    rw [List.append_assoc, List.pairwise_append, List.singleton_append, List.pairwise_cons]
    refine ⟨hp.1, ⟨hD, hp.2.1⟩, fun y hy z hz => ?_⟩
    rcases List.mem_cons.1 hz with rfl | hz
    · exact hT y hy
    · exact hp.2.2 y hy z hz
  · rw [List.mem_append, List.mem_append, List.mem_append, ← h.2.1]
    have : y ∈ out ↔ y ∈ out.take a ∨ y ∈ out.drop a := by rw [← List.mem_append, List.take_append_drop]
    rw [this]
    constructor
    · rintro ((h' | h') | h')
      · exact .inl (.inl h')
      · exact .inr h'
      · exact .inl (.inr h')
    · rintro ((h' | h') | h')
      · exact .inl (.inl h')
      · exact .inr h'
      · exact .inl (.inr h')
  · have := h.2.2; simp; omega
theorem Rises.eq {out S : List Int} (h : Rises out S) : out = sortU S := rises_eq h.1 (sortU_spec S).1 fun x => by rw [h.2.1, (sortU_spec S).2]

theorem metasH_take (l : List (Int × Int)) (j : Nat) (h : j < l.length) : metasH (l.take (j + 1)) = metasH (l.take j) ++ if l[j].1 = 2 then [l[j].2] else [] := by
  rw [List.take_succ_eq_append_getElem h]
  unfold metasH
  rw [List.filterMap_append]
  congr 1
  by_cases hk : l[j].1 = 2
  · simp [hk]
  · simp [hk]
def metasT (l : List Tm) : List Int := l.flatMap fun t => metasH (t.heads 0)
theorem metasT_take (l : List Tm) (j : Nat) (h : j < l.length) : metasT (l.take (j + 1)) = metasT (l.take j) ++ metasH (l[j].heads 0) := by
  rw [List.take_succ_eq_append_getElem h]; unfold metasT; rw [List.flatMap_append]; simp
theorem metasT_len (l : List Tm) (m : Nat) (h : ∀ t ∈ l, t.full ≤ m) : (metasT l).length ≤ l.length * m := by
  induction l with
  | nil => simp [metasT]
  | cons t l ih =>
    have h1 := h t (by simp)
    have h2 := ih (fun u hu => h u (by simp [hu]))
    have h3 : (metasT (t :: l)).length = (metasH (t.heads 0)).length + (metasT l).length := by simp [metasT]
    have h4 : (metasH (t.heads 0)).length ≤ (t.heads 0).length := List.length_filterMap_le _ _
    have h5 := Tm.heads_len t 0
    rw [h3, List.length_cons, Nat.succ_mul]; omega

end Go.Proofs.YtdmiekaeodcehaaGreat

