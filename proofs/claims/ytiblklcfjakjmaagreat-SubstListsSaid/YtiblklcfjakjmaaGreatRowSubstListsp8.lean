/-
  The document's lists of pairs, walked in the deep way: Sorted, Get, Without, Domain, Same. The document's lists of pairs, walked in the deep way: Sorted and Without hand back rows of their own; Like. The laws' helpers of layers 8 and 9: Low, Of. Types and terms of the laws, there and back, walked in the deep way. Lists of pairs, there and back. How many types and terms: exactly what the reference counts.
-/
import Derived.Test.YtiblklcfjakjmaaGreatRowSubstListsp7
import Derived.Test.YtiblklcfjakjmaaGreatRowSubstListsp5
import Derived.Test.YtiblklcfjakjmaaGreatRowSubstListsp4
import Derived.Test.YtiblklcfjakjmaaGreatRowSubstListsp6
set_option maxRecDepth 100000
set_option maxHeartbeats 1000000
set_option linter.unusedVariables false
set_option linter.unusedSimpArgs false
namespace Go.Proofs.YtiblklcfjakjmaaGreat
open Go.RowKit
def TSR_25 : TI := ⟨1, false, [Value.slice none 0 0], [], some 63, 24, 5, none, false⟩
theorem TSR_25_ok : TypOk Tryz.prog 25 TSR_25 := ⟨by kernel_rfl, by kernel_rfl, by kernel_rfl, by kernel_rfl, by kernel_rfl⟩
def TSR_3 : TI := ⟨1, false, [Value.int IntKind.i64 0], [], none, 8, 2, none, false⟩
theorem TSR_3_ok : TypOk Tryz.prog 3 TSR_3 := ⟨by kernel_rfl, by kernel_rfl, by kernel_rfl, by kernel_rfl, by kernel_rfl⟩
def TSR_63 : TI := ⟨5, true, [Value.int IntKind.i64 0, Value.slice none 0 0, Value.int IntKind.i64 0, Value.int IntKind.i64 0, Value.slice none 0 0], [(0, 1, false), (1, 4, true)], none, 72, 6, none, false⟩
theorem TSR_63_ok : TypOk Tryz.prog 63 TSR_63 := ⟨by kernel_rfl, by kernel_rfl, by kernel_rfl, by kernel_rfl, by kernel_rfl⟩
def TSR_47 : TI := ⟨4, true, [Value.slice none 0 0, Value.int IntKind.i64 0, Value.int IntKind.i64 0, Value.slice none 0 0], [(0, 1, false), (1, 2, true), (3, 1, false)], none, 64, 6, none, false⟩
theorem TSR_47_ok : TypOk Tryz.prog 47 TSR_47 := ⟨by kernel_rfl, by kernel_rfl, by kernel_rfl, by kernel_rfl, by kernel_rfl⟩
def TSR_42 : TI := ⟨1, false, [Value.slice none 0 0], [], some 3, 24, 5, none, false⟩
theorem TSR_42_ok : TypOk Tryz.prog 42 TSR_42 := ⟨by kernel_rfl, by kernel_rfl, by kernel_rfl, by kernel_rfl, by kernel_rfl⟩
def TSR : List (Nat × TI) := [(25, TSR_25), (3, TSR_3), (63, TSR_63), (47, TSR_47), (42, TSR_42)]
theorem TSR_ok : TabOk Tryz.prog TSR := ((((((TabOk.nil _).cons TSR_42_ok).cons TSR_47_ok).cons TSR_63_ok).cons TSR_3_ok).cons TSR_25_ok)

theorem el_at {L : List (Int × Tm)} {i : Nat} {x : Int × Tm} (h : L[i]? = some x) : VLe (.q ((ePairs L).getD i [])) (.q [.v (.int .i64 x.1), .sl 2 (eTys x.2.binds) none, .v (.int .i64 x.2.kind), .v (.int .i64 x.2.index), .sl 4 (eTms x.2.args) none]) := by
  have hi : i < L.length := by
    rcases Nat.lt_or_ge i L.length with h' | h'
    · exact h'
    · rw [List.getElem?_eq_none h'] at h; cases h
  rw [List.getElem?_eq_getElem hi] at h
  cases h
  exact VLe.of_eq (by rw [ePairs_getD L i hi, ePair_eq])
theorem rget_d (l : List (Int × Tm)) (hl : l.length ≤ 900000) (m : Int) : PureC Tryz.prog 19 [.sl 5 (ePairs l) none, .v (.int .i64 m)] (.tu [.ag (eTm (getT l m).1), .v (.bool (getT l m).2)]) := by
  refine call_of_dw 0 26 [ResultVar.cell 4 47, ResultVar.tmp 5] TSR_ok (by kernel_rfl) Tryz.func19 rfl Tryz.ntmps19 rfl (by simp) ?dwords ?dbody
  case dwords => simp [wordsOk, D.ok, D.oks, D.okss, rnames, inN, ckey, ePairs_ok, eTm_ok]
  case dbody =>
    intro cx hnt hn0
    refine dw_seq ?_
    refine dw_k [] TSR_ok (by kernel_rfl) hnt (by kernel_rfl) (by simp; rfl) ?_
    intro K hK
    refine hK _ _ ?_
    clear hK K
    refine dw_seq ?_
    refine dw_seq ?_
    refine dw_k [] TSR_ok (by kernel_rfl) hnt (by kernel_rfl) (by simp; rfl) ?_
    intro K hK
    refine hK _ _ ?_
    clear hK K
    refine dw_block ?_
    refine dw_loop (ι := { j : Nat // ∀ i (h : i < l.length), i < j → l[i].1 ≠ m }) (fun j => [(.t 0, .sl 5 (ePairs l) none), (.t 1, .v (.int .i64 m)), (.t 4, .p 0 0), (.t 6, .v (.int .i64 ↑j.1)), (.c 0 0, .v (.slice none 0 0)), (.c 0 1, .v (.int .i64 0)), (.c 0 2, .v (.int .i64 0)), (.c 0 3, .v (.slice none 0 0))]) 1 (fun j => l.length - j.1) (⟨0, fun i h1 h2 => by omega⟩) ((VS.toK (by first | omega | simp [hn0]) (by repeat first | exact trivial | refine And.intro (And.intro (by first | rfl | simp [D.ok, D.oks, D.okss, D.okm, eTm_ok, eTy_ok, eTys_ok, eTms_ok, upto, keyOk, ePairs_ok, argsT]) (by first | exact Or.inl rfl | exact Or.inr ⟨_, rfl, (by repeat first | exact VLe.refl _ | exact VLe.nil _ | exact VLe.untag _ _ _ | refine VLe.ag ?_ | refine VLe.tu ?_ | refine VLeL.cons ?_ ?_ | exact VLeL.nil), trivial⟩ | simp [get, Key.eq, ePairs_ok, argsT])) ?_))) fun j => ?_
    obtain ⟨j, hj⟩ := j
    dsimp only
    by_cases hlt : j < l.length
    · by_cases hm : l[j].1 = m
      · have hi : idxOf m l = some j := idxOf_some hlt hm fun k hk => hj k (by omega) hk
        have e : getT l m = (l[j].2, true) := by unfold getT getP; rw [hi, Option.bind_some, List.getElem?_eq_getElem hlt]
        rw [e, eTm_eq]
        refine dw_seq ?_
        refine dw_seq ?_
        refine dw_k [(9, .v (.int .i64 (↑l.length))), (10, .v (.bool true))] TSR_ok (by kernel_rfl) hnt (by kernel_rfl) (by simp; rfl) ?_
        intro K hK
        refine And.intro (dintE (by rw [ePairs_len])) ?_
        refine And.intro (by first | exact dtrue (by omega) | exact VLe.of_eq (by simp [*]; done) | exact dtrue (by first | omega | (simp only [List.length_append, List.length_take, List.length_cons, List.length_nil, eTms_len, eTys_len]; omega) | assumption | (simp_all; done)) | exact VLe.of_eq (by simp_all; done)) ?_
        refine hK _ _ ?_
        clear hK K
        refine dw_cond (t := true) rfl ?_
        rw [if_pos rfl]
        refine dw_skip ?_
        refine dw_seq ?_
        refine dw_block ?_
        refine dw_seq ?_
        refine dw_k [(15, .q [.v (.int .i64 l[j].1), .sl 2 (eTys l[j].2.binds) none, .v (.int .i64 l[j].2.kind), .v (.int .i64 l[j].2.index), .sl 4 (eTms l[j].2.args) none]), (19, .v (.bool true))] TSR_ok (by kernel_rfl) hnt (by kernel_rfl) (by simp; rfl) ?_
        intro K hK
        refine And.intro (by first | exact ⟨by omega, by rw [ePairs_len]; omega⟩ | (simp only [ePairs_len]; omega)) ?_
        refine And.intro (VLe.of_eq (by rw [show (Int.toNat ((j : Nat) : Int)) = j by omega, ePairs_getD l j (by omega), ePair_eq])) ?_
        refine And.intro (beqT hm) ?_
        refine hK _ _ ?_
        clear hK K
        refine dw_cond (t := true) rfl ?_
        rw [if_pos rfl]
        refine dw_seq ?_
        refine dw_k [(22, .q [.v (.int .i64 l[j].1), .sl 2 (eTys l[j].2.binds) none, .v (.int .i64 l[j].2.kind), .v (.int .i64 l[j].2.index), .sl 4 (eTms l[j].2.args) none])] TSR_ok (by kernel_rfl) hnt (by kernel_rfl) (by simp; rfl) ?_
        intro K hK
        refine And.intro (by first | exact ⟨by omega, by rw [ePairs_len]; omega⟩ | (simp only [ePairs_len]; omega)) ?_
        refine And.intro (VLe.of_eq (by rw [show (Int.toNat ((j : Nat) : Int)) = j by omega, ePairs_getD l j (by omega), ePair_eq])) ?_
        refine hK _ _ ?_
        clear hK K
        refine dw_ret ?_
        exact retv (N := 0) (.inr rfl) rfl (by repeat first | exact VLe.refl _ | exact VLe.nil _ | exact VLe.untag _ _ _ | refine VLe.ag ?_ | refine VLe.tu ?_ | refine VLeL.cons ?_ ?_ | exact VLeL.nil) (by repeat first | exact trivial | refine And.intro rfl ?_)
      · have hj' : ∀ i (h : i < l.length), i < j + 1 → l[i].1 ≠ m := fun i h1 h2 => by
          rcases Nat.lt_or_ge i j with h | h
          · exact hj i h1 h
          · have : i = j := by omega
            subst this; exact hm
        refine dw_seq ?_
        refine dw_seq ?_
        refine dw_k [(9, .v (.int .i64 (↑l.length))), (10, .v (.bool true))] TSR_ok (by kernel_rfl) hnt (by kernel_rfl) (by simp; rfl) ?_
        intro K hK
        refine And.intro (dintE (by rw [ePairs_len])) ?_
        refine And.intro (by first | exact dtrue (by omega) | exact VLe.of_eq (by simp [*]; done) | exact dtrue (by first | omega | (simp only [List.length_append, List.length_take, List.length_cons, List.length_nil, eTms_len, eTys_len]; omega) | assumption | (simp_all; done)) | exact VLe.of_eq (by simp_all; done)) ?_
        refine hK _ _ ?_
        clear hK K
        refine dw_cond (t := true) rfl ?_
        rw [if_pos rfl]
        refine dw_skip ?_
        refine dw_seq ?_
        refine dw_block ?_
        refine dw_seq ?_
        refine dw_k [(15, .q [.v (.int .i64 l[j].1), .sl 2 (eTys l[j].2.binds) none, .v (.int .i64 l[j].2.kind), .v (.int .i64 l[j].2.index), .sl 4 (eTms l[j].2.args) none]), (19, .v (.bool false))] TSR_ok (by kernel_rfl) hnt (by kernel_rfl) (by simp; rfl) ?_
        intro K hK
        refine And.intro (by first | exact ⟨by omega, by rw [ePairs_len]; omega⟩ | (simp only [ePairs_len]; omega)) ?_
        refine And.intro (VLe.of_eq (by rw [show (Int.toNat ((j : Nat) : Int)) = j by omega, ePairs_getD l j (by omega), ePair_eq])) ?_
        refine And.intro (beqF hm) ?_
        refine hK _ _ ?_
        clear hK K
        refine dw_cond (t := false) rfl ?_
        rw [if_neg (by simp)]
        refine dw_skip ?_
        refine dw_k [(12, .v (.int .i64 (↑(j + 1))))] TSR_ok (by kernel_rfl) hnt (by kernel_rfl) (by simp; rfl) ?_
        intro K hK
        refine And.intro (dintE (by first | omega | exact IntWalk.i64_in _ (by omega) | (rw [IntWalk.i64_in _ (by omega)]; omega) | omega | (simp only [List.length_append, List.length_take, List.length_cons, List.length_nil, eTms_len, eTys_len]; omega) | assumption | (simp_all; done))) ?_
        refine hK _ _ ?_
        clear hK K
        refine ⟨⟨j + 1, hj'⟩, by first | omega | (dsimp only; omega), (VS.toK (by first | omega | simp [hn0]) (by repeat first | exact trivial | refine And.intro (And.intro (by first | rfl | simp [D.ok, D.oks, D.okss, D.okm, eTm_ok, eTy_ok, eTys_ok, eTms_ok, upto, keyOk, ePairs_ok]) (by first | exact Or.inl rfl | exact Or.inr ⟨_, rfl, (by repeat first | exact VLe.refl _ | exact VLe.nil _ | exact VLe.untag _ _ _ | refine VLe.ag ?_ | refine VLe.tu ?_ | refine VLeL.cons ?_ ?_ | exact VLeL.nil), trivial⟩ | simp [get, Key.eq, ePairs_ok])) ?_))⟩
    · have hi : idxOf m l = none := idxOf_none fun k hk => hj k hk (by omega)
      have e : getT l m = (.mk [] 0 0 [], false) := by unfold getT getP; rw [hi]; rfl
      rw [e, eTm_eq]
      dsimp only [Tm.binds, Tm.kind, Tm.index, Tm.args, eTys, eTms]
      refine dw_seq ?_
      refine dw_seq ?_
      refine dw_k [(9, .v (.int .i64 (↑l.length))), (10, .v (.bool false))] TSR_ok (by kernel_rfl) hnt (by kernel_rfl) (by simp; rfl) ?_
      intro K hK
      refine And.intro (dintE (by rw [ePairs_len])) ?_
      refine And.intro (by first | exact dfalse (by omega) | exact VLe.of_eq (by simp [*]; done) | exact dfalse (by first | omega | (simp only [List.length_append, List.length_take, List.length_cons, List.length_nil, eTms_len, eTys_len]; omega) | assumption | (simp_all; done)) | exact VLe.of_eq (by simp_all; done)) ?_
      refine hK _ _ ?_
      clear hK K
      refine dw_cond (t := false) rfl ?_
      rw [if_neg (by simp)]
      refine dw_exit ?_
      refine dw_seq ?_
      refine dw_k [] TSR_ok (by kernel_rfl) hnt (by kernel_rfl) (by simp; rfl) ?_
      intro K hK
      refine hK _ _ ?_
      clear hK K
      refine dw_ret ?_
      exact retv (N := 0) (.inr rfl) rfl (by repeat first | exact VLe.refl _ | exact VLe.nil _ | exact VLe.untag _ _ _ | refine VLe.ag ?_ | refine VLe.tu ?_ | refine VLeL.cons ?_ ?_ | exact VLeL.nil) (by repeat first | exact trivial | refine And.intro rfl ?_)
theorem rdomain_d (l : List (Int × Tm)) (hl : l.length ≤ 900000) : PureC Tryz.prog 33 [.sl 5 (ePairs l) none] (.sl 1 (eIs (l.map (·.1))) none) := by
  refine call_of_dw 0 20 [ResultVar.tmp 2] TSR_ok (by kernel_rfl) Tryz.func33 rfl Tryz.ntmps33 rfl (by simp) ?dwords ?dbody
  case dwords => simp [wordsOk, D.ok, D.oks, D.okss, rnames, inN, ckey, ePairs_ok, eIs_ok]
  case dbody =>
    intro cx hnt hn0
    refine dw_seq ?_
    refine dw_k [] TSR_ok (by kernel_rfl) hnt (by kernel_rfl) (by simp; rfl) ?_
    intro K hK
    refine hK _ _ ?_
    clear hK K
    refine dw_cut (τ := [(.t 0, .sl 5 (ePairs l) none), (.t 3, .v (.slice none 0 0))]) (N1 := 0) ?_ ?_
    · skip
      refine dw_k [] TSR_ok (by kernel_rfl) hnt (by kernel_rfl) (by simp; rfl) ?_
      intro K hK
      refine hK _ _ ?_
      clear hK K
      exact cut_ok (VS.toK (by first | omega | simp [hn0]) (by repeat first | exact trivial | refine And.intro (And.intro (by first | rfl | simp [D.ok, D.oks, D.okss, D.okm, eTm_ok, eTy_ok, eTys_ok, eTms_ok, upto, keyOk, ePairs_ok, argsT]) (by first | exact Or.inl rfl | exact Or.inr ⟨_, rfl, (by repeat first | exact VLe.refl _ | exact VLe.nil _ | exact VLe.untag _ _ _ | refine VLe.ag ?_ | refine VLe.tu ?_ | refine VLeL.cons ?_ ?_ | exact VLeL.nil), trivial⟩ | simp [get, Key.eq, ePairs_ok, argsT])) ?_))
    · refine DW.vs (VS.rowT (x := 3) (by rw [hnt]; decide) 3 1 rfl) ?_
      refine dw_seq ?_
      refine dw_seq ?_
      refine dw_k [] TSR_ok (by kernel_rfl) hnt (by kernel_rfl) (by simp; rfl) ?_
      intro K hK
      refine hK _ _ ?_
      clear hK K
      refine dw_block ?_
      refine dw_loop (ι := { k : Nat // k ≤ l.length }) (fun k => [(.t 0, .sl 5 (ePairs l) none), (.t 3, .sl 1 (eIs ((l.take k.1).map (·.1))) (some 0)), (.t 4, .v (.int .i64 ↑k.1)), (.r 0, .rw 3 1 k.1)]) 1 (fun k => l.length - k.1) (⟨0, Nat.zero_le _⟩) ((VS.toK (by first | omega | simp [hn0]) (by repeat first | exact trivial | refine And.intro (And.intro (by first | rfl | simp [D.ok, D.oks, D.okss, D.okm, eTm_ok, eTy_ok, eTys_ok, eTms_ok, upto, keyOk, ePairs_ok, eIs_ok, argsT]) (by first | exact Or.inl rfl | exact Or.inr ⟨_, rfl, (by repeat first | exact VLe.refl _ | exact VLe.nil _ | exact VLe.untag _ _ _ | refine VLe.ag ?_ | refine VLe.tu ?_ | refine VLeL.cons ?_ ?_ | exact VLeL.nil), trivial⟩ | simp [get, Key.eq, ePairs_ok, eIs_ok, argsT])) ?_))) fun k => ?_
      obtain ⟨k, hk⟩ := k
      dsimp only
      by_cases hlt : k < l.length
      · have htk : eIs ((l.take k).map (·.1)) ++ [[.v (.int .i64 l[k].1)]] = eIs ((l.take (k + 1)).map (·.1)) := by
          rw [List.take_add_one, List.getElem?_eq_getElem hlt, Option.toList_some, List.map_append, eIs_append]; rfl
        have hle : (eIs ((l.take k).map (·.1))).length = k := by rw [eIs_len]; simp; omega
        have hle2 : (eIs ((l.take (k + 1)).map (·.1))).length = k + 1 := by rw [eIs_len]; simp; omega
        refine dw_seq ?_
        refine dw_seq ?_
        refine dw_k [(7, .v (.int .i64 (↑l.length))), (8, .v (.bool true))] TSR_ok (by kernel_rfl) hnt (by kernel_rfl) (by simp; rfl) ?_
        intro K hK
        refine And.intro (dintE (by rw [ePairs_len])) ?_
        refine And.intro (by first | exact dtrue (by omega) | exact VLe.of_eq (by simp [*]; done) | exact dtrue (by first | omega | (simp only [List.length_append, List.length_take, List.length_cons, List.length_nil, eTms_len, eTys_len]; omega) | assumption | (simp_all; done)) | exact VLe.of_eq (by simp_all; done)) ?_
        refine hK _ _ ?_
        clear hK K
        refine dw_cond (t := true) rfl ?_
        rw [if_pos rfl]
        refine dw_skip ?_
        refine dw_seq ?_
        refine dw_block ?_
        refine dw_k [(14, .q [.v (.int .i64 l[k].1), .sl 2 (eTys l[k].2.binds) none, .v (.int .i64 l[k].2.kind), .v (.int .i64 l[k].2.index), .sl 4 (eTms l[k].2.args) none])] TSR_ok (by kernel_rfl) hnt (by kernel_rfl) (by simp; rfl) ?_
        intro K hK
        refine And.intro (by first | exact ⟨by omega, by rw [ePairs_len]; omega⟩ | (simp only [ePairs_len]; omega)) ?_
        refine And.intro (VLe.of_eq (by rw [show (Int.toNat ((k : Nat) : Int)) = k by omega, ePairs_getD l k (by omega), ePair_eq])) ?_
        refine And.intro (⟨by omega, by rw [hle]; simp; omega⟩) ?_
        refine hK _ _ ?_
        clear hK K
        rw [htk, hle2]
        refine dw_k [(10, .v (.int .i64 (↑(k + 1))))] TSR_ok (by kernel_rfl) hnt (by kernel_rfl) (by simp; rfl) ?_
        intro K hK
        refine And.intro (dintE (by first | omega | exact IntWalk.i64_in _ (by omega) | (rw [IntWalk.i64_in _ (by omega)]; omega) | omega | (simp only [List.length_append, List.length_take, List.length_cons, List.length_nil, eTms_len, eTys_len]; omega) | assumption | (simp_all; done))) ?_
        refine hK _ _ ?_
        clear hK K
        refine ⟨⟨k + 1, by omega⟩, by first | omega | (dsimp only; omega), (VS.toK (by first | omega | simp [hn0]) (by repeat first | exact trivial | refine And.intro (And.intro (by first | rfl | simp [D.ok, D.oks, D.okss, D.okm, eTm_ok, eTy_ok, eTys_ok, eTms_ok, upto, keyOk, eIs_ok, ePairs_ok]) (by first | exact Or.inl rfl | exact Or.inr ⟨_, rfl, (by repeat first | exact VLe.refl _ | exact VLe.nil _ | exact VLe.untag _ _ _ | refine VLe.ag ?_ | refine VLe.tu ?_ | refine VLeL.cons ?_ ?_ | exact VLeL.nil), trivial⟩ | simp [get, Key.eq, eIs_ok, ePairs_ok])) ?_))⟩
      · rw [List.take_of_length_le (by omega)]
        refine dw_seq ?_
        refine dw_seq ?_
        refine dw_k [(7, .v (.int .i64 (↑l.length))), (8, .v (.bool false))] TSR_ok (by kernel_rfl) hnt (by kernel_rfl) (by simp; rfl) ?_
        intro K hK
        refine And.intro (dintE (by rw [ePairs_len])) ?_
        refine And.intro (by first | exact dfalse (by omega) | exact VLe.of_eq (by simp [*]; done) | exact dfalse (by first | omega | (simp only [List.length_append, List.length_take, List.length_cons, List.length_nil, eTms_len, eTys_len]; omega) | assumption | (simp_all; done)) | exact VLe.of_eq (by simp_all; done)) ?_
        refine hK _ _ ?_
        clear hK K
        refine dw_cond (t := false) rfl ?_
        rw [if_neg (by simp)]
        refine dw_exit ?_
        refine dw_seq ?_
        refine dw_k [] TSR_ok (by kernel_rfl) hnt (by kernel_rfl) (by simp; rfl) ?_
        intro K hK
        refine hK _ _ ?_
        clear hK K
        refine dw_ret ?_
        exact retv (N := 0) (.inr rfl) rfl (by repeat first | exact VLe.refl _ | exact VLe.nil _ | exact VLe.untag _ _ _ | refine VLe.ag ?_ | refine VLe.tu ?_ | refine VLeL.cons ?_ ?_ | exact VLeL.nil) (by repeat first | exact trivial | refine And.intro rfl ?_)
theorem rsameP_d (l r : List (Int × Tm)) (hl : l.length ≤ 900000) (hr : r.length ≤ 900000) : PureC Tryz.prog 23 [.sl 5 (ePairs l) none, .sl 5 (ePairs r) none] (.v (.bool (decide (l = r)))) := by
  by_cases hlr : l.length = r.length
  · skip
    refine call_of_dw 0 42 [ResultVar.tmp 4] TSR_ok (by kernel_rfl) Tryz.func23 rfl Tryz.ntmps23 rfl (by simp) ?dwords ?dbody
    case dwords => simp [wordsOk, D.ok, D.oks, D.okss, rnames, inN, ckey, ePairs_ok]
    case dbody =>
      intro cx hnt hn0
      refine dw_seq ?_
      refine dw_k [] TSR_ok (by kernel_rfl) hnt (by kernel_rfl) (by simp; rfl) ?_
      intro K hK
      refine hK _ _ ?_
      clear hK K
      refine dw_seq ?_
      refine dw_seq ?_
      refine dw_k [(7, .v (.int .i64 (↑l.length))), (9, .v (.int .i64 (↑r.length))), (10, .v (.bool false))] TSR_ok (by kernel_rfl) hnt (by kernel_rfl) (by simp; rfl) ?_
      intro K hK
      refine And.intro (dintE (by rw [ePairs_len])) ?_
      refine And.intro (dintE (by rw [ePairs_len])) ?_
      refine And.intro (bneF (by omega)) ?_
      refine hK _ _ ?_
      clear hK K
      refine dw_cond (t := false) rfl ?_
      rw [if_neg (by simp)]
      refine dw_skip ?_
      refine dw_seq ?_
      refine dw_seq ?_
      refine dw_k [] TSR_ok (by kernel_rfl) hnt (by kernel_rfl) (by simp; rfl) ?_
      intro K hK
      refine hK _ _ ?_
      clear hK K
      refine dw_block ?_
      refine dw_loop (ι := { j : Nat // l.take j = r.take j }) (fun j => [(.t 0, .sl 5 (ePairs l) none), (.t 1, .sl 5 (ePairs r) none), (.t 5, .v (.int .i64 ↑j.1))]) 0 (fun j => l.length - j.1) (⟨0, rfl⟩) ((VS.toK (by first | omega | simp [hn0]) (by repeat first | exact trivial | refine And.intro (And.intro (by first | rfl | simp [D.ok, D.oks, D.okss, D.okm, eTm_ok, eTy_ok, eTys_ok, eTms_ok, upto, keyOk, ePairs_ok, argsT]) (by first | exact Or.inl rfl | exact Or.inr ⟨_, rfl, (by repeat first | exact VLe.refl _ | exact VLe.nil _ | exact VLe.untag _ _ _ | refine VLe.ag ?_ | refine VLe.tu ?_ | refine VLeL.cons ?_ ?_ | exact VLeL.nil), trivial⟩ | simp [get, Key.eq, ePairs_ok, argsT])) ?_))) fun j => ?_
      obtain ⟨j, hj⟩ := j
      dsimp only
      by_cases hlt : j < l.length
      · have hjr : j < r.length := by omega
        have he := same2_d l[j].2 r[j].2
        rw [eTm_eq, eTm_eq] at he
        have h1 := List.take_add_one (l := l) (i := j)
        have h2 := List.take_add_one (l := r) (i := j)
        rw [List.getElem?_eq_getElem hlt] at h1
        rw [List.getElem?_eq_getElem hjr] at h2
        by_cases hm : l[j].1 = r[j].1
        · by_cases hv : l[j].2 = r[j].2
          · rw [decide_eq_true hv] at he
            have hv2 : l[j] = r[j] := Prod.ext hm hv
            refine dw_seq ?_
            refine dw_seq ?_
            refine dw_k [(13, .v (.int .i64 (↑l.length))), (14, .v (.bool true))] TSR_ok (by kernel_rfl) hnt (by kernel_rfl) (by simp; rfl) ?_
            intro K hK
            refine And.intro (dintE (by rw [ePairs_len])) ?_
            refine And.intro (by first | exact dtrue (by omega) | exact VLe.of_eq (by simp [*]; done) | exact dtrue (by first | omega | (simp only [List.length_append, List.length_take, List.length_cons, List.length_nil, eTms_len, eTys_len]; omega) | assumption | (simp_all; done)) | exact VLe.of_eq (by simp_all; done)) ?_
            refine hK _ _ ?_
            clear hK K
            refine dw_cond (t := true) rfl ?_
            rw [if_pos rfl]
            refine dw_skip ?_
            refine dw_seq ?_
            refine dw_block ?_
            refine dw_seq ?_
            refine dw_kD [(19, .q [.v (.int .i64 l[j].1), .sl 2 (eTys l[j].2.binds) none, .v (.int .i64 l[j].2.kind), .v (.int .i64 l[j].2.index), .sl 4 (eTms l[j].2.args) none]), (24, .q [.v (.int .i64 r[j].1), .sl 2 (eTys r[j].2.binds) none, .v (.int .i64 r[j].2.kind), .v (.int .i64 r[j].2.index), .sl 4 (eTms r[j].2.args) none]), (27, .v (.bool false)), (31, .q [.v (.int .i64 l[j].1), .sl 2 (eTys l[j].2.binds) none, .v (.int .i64 l[j].2.kind), .v (.int .i64 l[j].2.index), .sl 4 (eTms l[j].2.args) none]), (36, .q [.v (.int .i64 r[j].1), .sl 2 (eTys r[j].2.binds) none, .v (.int .i64 r[j].2.kind), .v (.int .i64 r[j].2.index), .sl 4 (eTms r[j].2.args) none])] TSR_ok (by kernel_rfl) hnt (by kernel_rfl) (by simp; rfl) ?_
            intro K hK
            refine And.intro (by first | exact ⟨by omega, by rw [ePairs_len]; omega⟩ | (simp only [ePairs_len]; omega)) ?_
            refine And.intro (VLe.of_eq (by rw [show (Int.toNat ((j : Nat) : Int)) = j by omega, ePairs_getD l j (by omega), ePair_eq])) ?_
            refine And.intro (by first | exact ⟨by omega, by rw [ePairs_len]; omega⟩ | (simp only [ePairs_len]; omega)) ?_
            refine And.intro (VLe.of_eq (by rw [show (Int.toNat ((j : Nat) : Int)) = j by omega, ePairs_getD r j (by omega), ePair_eq])) ?_
            refine And.intro (bneF hm) ?_
            refine And.intro (by first | exact ⟨by omega, by rw [ePairs_len]; omega⟩ | (simp only [ePairs_len]; omega)) ?_
            refine And.intro (VLe.of_eq (by rw [show (Int.toNat ((j : Nat) : Int)) = j by omega, ePairs_getD l j (by omega), ePair_eq])) ?_
            refine And.intro (by first | exact ⟨by omega, by rw [ePairs_len]; omega⟩ | (simp only [ePairs_len]; omega)) ?_
            refine And.intro (VLe.of_eq (by rw [show (Int.toNat ((j : Nat) : Int)) = j by omega, ePairs_getD r j (by omega), ePair_eq])) ?_
            refine ⟨_, _, _, Or.inl (he), by repeat first | exact trivial | refine And.intro ⟨rfl, rfl⟩ ?_, ?_⟩
            refine hK _ _ (by kernel_rfl) ?_
            clear hK K
            refine dw_cond (t := false) rfl ?_
            rw [if_neg (by simp)]
            refine dw_skip ?_
            refine dw_k [(16, .v (.int .i64 (↑(j + 1))))] TSR_ok (by kernel_rfl) hnt (by kernel_rfl) (by simp; rfl) ?_
            intro K hK
            refine And.intro (dintE (by first | omega | exact IntWalk.i64_in _ (by omega) | (rw [IntWalk.i64_in _ (by omega)]; omega) | omega | (simp only [List.length_append, List.length_take, List.length_cons, List.length_nil, eTms_len, eTys_len]; omega) | assumption | (simp_all; done))) ?_
            refine hK _ _ ?_
            clear hK K
            refine ⟨⟨j + 1, by rw [h1, h2, hj, hv2]⟩, by first | omega | (dsimp only; omega), (VS.toK (by first | omega | simp [hn0]) (by repeat first | exact trivial | refine And.intro (And.intro (by first | rfl | simp [D.ok, D.oks, D.okss, D.okm, eTm_ok, eTy_ok, eTys_ok, eTms_ok, upto, keyOk, ePairs_ok]) (by first | exact Or.inl rfl | exact Or.inr ⟨_, rfl, (by repeat first | exact VLe.refl _ | exact VLe.nil _ | exact VLe.untag _ _ _ | refine VLe.ag ?_ | refine VLe.tu ?_ | refine VLeL.cons ?_ ?_ | exact VLeL.nil), trivial⟩ | simp [get, Key.eq, ePairs_ok])) ?_))⟩
          · rw [decide_eq_false hv] at he
            have e : decide (l = r) = false := by rw [decide_eq_false_iff_not]; exact fun e => hv (by subst e; rfl)
            rw [e]
            refine dw_seq ?_
            refine dw_seq ?_
            refine dw_k [(13, .v (.int .i64 (↑l.length))), (14, .v (.bool true))] TSR_ok (by kernel_rfl) hnt (by kernel_rfl) (by simp; rfl) ?_
            intro K hK
            refine And.intro (dintE (by rw [ePairs_len])) ?_
            refine And.intro (by first | exact dtrue (by omega) | exact VLe.of_eq (by simp [*]; done) | exact dtrue (by first | omega | (simp only [List.length_append, List.length_take, List.length_cons, List.length_nil, eTms_len, eTys_len]; omega) | assumption | (simp_all; done)) | exact VLe.of_eq (by simp_all; done)) ?_
            refine hK _ _ ?_
            clear hK K
            refine dw_cond (t := true) rfl ?_
            rw [if_pos rfl]
            refine dw_skip ?_
            refine dw_seq ?_
            refine dw_block ?_
            refine dw_seq ?_
            refine dw_kD [(19, .q [.v (.int .i64 l[j].1), .sl 2 (eTys l[j].2.binds) none, .v (.int .i64 l[j].2.kind), .v (.int .i64 l[j].2.index), .sl 4 (eTms l[j].2.args) none]), (24, .q [.v (.int .i64 r[j].1), .sl 2 (eTys r[j].2.binds) none, .v (.int .i64 r[j].2.kind), .v (.int .i64 r[j].2.index), .sl 4 (eTms r[j].2.args) none]), (27, .v (.bool false)), (31, .q [.v (.int .i64 l[j].1), .sl 2 (eTys l[j].2.binds) none, .v (.int .i64 l[j].2.kind), .v (.int .i64 l[j].2.index), .sl 4 (eTms l[j].2.args) none]), (36, .q [.v (.int .i64 r[j].1), .sl 2 (eTys r[j].2.binds) none, .v (.int .i64 r[j].2.kind), .v (.int .i64 r[j].2.index), .sl 4 (eTms r[j].2.args) none])] TSR_ok (by kernel_rfl) hnt (by kernel_rfl) (by simp; rfl) ?_
            intro K hK
            refine And.intro (by first | exact ⟨by omega, by rw [ePairs_len]; omega⟩ | (simp only [ePairs_len]; omega)) ?_
            refine And.intro (VLe.of_eq (by rw [show (Int.toNat ((j : Nat) : Int)) = j by omega, ePairs_getD l j (by omega), ePair_eq])) ?_
            refine And.intro (by first | exact ⟨by omega, by rw [ePairs_len]; omega⟩ | (simp only [ePairs_len]; omega)) ?_
            refine And.intro (VLe.of_eq (by rw [show (Int.toNat ((j : Nat) : Int)) = j by omega, ePairs_getD r j (by omega), ePair_eq])) ?_
            refine And.intro (bneF hm) ?_
            refine And.intro (by first | exact ⟨by omega, by rw [ePairs_len]; omega⟩ | (simp only [ePairs_len]; omega)) ?_
            refine And.intro (VLe.of_eq (by rw [show (Int.toNat ((j : Nat) : Int)) = j by omega, ePairs_getD l j (by omega), ePair_eq])) ?_
            refine And.intro (by first | exact ⟨by omega, by rw [ePairs_len]; omega⟩ | (simp only [ePairs_len]; omega)) ?_
            refine And.intro (VLe.of_eq (by rw [show (Int.toNat ((j : Nat) : Int)) = j by omega, ePairs_getD r j (by omega), ePair_eq])) ?_
            refine ⟨_, _, _, Or.inl (he), by repeat first | exact trivial | refine And.intro ⟨rfl, rfl⟩ ?_, ?_⟩
            refine hK _ _ (by kernel_rfl) ?_
            clear hK K
            refine dw_cond (t := true) rfl ?_
            rw [if_pos rfl]
            refine dw_seq ?_
            refine dw_k [] TSR_ok (by kernel_rfl) hnt (by kernel_rfl) (by simp; rfl) ?_
            intro K hK
            refine hK _ _ ?_
            clear hK K
            refine dw_ret ?_
            exact retv (N := 0) (.inr rfl) rfl (by repeat first | exact VLe.refl _ | exact VLe.nil _ | exact VLe.untag _ _ _ | refine VLe.ag ?_ | refine VLe.tu ?_ | refine VLeL.cons ?_ ?_ | exact VLeL.nil) (by repeat first | exact trivial | refine And.intro rfl ?_)
        · have e : decide (l = r) = false := by rw [decide_eq_false_iff_not]; exact fun e => hm (by subst e; rfl)
          rw [e]
          refine dw_seq ?_
          refine dw_seq ?_
          refine dw_k [(13, .v (.int .i64 (↑l.length))), (14, .v (.bool true))] TSR_ok (by kernel_rfl) hnt (by kernel_rfl) (by simp; rfl) ?_
          intro K hK
          refine And.intro (dintE (by rw [ePairs_len])) ?_
          refine And.intro (by first | exact dtrue (by omega) | exact VLe.of_eq (by simp [*]; done) | exact dtrue (by first | omega | (simp only [List.length_append, List.length_take, List.length_cons, List.length_nil, eTms_len, eTys_len]; omega) | assumption | (simp_all; done)) | exact VLe.of_eq (by simp_all; done)) ?_
          refine hK _ _ ?_
          clear hK K
          refine dw_cond (t := true) rfl ?_
          rw [if_pos rfl]
          refine dw_skip ?_
          refine dw_seq ?_
          refine dw_block ?_
          refine dw_seq ?_
          refine dw_kD [(19, .q [.v (.int .i64 l[j].1), .sl 2 (eTys l[j].2.binds) none, .v (.int .i64 l[j].2.kind), .v (.int .i64 l[j].2.index), .sl 4 (eTms l[j].2.args) none]), (24, .q [.v (.int .i64 r[j].1), .sl 2 (eTys r[j].2.binds) none, .v (.int .i64 r[j].2.kind), .v (.int .i64 r[j].2.index), .sl 4 (eTms r[j].2.args) none]), (27, .v (.bool true))] TSR_ok (by kernel_rfl) hnt (by kernel_rfl) (by simp; rfl) ?_
          intro K hK
          refine And.intro (by first | exact ⟨by omega, by rw [ePairs_len]; omega⟩ | (simp only [ePairs_len]; omega)) ?_
          refine And.intro (VLe.of_eq (by rw [show (Int.toNat ((j : Nat) : Int)) = j by omega, ePairs_getD l j (by omega), ePair_eq])) ?_
          refine And.intro (by first | exact ⟨by omega, by rw [ePairs_len]; omega⟩ | (simp only [ePairs_len]; omega)) ?_
          refine And.intro (VLe.of_eq (by rw [show (Int.toNat ((j : Nat) : Int)) = j by omega, ePairs_getD r j (by omega), ePair_eq])) ?_
          refine And.intro (bneT hm) ?_
          refine hK _ _ (by kernel_rfl) ?_
          clear hK K
          refine dw_cond (t := true) rfl ?_
          rw [if_pos rfl]
          refine dw_seq ?_
          refine dw_k [] TSR_ok (by kernel_rfl) hnt (by kernel_rfl) (by simp; rfl) ?_
          intro K hK
          refine hK _ _ ?_
          clear hK K
          refine dw_ret ?_
          exact retv (N := 0) (.inr rfl) rfl (by repeat first | exact VLe.refl _ | exact VLe.nil _ | exact VLe.untag _ _ _ | refine VLe.ag ?_ | refine VLe.tu ?_ | refine VLeL.cons ?_ ?_ | exact VLeL.nil) (by repeat first | exact trivial | refine And.intro rfl ?_)
      · rw [List.take_of_length_le (by omega), List.take_of_length_le (by omega)] at hj
        rw [decide_eq_true hj]
        refine dw_seq ?_
        refine dw_seq ?_
        refine dw_k [(13, .v (.int .i64 (↑l.length))), (14, .v (.bool false))] TSR_ok (by kernel_rfl) hnt (by kernel_rfl) (by simp; rfl) ?_
        intro K hK
        refine And.intro (dintE (by rw [ePairs_len])) ?_
        refine And.intro (by first | exact dfalse (by omega) | exact VLe.of_eq (by simp [*]; done) | exact dfalse (by first | omega | (simp only [List.length_append, List.length_take, List.length_cons, List.length_nil, eTms_len, eTys_len]; omega) | assumption | (simp_all; done)) | exact VLe.of_eq (by simp_all; done)) ?_
        refine hK _ _ ?_
        clear hK K
        refine dw_cond (t := false) rfl ?_
        rw [if_neg (by simp)]
        refine dw_exit ?_
        refine dw_seq ?_
        refine dw_k [] TSR_ok (by kernel_rfl) hnt (by kernel_rfl) (by simp; rfl) ?_
        intro K hK
        refine hK _ _ ?_
        clear hK K
        refine dw_ret ?_
        exact retv (N := 0) (.inr rfl) rfl (by repeat first | exact VLe.refl _ | exact VLe.nil _ | exact VLe.untag _ _ _ | refine VLe.ag ?_ | refine VLe.tu ?_ | refine VLeL.cons ?_ ?_ | exact VLeL.nil) (by repeat first | exact trivial | refine And.intro rfl ?_)
  · have e : decide (l = r) = false := by rw [decide_eq_false_iff_not]; exact fun e => hlr (by rw [e])
    rw [e]
    refine call_of_dw 0 42 [ResultVar.tmp 4] TSR_ok (by kernel_rfl) Tryz.func23 rfl Tryz.ntmps23 rfl (by simp) ?dwords ?dbody
    case dwords => simp [wordsOk, D.ok, D.oks, D.okss, rnames, inN, ckey, ePairs_ok]
    case dbody =>
      intro cx hnt hn0
      refine dw_seq ?_
      refine dw_k [] TSR_ok (by kernel_rfl) hnt (by kernel_rfl) (by simp; rfl) ?_
      intro K hK
      refine hK _ _ ?_
      clear hK K
      refine dw_seq ?_
      refine dw_seq ?_
      refine dw_k [(7, .v (.int .i64 (↑l.length))), (9, .v (.int .i64 (↑r.length))), (10, .v (.bool true))] TSR_ok (by kernel_rfl) hnt (by kernel_rfl) (by simp; rfl) ?_
      intro K hK
      refine And.intro (dintE (by rw [ePairs_len])) ?_
      refine And.intro (dintE (by rw [ePairs_len])) ?_
      refine And.intro (bneT (by omega)) ?_
      refine hK _ _ ?_
      clear hK K
      refine dw_cond (t := true) rfl ?_
      rw [if_pos rfl]
      refine dw_seq ?_
      refine dw_k [] TSR_ok (by kernel_rfl) hnt (by kernel_rfl) (by simp; rfl) ?_
      intro K hK
      refine hK _ _ ?_
      clear hK K
      refine dw_ret ?_
      exact retv (N := 0) (.inr rfl) rfl (by repeat first | exact VLe.refl _ | exact VLe.nil _ | exact VLe.untag _ _ _ | refine VLe.ag ?_ | refine VLe.tu ?_ | refine VLeL.cons ?_ ?_ | exact VLeL.nil) (by repeat first | exact trivial | refine And.intro rfl ?_)
end Go.Proofs.YtiblklcfjakjmaaGreat

namespace Go.Proofs.YtiblklcfjakjmaaGreat
open Go.RowKit

theorem rsortedN_d (l : List (Int × Tm)) (hl : l.length ≤ 900000) (nm : Nat) : CallN Tryz.prog 21 [.sl 5 (ePairs l) none] [] nm [(.r nm, .rw 63 5 l.length)] (.sl 5 (ePairs (So.ss l)) (some nm)) := by
  refine callRow_of_dw 51 [ResultVar.tmp 2] TSR_ok (by kernel_rfl) Tryz.func21 rfl Tryz.ntmps21 rfl (by simp) (by simp [D.ok, ePairs_ok]) (by simp [D.okss, ePairs_ok]) ?dbody nm
  case dbody =>
    intro cx hnt hn0
    refine dw_seq ?_
    refine dw_k [] TSR_ok (by kernel_rfl) hnt (by kernel_rfl) (by simp; rfl) ?_
    intro K hK
    refine hK _ _ ?_
    clear hK K
    refine dw_cut (τ := [(.t 0, .sl 5 (ePairs l) none), (.t 3, .v (.slice none 0 0))]) (N1 := 0) ?_ ?_
    · skip
      refine dw_k [] TSR_ok (by kernel_rfl) hnt (by kernel_rfl) (by simp; rfl) ?_
      intro K hK
      refine hK _ _ ?_
      clear hK K
      exact cut_ok (VS.toK (by first | omega | simp [hn0]) (by repeat first | exact trivial | refine And.intro (And.intro (by first | rfl | simp [D.ok, D.oks, D.okss, D.okm, eTm_ok, eTy_ok, eTys_ok, eTms_ok, upto, keyOk, ePairs_ok, argsT]) (by first | exact Or.inl rfl | exact Or.inr ⟨_, rfl, (by repeat first | exact VLe.refl _ | exact VLe.nil _ | exact VLe.untag _ _ _ | refine VLe.ag ?_ | refine VLe.tu ?_ | refine VLeL.cons ?_ ?_ | exact VLeL.nil), trivial⟩ | simp [get, Key.eq, ePairs_ok, argsT])) ?_))
    · refine DW.vs (VS.rowT (x := 3) (by rw [hnt]; decide) 63 5 rfl) ?_
      refine dw_seq ?_
      refine dw_seq ?_
      refine dw_k [] TSR_ok (by kernel_rfl) hnt (by kernel_rfl) (by simp; rfl) ?_
      intro K hK
      refine hK _ _ ?_
      clear hK K
      refine dw_block ?_
      refine dw_loop (ι := { i : Nat // i ≤ l.length }) (fun i => [(.t 3, .sl 5 (ePairs (So.ss (l.take i.1))) (some 0)), (.r 0, .rw 63 5 i.1), (.t 0, .sl 5 (ePairs l) none), (.t 4, .v (.int .i64 ↑i.1))]) 1 (fun i => l.length - i.1) (⟨0, Nat.zero_le _⟩) ((VS.toK (by first | omega | simp [hn0]) (by repeat first | exact trivial | refine And.intro (And.intro (by first | rfl | simp [D.ok, D.oks, D.okss, D.okm, eTm_ok, eTy_ok, eTys_ok, eTms_ok, upto, keyOk, ePairs_ok, argsT]) (by first | exact Or.inl rfl | exact Or.inr ⟨_, rfl, (by repeat first | exact VLe.refl _ | exact VLe.nil _ | exact VLe.untag _ _ _ | refine VLe.ag ?_ | refine VLe.tu ?_ | refine VLeL.cons ?_ ?_ | exact VLeL.nil), trivial⟩ | simp [get, Key.eq, ePairs_ok, argsT])) ?_))) fun i => ?_
      obtain ⟨i, hi⟩ := i
      dsimp only
      by_cases hlt : i < l.length
      · obtain ⟨S, hS⟩ : ∃ S, So.ss (l.take i) = S := ⟨_, rfl⟩
        have hSl : S.length = i := by rw [← hS, So.ss_len, List.length_take]; omega
        have hnx : So.ss (l.take (i + 1)) = So.ss (l.take i ++ [l[i]]) := by rw [List.take_add_one, List.getElem?_eq_getElem hlt]; rfl
        rw [hS]
        refine dw_seq ?_
        refine dw_seq ?_
        refine dw_k [(9, .v (.int .i64 (↑l.length))), (10, .v (.bool true))] TSR_ok (by kernel_rfl) hnt (by kernel_rfl) (by simp; rfl) ?_
        intro K hK
        refine And.intro (dintE (by rw [ePairs_len])) ?_
        refine And.intro (by first | exact dtrue (by omega) | exact VLe.of_eq (by simp [*]; done) | exact dtrue (by first | omega | (simp only [List.length_append, List.length_take, List.length_cons, List.length_nil, eTms_len, eTys_len]; omega) | assumption | (simp_all; done)) | exact VLe.of_eq (by simp_all; done)) ?_
        refine hK _ _ ?_
        clear hK K
        refine dw_cond (t := true) rfl ?_
        rw [if_pos rfl]
        refine dw_skip ?_
        refine dw_seq ?_
        refine dw_block ?_
        refine dw_seq ?_
        refine dw_k [(14, .v (.int .i64 (↑S.length)))] TSR_ok (by kernel_rfl) hnt (by kernel_rfl) (by simp; rfl) ?_
        intro K hK
        refine And.intro (dintE (by rw [ePairs_len])) ?_
        refine hK _ _ ?_
        clear hK K
        refine dw_seq ?_
        refine dw_block ?_
        refine dw_loop (ι := { p : List (Int × Tm) × List (Int × Tm) // p.1 ++ p.2 = S ∧ ∀ s ∈ p.2, l[i].1 < s.1 }) (fun p => [(.t 0, .sl 5 (ePairs l) none), (.t 3, .sl 5 (ePairs S) none), (.t 4, .v (.int .i64 ↑i)), (.t 5, .v (.int .i64 ↑p.1.1.length))]) 1 (fun p => p.1.1.length) (⟨(S, []), by simp, by simp⟩) ((VS.toK (by first | omega | simp [hn0]) (by repeat first | exact trivial | refine And.intro (And.intro (by first | rfl | simp [D.ok, D.oks, D.okss, D.okm, eTm_ok, eTy_ok, eTys_ok, eTms_ok, upto, keyOk, ePairs_ok]) (by first | exact Or.inl rfl | exact Or.inr ⟨_, rfl, (by repeat first | exact VLe.refl _ | exact VLe.nil _ | exact VLe.untag _ _ _ | refine VLe.ag ?_ | refine VLe.tu ?_ | refine VLeL.cons ?_ ?_ | exact VLeL.nil), trivial⟩ | simp [get, Key.eq, ePairs_ok])) ?_))) fun j => ?_
        obtain ⟨⟨P, Q⟩, hPQ, hQ⟩ := j
        dsimp only at hPQ hQ ⊢
        have hPl : P.length + Q.length = i := by rw [← hSl, ← hPQ]; simp
        have hfin : ∀ _ : (∀ s ∈ P, s.1 ≤ l[i].1), So.ss (l.take (i + 1)) = P ++ l[i] :: Q := fun h1 => by
          rw [hnx]; exact So.ss_snoc (by rw [hPQ, hS]) h1 hQ
        have e36 : ((ePairs S).take P.length) = ePairs P := by
          rw [← hPQ, ePairs, List.map_append, List.take_append_of_le_length (by simp), List.take_of_length_le (by simp)]; rfl
        have e48 : ((ePairs S).drop P.length) = ePairs Q := by
          rw [← hPQ, ePairs, List.map_append, List.drop_append_of_le_length (by simp), List.drop_of_length_le (by simp)]; rfl
        have e49 : ([] ++ ePairs P ++ [[.v (.int .i64 l[i].1), .sl 2 (eTys l[i].2.binds) none, .v (.int .i64 l[i].2.kind), .v (.int .i64 l[i].2.index), .sl 4 (eTms l[i].2.args) none]]) ++ ePairs Q = ePairs (P ++ l[i] :: Q) := by
          rw [← ePair_eq]; unfold ePairs; simp
        rcases snoc_cases P with rfl | ⟨P', s, rfl⟩
        · skip
          refine dw_seq ?_
          refine dw_seq ?_
          refine dw_kD [(16, .v (.bool false))] TSR_ok (by kernel_rfl) hnt (by kernel_rfl) (by simp; rfl) ?_
          intro K hK
          refine And.intro (by first | exact dfalse (by simp) | exact VLe.of_eq (by simp)) ?_
          refine hK _ _ (by kernel_rfl) ?_
          clear hK K
          refine dw_cond (t := false) rfl ?_
          rw [if_neg (by simp)]
          refine dw_exit ?_
          refine dw_seq ?_
          refine dw_k [(36, .sl 5 (ePairs []) none)] TSR_ok (by kernel_rfl) hnt (by kernel_rfl) (by simp; rfl) ?_
          intro K hK
          refine And.intro (⟨by omega, by rw [ePairs_len]; omega⟩) ?_
          refine And.intro (VLe.of_eq (congrArg (D.sl 5 · none) e36)) ?_
          refine And.intro (⟨rfl, by rw [ePairs_len]; simp⟩) ?_
          refine hK _ _ ?_
          clear hK K
          refine dw_seq ?_
          refine dw_k [(41, .q [.v (.int .i64 l[i].1), .sl 2 (eTys l[i].2.binds) none, .v (.int .i64 l[i].2.kind), .v (.int .i64 l[i].2.index), .sl 4 (eTms l[i].2.args) none])] TSR_ok (by kernel_rfl) hnt (by kernel_rfl) (by simp; rfl) ?_
          intro K hK
          refine And.intro (by first | exact ⟨by omega, by rw [ePairs_len]; omega⟩ | (simp only [ePairs_len]; omega)) ?_
          refine And.intro (VLe.of_eq (by rw [show (Int.toNat ((i : Nat) : Int)) = i by omega, ePairs_getD l i (by omega), ePair_eq])) ?_
          refine And.intro (⟨rfl, by simp [ePairs_len] <;> omega⟩) ?_
          refine hK _ _ ?_
          clear hK K
          refine dw_k [(48, .sl 5 (ePairs Q) none), (49, .sl 5 (ePairs ([] ++ l[i] :: Q)) (some 17))] TSR_ok (by kernel_rfl) hnt (by kernel_rfl) (by simp; rfl) ?_
          intro K hK
          refine And.intro (⟨by omega, by rw [ePairs_len]; omega⟩) ?_
          refine And.intro (VLe.of_eq (by rw [← e48]; simp)) ?_
          refine And.intro (⟨rfl, by simp [ePairs_len] <;> omega⟩) ?_
          refine And.intro (VLe.of_eq (by rw [← e49]; rfl)) ?_
          refine hK _ _ ?_
          clear hK K
          rw [e49, show (ePairs ([] ++ l[i] :: Q)).length = i + 1 by rw [ePairs_len]; simp <;> first | omega | (simp at hPl; omega)]
          refine dw_k [(12, .v (.int .i64 (↑(i + 1))))] TSR_ok (by kernel_rfl) hnt (by kernel_rfl) (by simp; rfl) ?_
          intro K hK
          refine And.intro (dintE (by first | omega | exact IntWalk.i64_in _ (by omega) | (rw [IntWalk.i64_in _ (by omega)]; omega) | omega | (simp only [List.length_append, List.length_take, List.length_cons, List.length_nil, eTms_len, eTys_len]; omega) | assumption | (simp_all; done))) ?_
          refine hK _ _ ?_
          clear hK K
          refine ⟨⟨i + 1, by omega⟩, by dsimp only; omega, ?_⟩
          dsimp only
          rw [hfin (by simp)]
          exact VS.rowAs (x := 3) (k := 17) (g := 0) (n := 5) [(.t 0, .sl 5 (ePairs l) none), (.t 4, .v (.int .i64 ↑(i + 1)))] hn0 rfl rfl (by decide) (ePairs_ok _ _ _) (by simp [D.ok, ePairs_ok]) (by intro p hp; simp only [List.mem_cons, List.not_mem_nil, or_false] at hp; rcases hp with rfl | rfl <;> exact .inl rfl)
        · have hPk : (P' ++ [s]).length = P'.length + 1 := by simp
          have hs : S[P'.length]? = some s := at_ (P := P') (R := Q) (by rw [← hPQ]; simp) rfl
          rw [hPk] at e36 e48 hPl ⊢
          have hsrt := So.ss_srt (l.take i)
          rw [hS, ← hPQ] at hsrt
          by_cases hlt2 : l[i].1 < s.1
          · skip
            refine dw_seq ?_
            refine dw_seq ?_
            refine dw_kD [(16, .v (.bool true)), (20, .v (.int .i64 (↑P'.length))), (21, .q [.v (.int .i64 s.1), .sl 2 (eTys s.2.binds) none, .v (.int .i64 s.2.kind), .v (.int .i64 s.2.index), .sl 4 (eTms s.2.args) none]), (26, .q [.v (.int .i64 l[i].1), .sl 2 (eTys l[i].2.binds) none, .v (.int .i64 l[i].2.kind), .v (.int .i64 l[i].2.index), .sl 4 (eTms l[i].2.args) none]), (29, .v (.bool true))] TSR_ok (by kernel_rfl) hnt (by kernel_rfl) (by simp; rfl) ?_
            intro K hK
            refine And.intro (by first | exact dtrue (by omega) | exact VLe.of_eq (by simp [*]; done) | exact dtrue (by first | omega | (simp only [List.length_append, List.length_take, List.length_cons, List.length_nil, eTms_len, eTys_len]; omega) | assumption | (simp_all; done)) | exact VLe.of_eq (by simp_all; done)) ?_
            refine And.intro (dintE (by first | omega | exact IntWalk.i64_in _ (by omega) | (rw [IntWalk.i64_in _ (by omega)]; omega) | omega | (simp only [List.length_append, List.length_take, List.length_cons, List.length_nil, eTms_len, eTys_len]; omega) | assumption | (simp_all; done))) ?_
            refine And.intro (⟨by omega, by rw [ePairs_len]; omega⟩) ?_
            refine And.intro (el_at hs) ?_
            refine And.intro (by first | exact ⟨by omega, by rw [ePairs_len]; omega⟩ | (simp only [ePairs_len]; omega)) ?_
            refine And.intro (VLe.of_eq (by rw [show (Int.toNat ((i : Nat) : Int)) = i by omega, ePairs_getD l i (by omega), ePair_eq])) ?_
            refine And.intro (dtrue (by omega)) ?_
            refine hK _ _ (by kernel_rfl) ?_
            clear hK K
            refine dw_cond (t := true) rfl ?_
            rw [if_pos rfl]
            refine dw_skip ?_
            refine dw_block ?_
            refine dw_k [(32, .v (.int .i64 (↑P'.length)))] TSR_ok (by kernel_rfl) hnt (by kernel_rfl) (by simp; rfl) ?_
            intro K hK
            refine And.intro (dintE (by first | omega | exact IntWalk.i64_in _ (by omega) | (rw [IntWalk.i64_in _ (by omega)]; omega) | omega | (simp only [List.length_append, List.length_take, List.length_cons, List.length_nil, eTms_len, eTys_len]; omega) | assumption | (simp_all; done))) ?_
            refine hK _ _ ?_
            clear hK K
            refine ⟨⟨(P', s :: Q), by rw [← hPQ]; simp, fun u hu => (List.mem_cons.1 hu).elim (fun e => e ▸ hlt2) (hQ u)⟩, by simp, (VS.toK (by first | omega | simp [hn0]) (by repeat first | exact trivial | refine And.intro (And.intro (by first | rfl | simp [D.ok, D.oks, D.okss, D.okm, eTm_ok, eTy_ok, eTys_ok, eTms_ok, upto, keyOk, ePairs_ok]) (by first | exact Or.inl rfl | exact Or.inr ⟨_, rfl, (by repeat first | exact VLe.refl _ | exact VLe.nil _ | exact VLe.untag _ _ _ | refine VLe.ag ?_ | refine VLe.tu ?_ | refine VLeL.cons ?_ ?_ | exact VLeL.nil), trivial⟩ | simp [get, Key.eq, ePairs_ok])) ?_))⟩
          · have hall : ∀ u ∈ P' ++ [s], u.1 ≤ l[i].1 := fun u hu => by
              rcases List.mem_append.1 hu with hu | hu
              · have := (So.srt_app.1 (So.srt_app.1 hsrt).1).2.2 u hu s (by simp); omega
              · rw [List.mem_singleton] at hu; subst hu; omega
            refine dw_seq ?_
            refine dw_seq ?_
            refine dw_kD [(16, .v (.bool true)), (20, .v (.int .i64 (↑P'.length))), (21, .q [.v (.int .i64 s.1), .sl 2 (eTys s.2.binds) none, .v (.int .i64 s.2.kind), .v (.int .i64 s.2.index), .sl 4 (eTms s.2.args) none]), (26, .q [.v (.int .i64 l[i].1), .sl 2 (eTys l[i].2.binds) none, .v (.int .i64 l[i].2.kind), .v (.int .i64 l[i].2.index), .sl 4 (eTms l[i].2.args) none]), (29, .v (.bool false))] TSR_ok (by kernel_rfl) hnt (by kernel_rfl) (by simp; rfl) ?_
            intro K hK
            refine And.intro (by first | exact dtrue (by omega) | exact VLe.of_eq (by simp [*]; done) | exact dtrue (by first | omega | (simp only [List.length_append, List.length_take, List.length_cons, List.length_nil, eTms_len, eTys_len]; omega) | assumption | (simp_all; done)) | exact VLe.of_eq (by simp_all; done)) ?_
            refine And.intro (dintE (by first | omega | exact IntWalk.i64_in _ (by omega) | (rw [IntWalk.i64_in _ (by omega)]; omega) | omega | (simp only [List.length_append, List.length_take, List.length_cons, List.length_nil, eTms_len, eTys_len]; omega) | assumption | (simp_all; done))) ?_
            refine And.intro (⟨by omega, by rw [ePairs_len]; omega⟩) ?_
            refine And.intro (el_at hs) ?_
            refine And.intro (by first | exact ⟨by omega, by rw [ePairs_len]; omega⟩ | (simp only [ePairs_len]; omega)) ?_
            refine And.intro (VLe.of_eq (by rw [show (Int.toNat ((i : Nat) : Int)) = i by omega, ePairs_getD l i (by omega), ePair_eq])) ?_
            refine And.intro (dfalse (by omega)) ?_
            refine hK _ _ (by kernel_rfl) ?_
            clear hK K
            refine dw_cond (t := false) rfl ?_
            rw [if_neg (by simp)]
            refine dw_exit ?_
            refine dw_seq ?_
            refine dw_k [(36, .sl 5 (ePairs (P' ++ [s])) none)] TSR_ok (by kernel_rfl) hnt (by kernel_rfl) (by simp; rfl) ?_
            intro K hK
            refine And.intro (⟨by omega, by rw [ePairs_len]; omega⟩) ?_
            refine And.intro (VLe.of_eq (congrArg (D.sl 5 · none) e36)) ?_
            refine And.intro (⟨rfl, by rw [ePairs_len]; simp <;> omega⟩) ?_
            refine hK _ _ ?_
            clear hK K
            refine dw_seq ?_
            refine dw_k [(41, .q [.v (.int .i64 l[i].1), .sl 2 (eTys l[i].2.binds) none, .v (.int .i64 l[i].2.kind), .v (.int .i64 l[i].2.index), .sl 4 (eTms l[i].2.args) none])] TSR_ok (by kernel_rfl) hnt (by kernel_rfl) (by simp; rfl) ?_
            intro K hK
            refine And.intro (by first | exact ⟨by omega, by rw [ePairs_len]; omega⟩ | (simp only [ePairs_len]; omega)) ?_
            refine And.intro (VLe.of_eq (by rw [show (Int.toNat ((i : Nat) : Int)) = i by omega, ePairs_getD l i (by omega), ePair_eq])) ?_
            refine And.intro (⟨rfl, by simp [ePairs_len] <;> omega⟩) ?_
            refine hK _ _ ?_
            clear hK K
            refine dw_k [(48, .sl 5 (ePairs Q) none), (49, .sl 5 (ePairs ((P' ++ [s]) ++ l[i] :: Q)) (some 17))] TSR_ok (by kernel_rfl) hnt (by kernel_rfl) (by simp; rfl) ?_
            intro K hK
            refine And.intro (⟨by omega, by rw [ePairs_len]; omega⟩) ?_
            refine And.intro (VLe.of_eq (by rw [← e48]; simp)) ?_
            refine And.intro (⟨rfl, by simp [ePairs_len] <;> omega⟩) ?_
            refine And.intro (VLe.of_eq (by rw [← e49]; rfl)) ?_
            refine hK _ _ ?_
            clear hK K
            rw [e49, show (ePairs ((P' ++ [s]) ++ l[i] :: Q)).length = i + 1 by rw [ePairs_len]; simp <;> first | omega | (simp at hPl; omega)]
            refine dw_k [(12, .v (.int .i64 (↑(i + 1))))] TSR_ok (by kernel_rfl) hnt (by kernel_rfl) (by simp; rfl) ?_
            intro K hK
            refine And.intro (dintE (by first | omega | exact IntWalk.i64_in _ (by omega) | (rw [IntWalk.i64_in _ (by omega)]; omega) | omega | (simp only [List.length_append, List.length_take, List.length_cons, List.length_nil, eTms_len, eTys_len]; omega) | assumption | (simp_all; done))) ?_
            refine hK _ _ ?_
            clear hK K
            refine ⟨⟨i + 1, by omega⟩, by dsimp only; omega, ?_⟩
            dsimp only
            rw [hfin (hall)]
            exact VS.rowAs (x := 3) (k := 17) (g := 0) (n := 5) [(.t 0, .sl 5 (ePairs l) none), (.t 4, .v (.int .i64 ↑(i + 1)))] hn0 rfl rfl (by decide) (ePairs_ok _ _ _) (by simp [D.ok, ePairs_ok]) (by intro p hp; simp only [List.mem_cons, List.not_mem_nil, or_false] at hp; rcases hp with rfl | rfl <;> exact .inl rfl)
      · rw [List.take_of_length_le (by omega), show i = l.length by omega]
        refine dw_seq ?_
        refine dw_seq ?_
        refine dw_k [(9, .v (.int .i64 (↑l.length))), (10, .v (.bool false))] TSR_ok (by kernel_rfl) hnt (by kernel_rfl) (by simp; rfl) ?_
        intro K hK
        refine And.intro (dintE (by rw [ePairs_len])) ?_
        refine And.intro (by first | exact dfalse (by omega) | exact VLe.of_eq (by simp [*]; done) | exact dfalse (by first | omega | (simp only [List.length_append, List.length_take, List.length_cons, List.length_nil, eTms_len, eTys_len]; omega) | assumption | (simp_all; done)) | exact VLe.of_eq (by simp_all; done)) ?_
        refine hK _ _ ?_
        clear hK K
        refine dw_cond (t := false) rfl ?_
        rw [if_neg (by simp)]
        refine dw_exit ?_
        refine dw_seq ?_
        refine dw_k [] TSR_ok (by kernel_rfl) hnt (by kernel_rfl) (by simp; rfl) ?_
        intro K hK
        refine hK _ _ ?_
        clear hK K
        refine dw_ret ?_
        exact ⟨.inr rfl, 0, rfl, rfl⟩
theorem any_take {m : List Int} {k : Nat} (f : Int → Bool) (h : k < m.length) : (m.take (k + 1)).any f = ((m.take k).any f || f m[k]) := by
  rw [List.take_add_one, List.getElem?_eq_getElem h, Option.toList_some, List.any_append]; simp
theorem rwithoutN_d (l : List (Int × Tm)) (hl : l.length ≤ 900000) (m : List Int) (hm : m.length ≤ 900000) (nm : Nat) : CallN Tryz.prog 24 [.sl 5 (ePairs l) none, .sl 1 (eIs m) none] [] nm [(.r nm, .rw 63 5 (kept m l).length)] (.sl 5 (ePairs (So.ss (kept m l))) (some nm)) := by
  have hkl := kept_len m l
  have hso := rsortedN_d (kept m l) (by omega)
  refine callRow_of_dw 45 [ResultVar.tmp 4] TSR_ok (by kernel_rfl) Tryz.func24 rfl Tryz.ntmps24 rfl (by simp) (by simp [D.ok, ePairs_ok, eIs_ok]) (by simp [D.okss, ePairs_ok, eIs_ok]) ?dbody nm
  case dbody =>
    intro cx hnt hn0
    refine dw_seq ?_
    refine dw_k [] TSR_ok (by kernel_rfl) hnt (by kernel_rfl) (by simp; rfl) ?_
    intro K hK
    refine hK _ _ ?_
    clear hK K
    refine dw_cut (τ := [(.t 0, .sl 5 (ePairs l) none), (.t 1, .sl 1 (eIs m) none), (.t 5, .v (.slice none 0 0))]) (N1 := 0) ?_ ?_
    · skip
      refine dw_k [] TSR_ok (by kernel_rfl) hnt (by kernel_rfl) (by simp; rfl) ?_
      intro K hK
      refine hK _ _ ?_
      clear hK K
      exact cut_ok (VS.toK (by first | omega | simp [hn0]) (by repeat first | exact trivial | refine And.intro (And.intro (by first | rfl | simp [D.ok, D.oks, D.okss, D.okm, eTm_ok, eTy_ok, eTys_ok, eTms_ok, upto, keyOk, ePairs_ok, eIs_ok, argsT]) (by first | exact Or.inl rfl | exact Or.inr ⟨_, rfl, (by repeat first | exact VLe.refl _ | exact VLe.nil _ | exact VLe.untag _ _ _ | refine VLe.ag ?_ | refine VLe.tu ?_ | refine VLeL.cons ?_ ?_ | exact VLeL.nil), trivial⟩ | simp [get, Key.eq, ePairs_ok, eIs_ok, argsT])) ?_))
    · refine DW.vs (VS.rowT (x := 5) (by rw [hnt]; decide) 63 5 rfl) ?_
      refine dw_seq ?_
      refine dw_seq ?_
      refine dw_k [] TSR_ok (by kernel_rfl) hnt (by kernel_rfl) (by simp; rfl) ?_
      intro K hK
      refine hK _ _ ?_
      clear hK K
      refine dw_block ?_
      refine dw_loop (ι := { i : Nat // i ≤ l.length }) (fun i => [(.t 0, .sl 5 (ePairs l) none), (.t 1, .sl 1 (eIs m) none), (.t 5, .sl 5 (ePairs (kept m (l.take i.1))) (some 0)), (.t 6, .v (.int .i64 ↑i.1)), (.r 0, .rw 63 5 (kept m (l.take i.1)).length)]) 1 (fun i => l.length - i.1) (⟨0, Nat.zero_le _⟩) ((VS.toK (by first | omega | simp [hn0]) (by repeat first | exact trivial | refine And.intro (And.intro (by first | rfl | simp [D.ok, D.oks, D.okss, D.okm, eTm_ok, eTy_ok, eTys_ok, eTms_ok, upto, keyOk, ePairs_ok, eIs_ok, argsT]) (by first | exact Or.inl rfl | exact Or.inr ⟨_, rfl, (by repeat first | exact VLe.refl _ | exact VLe.nil _ | exact VLe.untag _ _ _ | refine VLe.ag ?_ | refine VLe.tu ?_ | refine VLeL.cons ?_ ?_ | exact VLeL.nil), trivial⟩ | simp [get, Key.eq, ePairs_ok, eIs_ok, argsT])) ?_))) fun i => ?_
      obtain ⟨i, hi⟩ := i
      dsimp only
      by_cases hlt : i < l.length
      · obtain ⟨K, hK⟩ : ∃ K, kept m (l.take i) = K := ⟨_, rfl⟩
        have hKl := kept_le m l i
        have hkt := kept_take (m := m) hlt
        rw [hK] at hKl hkt ⊢
        obtain ⟨f, hf⟩ : ∃ f : Int → Bool, f = fun x => decide (x = l[i].1) := ⟨_, rfl⟩
        have hdel : del m l[i] = m.any f := by rw [hf]; rfl
        refine dw_seq ?_
        refine dw_seq ?_
        refine dw_k [(11, .v (.int .i64 (↑l.length))), (12, .v (.bool true))] TSR_ok (by kernel_rfl) hnt (by kernel_rfl) (by simp; rfl) ?_
        intro K hK
        refine And.intro (dintE (by rw [ePairs_len])) ?_
        refine And.intro (by first | exact dtrue (by omega) | exact VLe.of_eq (by simp [*]; done) | exact dtrue (by first | omega | (simp only [List.length_append, List.length_take, List.length_cons, List.length_nil, eTms_len, eTys_len]; omega) | assumption | (simp_all; done)) | exact VLe.of_eq (by simp_all; done)) ?_
        refine hK _ _ ?_
        clear hK K
        refine dw_cond (t := true) rfl ?_
        rw [if_pos rfl]
        refine dw_skip ?_
        refine dw_seq ?_
        refine dw_block ?_
        refine dw_seq ?_
        refine dw_k [] TSR_ok (by kernel_rfl) hnt (by kernel_rfl) (by simp; rfl) ?_
        intro K hK
        refine hK _ _ ?_
        clear hK K
        refine dw_seq ?_
        refine dw_seq ?_
        refine dw_k [] TSR_ok (by kernel_rfl) hnt (by kernel_rfl) (by simp; rfl) ?_
        intro K hK
        refine hK _ _ ?_
        clear hK K
        refine dw_block ?_
        refine dw_loop (ι := { k : Nat // k ≤ m.length }) (fun k => [(.t 0, .sl 5 (ePairs l) none), (.t 1, .sl 1 (eIs m) none), (.t 5, .sl 5 (ePairs K) (some 0)), (.t 6, .v (.int .i64 ↑i)), (.t 7, .v (.bool ((m.take k.1).any f))), (.t 8, .v (.int .i64 ↑k.1)), (.r 0, .rw 63 5 K.length)]) 1 (fun k => m.length - k.1) (⟨0, Nat.zero_le _⟩) ((VS.toK (by first | omega | simp [hn0]) (by repeat first | exact trivial | refine And.intro (And.intro (by first | rfl | simp [D.ok, D.oks, D.okss, D.okm, eTm_ok, eTy_ok, eTys_ok, eTms_ok, upto, keyOk, ePairs_ok, eIs_ok]) (by first | exact Or.inl rfl | exact Or.inr ⟨_, rfl, (by repeat first | exact VLe.refl _ | exact VLe.nil _ | exact VLe.untag _ _ _ | refine VLe.ag ?_ | refine VLe.tu ?_ | refine VLeL.cons ?_ ?_ | exact VLeL.nil), trivial⟩ | simp [get, Key.eq, ePairs_ok, eIs_ok])) ?_))) fun k => ?_
        obtain ⟨k, hk⟩ := k
        dsimp only
        by_cases hk2 : k < m.length
        · have hat := any_take f hk2
          cases hb : (m.take k).any f with
          | true =>
            rw [hb, Bool.true_or] at hat
            refine dw_seq ?_
            refine dw_seq ?_
            refine dw_k [(17, .v (.int .i64 (↑m.length))), (18, .v (.bool true))] TSR_ok (by kernel_rfl) hnt (by kernel_rfl) (by simp; rfl) ?_
            intro K hK
            refine And.intro (dintE (by rw [eIs_len])) ?_
            refine And.intro (by first | exact dtrue (by omega) | exact VLe.of_eq (by simp [*]; done) | exact dtrue (by first | omega | (simp only [List.length_append, List.length_take, List.length_cons, List.length_nil, eTms_len, eTys_len]; omega) | assumption | (simp_all; done)) | exact VLe.of_eq (by simp_all; done)) ?_
            refine hK _ _ ?_
            clear hK K
            refine dw_cond (t := true) rfl ?_
            rw [if_pos rfl]
            refine dw_skip ?_
            refine dw_seq ?_
            refine dw_block ?_
            refine dw_kD [(7, .v (.bool ((m.take (k + 1)).any f)))] TSR_ok (by kernel_rfl) hnt (by kernel_rfl) (by simp; rfl) ?_
            intro K hK
            refine And.intro (VLe.of_eq (by rw [hat])) ?_
            refine hK _ _ (by kernel_rfl) ?_
            clear hK K
            refine dw_k [(20, .v (.int .i64 (↑(k + 1))))] TSR_ok (by kernel_rfl) hnt (by kernel_rfl) (by simp; rfl) ?_
            intro K hK
            refine And.intro (dintE (by first | omega | exact IntWalk.i64_in _ (by omega) | (rw [IntWalk.i64_in _ (by omega)]; omega) | omega | (simp only [List.length_append, List.length_take, List.length_cons, List.length_nil, eTms_len, eTys_len]; omega) | assumption | (simp_all; done))) ?_
            refine hK _ _ ?_
            clear hK K
            refine ⟨⟨k + 1, by omega⟩, by first | omega | (dsimp only; omega), (VS.toK (by first | omega | simp [hn0]) (by repeat first | exact trivial | refine And.intro (And.intro (by first | rfl | simp [D.ok, D.oks, D.okss, D.okm, eTm_ok, eTy_ok, eTys_ok, eTms_ok, upto, keyOk, ePairs_ok, eIs_ok]) (by first | exact Or.inl rfl | exact Or.inr ⟨_, rfl, (by repeat first | exact VLe.refl _ | exact VLe.nil _ | exact VLe.untag _ _ _ | refine VLe.ag ?_ | refine VLe.tu ?_ | refine VLeL.cons ?_ ?_ | exact VLeL.nil), trivial⟩ | simp [get, Key.eq, ePairs_ok, eIs_ok])) ?_))⟩
          | false =>
            rw [hb, Bool.false_or] at hat
            have hat2 : (m.take (k + 1)).any f = (m[k] == l[i].1) := by rw [hat, hf]; rfl
            refine dw_seq ?_
            refine dw_seq ?_
            refine dw_k [(17, .v (.int .i64 (↑m.length))), (18, .v (.bool true))] TSR_ok (by kernel_rfl) hnt (by kernel_rfl) (by simp; rfl) ?_
            intro K hK
            refine And.intro (dintE (by rw [eIs_len])) ?_
            refine And.intro (by first | exact dtrue (by omega) | exact VLe.of_eq (by simp [*]; done) | exact dtrue (by first | omega | (simp only [List.length_append, List.length_take, List.length_cons, List.length_nil, eTms_len, eTys_len]; omega) | assumption | (simp_all; done)) | exact VLe.of_eq (by simp_all; done)) ?_
            refine hK _ _ ?_
            clear hK K
            refine dw_cond (t := true) rfl ?_
            rw [if_pos rfl]
            refine dw_skip ?_
            refine dw_seq ?_
            refine dw_block ?_
            refine dw_kD [(25, .q [.v (.int .i64 (m[k]))]), (29, .q [.v (.int .i64 l[i].1), .sl 2 (eTys l[i].2.binds) none, .v (.int .i64 l[i].2.kind), .v (.int .i64 l[i].2.index), .sl 4 (eTms l[i].2.args) none]), (7, .v (.bool ((m.take (k + 1)).any f)))] TSR_ok (by kernel_rfl) hnt (by kernel_rfl) (by simp; rfl) ?_
            intro K hK
            refine And.intro (by first | exact ⟨by omega, by rw [eIs_len]; omega⟩ | (simp only [eIs_len]; omega)) ?_
            refine And.intro (VLe.of_eq (by rw [show (Int.toNat ((k : Nat) : Int)) = k by omega, eIs_getD m k (by omega)])) ?_
            refine And.intro (by first | exact ⟨by omega, by rw [ePairs_len]; omega⟩ | (simp only [ePairs_len]; omega)) ?_
            refine And.intro (VLe.of_eq (by rw [show (Int.toNat ((i : Nat) : Int)) = i by omega, ePairs_getD l i (by omega), ePair_eq])) ?_
            refine And.intro (VLe.of_eq (by rw [hat2])) ?_
            refine hK _ _ (by kernel_rfl) ?_
            clear hK K
            refine dw_k [(20, .v (.int .i64 (↑(k + 1))))] TSR_ok (by kernel_rfl) hnt (by kernel_rfl) (by simp; rfl) ?_
            intro K hK
            refine And.intro (dintE (by first | omega | exact IntWalk.i64_in _ (by omega) | (rw [IntWalk.i64_in _ (by omega)]; omega) | omega | (simp only [List.length_append, List.length_take, List.length_cons, List.length_nil, eTms_len, eTys_len]; omega) | assumption | (simp_all; done))) ?_
            refine hK _ _ ?_
            clear hK K
            refine ⟨⟨k + 1, by omega⟩, by first | omega | (dsimp only; omega), (VS.toK (by first | omega | simp [hn0]) (by repeat first | exact trivial | refine And.intro (And.intro (by first | rfl | simp [D.ok, D.oks, D.okss, D.okm, eTm_ok, eTy_ok, eTys_ok, eTms_ok, upto, keyOk, ePairs_ok, eIs_ok]) (by first | exact Or.inl rfl | exact Or.inr ⟨_, rfl, (by repeat first | exact VLe.refl _ | exact VLe.nil _ | exact VLe.untag _ _ _ | refine VLe.ag ?_ | refine VLe.tu ?_ | refine VLeL.cons ?_ ?_ | exact VLeL.nil), trivial⟩ | simp [get, Key.eq, ePairs_ok, eIs_ok])) ?_))⟩
        · rw [List.take_of_length_le (by omega), ← hdel]
          cases hd : del m l[i] with
          | true =>
            rw [hd, if_pos rfl] at hkt
            refine dw_seq ?_
            refine dw_seq ?_
            refine dw_k [(17, .v (.int .i64 (↑m.length))), (18, .v (.bool false))] TSR_ok (by kernel_rfl) hnt (by kernel_rfl) (by simp; rfl) ?_
            intro K hK
            refine And.intro (dintE (by rw [eIs_len])) ?_
            refine And.intro (by first | exact dfalse (by omega) | exact VLe.of_eq (by simp [*]; done) | exact dfalse (by first | omega | (simp only [List.length_append, List.length_take, List.length_cons, List.length_nil, eTms_len, eTys_len]; omega) | assumption | (simp_all; done)) | exact VLe.of_eq (by simp_all; done)) ?_
            refine hK _ _ ?_
            clear hK K
            refine dw_cond (t := false) rfl ?_
            rw [if_neg (by simp)]
            refine dw_exit ?_
            refine dw_seq ?_
            refine dw_k [] TSR_ok (by kernel_rfl) hnt (by kernel_rfl) (by simp; rfl) ?_
            intro K hK
            refine hK _ _ ?_
            clear hK K
            refine dw_cond (t := false) rfl ?_
            rw [if_neg (by simp)]
            refine dw_skip ?_
            refine dw_k [(14, .v (.int .i64 (↑(i + 1))))] TSR_ok (by kernel_rfl) hnt (by kernel_rfl) (by simp; rfl) ?_
            intro K hK
            refine And.intro (dintE (by first | omega | exact IntWalk.i64_in _ (by omega) | (rw [IntWalk.i64_in _ (by omega)]; omega) | omega | (simp only [List.length_append, List.length_take, List.length_cons, List.length_nil, eTms_len, eTys_len]; omega) | assumption | (simp_all; done))) ?_
            refine hK _ _ ?_
            clear hK K
            rw [← hkt]
            refine ⟨⟨i + 1, by omega⟩, by first | omega | (dsimp only; omega), (VS.toK (by first | omega | simp [hn0]) (by repeat first | exact trivial | refine And.intro (And.intro (by first | rfl | simp [D.ok, D.oks, D.okss, D.okm, eTm_ok, eTy_ok, eTys_ok, eTms_ok, upto, keyOk, ePairs_ok, eIs_ok]) (by first | exact Or.inl rfl | exact Or.inr ⟨_, rfl, (by repeat first | exact VLe.refl _ | exact VLe.nil _ | exact VLe.untag _ _ _ | refine VLe.ag ?_ | refine VLe.tu ?_ | refine VLeL.cons ?_ ?_ | exact VLeL.nil), trivial⟩ | simp [get, Key.eq, ePairs_ok, eIs_ok])) ?_))⟩
          | false =>
            rw [hd, if_neg (by simp)] at hkt
            have hsn := ePairs_snoc K l[i]
            refine dw_seq ?_
            refine dw_seq ?_
            refine dw_k [(17, .v (.int .i64 (↑m.length))), (18, .v (.bool false))] TSR_ok (by kernel_rfl) hnt (by kernel_rfl) (by simp; rfl) ?_
            intro K hK
            refine And.intro (dintE (by rw [eIs_len])) ?_
            refine And.intro (by first | exact dfalse (by omega) | exact VLe.of_eq (by simp [*]; done) | exact dfalse (by first | omega | (simp only [List.length_append, List.length_take, List.length_cons, List.length_nil, eTms_len, eTys_len]; omega) | assumption | (simp_all; done)) | exact VLe.of_eq (by simp_all; done)) ?_
            refine hK _ _ ?_
            clear hK K
            refine dw_cond (t := false) rfl ?_
            rw [if_neg (by simp)]
            refine dw_exit ?_
            refine dw_seq ?_
            refine dw_k [] TSR_ok (by kernel_rfl) hnt (by kernel_rfl) (by simp; rfl) ?_
            intro K hK
            refine hK _ _ ?_
            clear hK K
            refine dw_cond (t := true) rfl ?_
            rw [if_pos rfl]
            refine dw_k [(39, .q [.v (.int .i64 l[i].1), .sl 2 (eTys l[i].2.binds) none, .v (.int .i64 l[i].2.kind), .v (.int .i64 l[i].2.index), .sl 4 (eTms l[i].2.args) none])] TSR_ok (by kernel_rfl) hnt (by kernel_rfl) (by simp; rfl) ?_
            intro K hK
            refine And.intro (by first | exact ⟨by omega, by rw [ePairs_len]; omega⟩ | (simp only [ePairs_len]; omega)) ?_
            refine And.intro (VLe.of_eq (by rw [show (Int.toNat ((i : Nat) : Int)) = i by omega, ePairs_getD l i (by omega), ePair_eq])) ?_
            refine And.intro (⟨by rw [ePairs_len], by rw [ePairs_len]; simp; omega⟩) ?_
            refine hK _ _ ?_
            clear hK K
            rw [hsn, ePairs_len, ← hkt]
            refine dw_k [(14, .v (.int .i64 (↑(i + 1))))] TSR_ok (by kernel_rfl) hnt (by kernel_rfl) (by simp; rfl) ?_
            intro K hK
            refine And.intro (dintE (by first | omega | exact IntWalk.i64_in _ (by omega) | (rw [IntWalk.i64_in _ (by omega)]; omega) | omega | (simp only [List.length_append, List.length_take, List.length_cons, List.length_nil, eTms_len, eTys_len]; omega) | assumption | (simp_all; done))) ?_
            refine hK _ _ ?_
            clear hK K
            refine ⟨⟨i + 1, by omega⟩, by first | omega | (dsimp only; omega), (VS.toK (by first | omega | simp [hn0]) (by repeat first | exact trivial | refine And.intro (And.intro (by first | rfl | simp [D.ok, D.oks, D.okss, D.okm, eTm_ok, eTy_ok, eTys_ok, eTms_ok, upto, keyOk, ePairs_ok, eIs_ok]) (by first | exact Or.inl rfl | exact Or.inr ⟨_, rfl, (by repeat first | exact VLe.refl _ | exact VLe.nil _ | exact VLe.untag _ _ _ | refine VLe.ag ?_ | refine VLe.tu ?_ | refine VLeL.cons ?_ ?_ | exact VLeL.nil), trivial⟩ | simp [get, Key.eq, ePairs_ok, eIs_ok])) ?_))⟩
      · rw [List.take_of_length_le (by omega)]
        refine dw_seq ?_
        refine dw_seq ?_
        refine dw_k [(11, .v (.int .i64 (↑l.length))), (12, .v (.bool false))] TSR_ok (by kernel_rfl) hnt (by kernel_rfl) (by simp; rfl) ?_
        intro K hK
        refine And.intro (dintE (by rw [ePairs_len])) ?_
        refine And.intro (by first | exact dfalse (by omega) | exact VLe.of_eq (by simp [*]; done) | exact dfalse (by first | omega | (simp only [List.length_append, List.length_take, List.length_cons, List.length_nil, eTms_len, eTys_len]; omega) | assumption | (simp_all; done)) | exact VLe.of_eq (by simp_all; done)) ?_
        refine hK _ _ ?_
        clear hK K
        refine dw_cond (t := false) rfl ?_
        rw [if_neg (by simp)]
        refine dw_exit ?_
        refine dw_seq ?_
        refine dw_k [(43, .sl 5 (ePairs (kept m l)) none)] TSR_ok (by kernel_rfl) hnt (by kernel_rfl) (by simp; rfl) ?_
        intro K hK
        refine And.intro (VLe.untag _ _ _) ?_
        refine ⟨_, _, _, Or.inr (hso _), by repeat first | exact trivial | refine And.intro ⟨rfl, rfl⟩ ?_, ?_⟩
        refine hK _ _ ?_
        clear hK K
        refine dw_ret ?_
        exact ⟨.inr rfl, _, rfl, rfl⟩
def TSS_3 : TI := ⟨1, false, [Value.int IntKind.i64 0], [], none, 8, 2, none, false⟩
theorem TSS_3_ok : TypOk Tryz.prog 3 TSS_3 := ⟨by kernel_rfl, by kernel_rfl, by kernel_rfl, by kernel_rfl, by kernel_rfl⟩
def TSS_42 : TI := ⟨1, false, [Value.slice none 0 0], [], some 3, 24, 5, none, false⟩
theorem TSS_42_ok : TypOk Tryz.prog 42 TSS_42 := ⟨by kernel_rfl, by kernel_rfl, by kernel_rfl, by kernel_rfl, by kernel_rfl⟩
def TSS : List (Nat × TI) := [(3, TSS_3), (42, TSS_42)]
theorem TSS_ok : TabOk Tryz.prog TSS := (((TabOk.nil _).cons TSS_42_ok).cons TSS_3_ok)
theorem like_d (l r : List Int) (hl : l.length ≤ 900000) (hr : r.length ≤ 900000) : PureC Tryz.prog 31 [.sl 1 (eIs l) none, .sl 1 (eIs r) none] (.v (.bool (decide (l = r)))) := by
  by_cases hlr : l.length = r.length
  · skip
    refine call_of_dw 0 26 [ResultVar.tmp 4] TSS_ok (by kernel_rfl) Tryz.func31 rfl Tryz.ntmps31 rfl (by simp) ?dwords ?dbody
    case dwords => simp [wordsOk, D.ok, D.oks, D.okss, rnames, inN, ckey, eIs_ok]
    case dbody =>
      intro cx hnt hn0
      refine dw_seq ?_
      refine dw_k [] TSS_ok (by kernel_rfl) hnt (by kernel_rfl) (by simp; rfl) ?_
      intro K hK
      refine hK _ _ ?_
      clear hK K
      refine dw_seq ?_
      refine dw_seq ?_
      refine dw_k [(7, .v (.int .i64 (↑l.length))), (9, .v (.int .i64 (↑r.length))), (10, .v (.bool false))] TSS_ok (by kernel_rfl) hnt (by kernel_rfl) (by simp; rfl) ?_
      intro K hK
      refine And.intro (dintE (by rw [eIs_len])) ?_
      refine And.intro (dintE (by rw [eIs_len])) ?_
      refine And.intro (bneF (by omega)) ?_
      refine hK _ _ ?_
      clear hK K
      refine dw_cond (t := false) rfl ?_
      rw [if_neg (by simp)]
      refine dw_skip ?_
      refine dw_seq ?_
      refine dw_seq ?_
      refine dw_k [] TSS_ok (by kernel_rfl) hnt (by kernel_rfl) (by simp; rfl) ?_
      intro K hK
      refine hK _ _ ?_
      clear hK K
      refine dw_block ?_
      refine dw_loop (ι := { j : Nat // l.take j = r.take j }) (fun j => [(.t 0, .sl 1 (eIs l) none), (.t 1, .sl 1 (eIs r) none), (.t 5, .v (.int .i64 ↑j.1))]) 0 (fun j => l.length - j.1) (⟨0, rfl⟩) ((VS.toK (by first | omega | simp [hn0]) (by repeat first | exact trivial | refine And.intro (And.intro (by first | rfl | simp [D.ok, D.oks, D.okss, D.okm, eTm_ok, eTy_ok, eTys_ok, eTms_ok, upto, keyOk, eIs_ok, argsT]) (by first | exact Or.inl rfl | exact Or.inr ⟨_, rfl, (by repeat first | exact VLe.refl _ | exact VLe.nil _ | exact VLe.untag _ _ _ | refine VLe.ag ?_ | refine VLe.tu ?_ | refine VLeL.cons ?_ ?_ | exact VLeL.nil), trivial⟩ | simp [get, Key.eq, eIs_ok, argsT])) ?_))) fun j => ?_
      obtain ⟨j, hj⟩ := j
      dsimp only
      by_cases hlt : j < l.length
      · have hjr : j < r.length := by omega
        have h1 := List.take_add_one (l := l) (i := j)
        have h2 := List.take_add_one (l := r) (i := j)
        rw [List.getElem?_eq_getElem hlt] at h1
        rw [List.getElem?_eq_getElem hjr] at h2
        by_cases hv : l[j] = r[j]
        · skip
          refine dw_seq ?_
          refine dw_seq ?_
          refine dw_k [(13, .v (.int .i64 (↑l.length))), (14, .v (.bool true))] TSS_ok (by kernel_rfl) hnt (by kernel_rfl) (by simp; rfl) ?_
          intro K hK
          refine And.intro (dintE (by rw [eIs_len])) ?_
          refine And.intro (by first | exact dtrue (by omega) | exact VLe.of_eq (by simp [*]; done) | exact dtrue (by first | omega | (simp only [List.length_append, List.length_take, List.length_cons, List.length_nil, eTms_len, eTys_len]; omega) | assumption | (simp_all; done)) | exact VLe.of_eq (by simp_all; done)) ?_
          refine hK _ _ ?_
          clear hK K
          refine dw_cond (t := true) rfl ?_
          rw [if_pos rfl]
          refine dw_skip ?_
          refine dw_seq ?_
          refine dw_block ?_
          refine dw_seq ?_
          refine dw_kD [(19, .q [.v (.int .i64 (l[j]))]), (23, .q [.v (.int .i64 (r[j]))]), (25, .v (.bool false))] TSS_ok (by kernel_rfl) hnt (by kernel_rfl) (by simp; rfl) ?_
          intro K hK
          refine And.intro (by first | exact ⟨by omega, by rw [eIs_len]; omega⟩ | (simp only [eIs_len]; omega)) ?_
          refine And.intro (VLe.of_eq (by rw [show (Int.toNat ((j : Nat) : Int)) = j by omega, eIs_getD l j (by omega)])) ?_
          refine And.intro (by first | exact ⟨by omega, by rw [eIs_len]; omega⟩ | (simp only [eIs_len]; omega)) ?_
          refine And.intro (VLe.of_eq (by rw [show (Int.toNat ((j : Nat) : Int)) = j by omega, eIs_getD r j (by omega)])) ?_
          refine And.intro (bneF hv) ?_
          refine hK _ _ (by kernel_rfl) ?_
          clear hK K
          refine dw_cond (t := false) rfl ?_
          rw [if_neg (by simp)]
          refine dw_skip ?_
          refine dw_k [(16, .v (.int .i64 (↑(j + 1))))] TSS_ok (by kernel_rfl) hnt (by kernel_rfl) (by simp; rfl) ?_
          intro K hK
          refine And.intro (dintE (by first | omega | exact IntWalk.i64_in _ (by omega) | (rw [IntWalk.i64_in _ (by omega)]; omega) | omega | (simp only [List.length_append, List.length_take, List.length_cons, List.length_nil, eTms_len, eTys_len]; omega) | assumption | (simp_all; done))) ?_
          refine hK _ _ ?_
          clear hK K
          refine ⟨⟨j + 1, by rw [h1, h2, hj, hv]⟩, by first | omega | (dsimp only; omega), (VS.toK (by first | omega | simp [hn0]) (by repeat first | exact trivial | refine And.intro (And.intro (by first | rfl | simp [D.ok, D.oks, D.okss, D.okm, eTm_ok, eTy_ok, eTys_ok, eTms_ok, upto, keyOk, eIs_ok]) (by first | exact Or.inl rfl | exact Or.inr ⟨_, rfl, (by repeat first | exact VLe.refl _ | exact VLe.nil _ | exact VLe.untag _ _ _ | refine VLe.ag ?_ | refine VLe.tu ?_ | refine VLeL.cons ?_ ?_ | exact VLeL.nil), trivial⟩ | simp [get, Key.eq, eIs_ok])) ?_))⟩
        · have e : decide (l = r) = false := by rw [decide_eq_false_iff_not]; exact fun e => hv (by subst e; rfl)
          rw [e]
          refine dw_seq ?_
          refine dw_seq ?_
          refine dw_k [(13, .v (.int .i64 (↑l.length))), (14, .v (.bool true))] TSS_ok (by kernel_rfl) hnt (by kernel_rfl) (by simp; rfl) ?_
          intro K hK
          refine And.intro (dintE (by rw [eIs_len])) ?_
          refine And.intro (by first | exact dtrue (by omega) | exact VLe.of_eq (by simp [*]; done) | exact dtrue (by first | omega | (simp only [List.length_append, List.length_take, List.length_cons, List.length_nil, eTms_len, eTys_len]; omega) | assumption | (simp_all; done)) | exact VLe.of_eq (by simp_all; done)) ?_
          refine hK _ _ ?_
          clear hK K
          refine dw_cond (t := true) rfl ?_
          rw [if_pos rfl]
          refine dw_skip ?_
          refine dw_seq ?_
          refine dw_block ?_
          refine dw_seq ?_
          refine dw_kD [(19, .q [.v (.int .i64 (l[j]))]), (23, .q [.v (.int .i64 (r[j]))]), (25, .v (.bool true))] TSS_ok (by kernel_rfl) hnt (by kernel_rfl) (by simp; rfl) ?_
          intro K hK
          refine And.intro (by first | exact ⟨by omega, by rw [eIs_len]; omega⟩ | (simp only [eIs_len]; omega)) ?_
          refine And.intro (VLe.of_eq (by rw [show (Int.toNat ((j : Nat) : Int)) = j by omega, eIs_getD l j (by omega)])) ?_
          refine And.intro (by first | exact ⟨by omega, by rw [eIs_len]; omega⟩ | (simp only [eIs_len]; omega)) ?_
          refine And.intro (VLe.of_eq (by rw [show (Int.toNat ((j : Nat) : Int)) = j by omega, eIs_getD r j (by omega)])) ?_
          refine And.intro (bneT hv) ?_
          refine hK _ _ (by kernel_rfl) ?_
          clear hK K
          refine dw_cond (t := true) rfl ?_
          rw [if_pos rfl]
          refine dw_seq ?_
          refine dw_k [] TSS_ok (by kernel_rfl) hnt (by kernel_rfl) (by simp; rfl) ?_
          intro K hK
          refine hK _ _ ?_
          clear hK K
          refine dw_ret ?_
          exact retv (N := 0) (.inr rfl) rfl (by repeat first | exact VLe.refl _ | exact VLe.nil _ | exact VLe.untag _ _ _ | refine VLe.ag ?_ | refine VLe.tu ?_ | refine VLeL.cons ?_ ?_ | exact VLeL.nil) (by repeat first | exact trivial | refine And.intro rfl ?_)
      · rw [List.take_of_length_le (by omega), List.take_of_length_le (by omega)] at hj
        rw [decide_eq_true hj]
        refine dw_seq ?_
        refine dw_seq ?_
        refine dw_k [(13, .v (.int .i64 (↑l.length))), (14, .v (.bool false))] TSS_ok (by kernel_rfl) hnt (by kernel_rfl) (by simp; rfl) ?_
        intro K hK
        refine And.intro (dintE (by rw [eIs_len])) ?_
        refine And.intro (by first | exact dfalse (by omega) | exact VLe.of_eq (by simp [*]; done) | exact dfalse (by first | omega | (simp only [List.length_append, List.length_take, List.length_cons, List.length_nil, eTms_len, eTys_len]; omega) | assumption | (simp_all; done)) | exact VLe.of_eq (by simp_all; done)) ?_
        refine hK _ _ ?_
        clear hK K
        refine dw_cond (t := false) rfl ?_
        rw [if_neg (by simp)]
        refine dw_exit ?_
        refine dw_seq ?_
        refine dw_k [] TSS_ok (by kernel_rfl) hnt (by kernel_rfl) (by simp; rfl) ?_
        intro K hK
        refine hK _ _ ?_
        clear hK K
        refine dw_ret ?_
        exact retv (N := 0) (.inr rfl) rfl (by repeat first | exact VLe.refl _ | exact VLe.nil _ | exact VLe.untag _ _ _ | refine VLe.ag ?_ | refine VLe.tu ?_ | refine VLeL.cons ?_ ?_ | exact VLeL.nil) (by repeat first | exact trivial | refine And.intro rfl ?_)
  · have e : decide (l = r) = false := by rw [decide_eq_false_iff_not]; exact fun e => hlr (by rw [e])
    rw [e]
    refine call_of_dw 0 26 [ResultVar.tmp 4] TSS_ok (by kernel_rfl) Tryz.func31 rfl Tryz.ntmps31 rfl (by simp) ?dwords ?dbody
    case dwords => simp [wordsOk, D.ok, D.oks, D.okss, rnames, inN, ckey, eIs_ok]
    case dbody =>
      intro cx hnt hn0
      refine dw_seq ?_
      refine dw_k [] TSS_ok (by kernel_rfl) hnt (by kernel_rfl) (by simp; rfl) ?_
      intro K hK
      refine hK _ _ ?_
      clear hK K
      refine dw_seq ?_
      refine dw_seq ?_
      refine dw_k [(7, .v (.int .i64 (↑l.length))), (9, .v (.int .i64 (↑r.length))), (10, .v (.bool true))] TSS_ok (by kernel_rfl) hnt (by kernel_rfl) (by simp; rfl) ?_
      intro K hK
      refine And.intro (dintE (by rw [eIs_len])) ?_
      refine And.intro (dintE (by rw [eIs_len])) ?_
      refine And.intro (bneT (by omega)) ?_
      refine hK _ _ ?_
      clear hK K
      refine dw_cond (t := true) rfl ?_
      rw [if_pos rfl]
      refine dw_seq ?_
      refine dw_k [] TSS_ok (by kernel_rfl) hnt (by kernel_rfl) (by simp; rfl) ?_
      intro K hK
      refine hK _ _ ?_
      clear hK K
      refine dw_ret ?_
      exact retv (N := 0) (.inr rfl) rfl (by repeat first | exact VLe.refl _ | exact VLe.nil _ | exact VLe.untag _ _ _ | refine VLe.ag ?_ | refine VLe.tu ?_ | refine VLeL.cons ?_ ?_ | exact VLeL.nil) (by repeat first | exact trivial | refine And.intro rfl ?_)
end Go.Proofs.YtiblklcfjakjmaaGreat

namespace Go.Proofs.YtiblklcfjakjmaaGreat
open Go.RowKit
def TL8_45 : TI := ⟨1, false, [Value.slice none 0 0], [], some 47, 24, 5, none, false⟩
theorem TL8_45_ok : TypOk Tryz.prog 45 TL8_45 := ⟨by kernel_rfl, by kernel_rfl, by kernel_rfl, by kernel_rfl, by kernel_rfl⟩
def TL8_3 : TI := ⟨1, false, [Value.int IntKind.i64 0], [], none, 8, 2, none, false⟩
theorem TL8_3_ok : TypOk Tryz.prog 3 TL8_3 := ⟨by kernel_rfl, by kernel_rfl, by kernel_rfl, by kernel_rfl, by kernel_rfl⟩
def TL8_47 : TI := ⟨4, true, [Value.slice none 0 0, Value.int IntKind.i64 0, Value.int IntKind.i64 0, Value.slice none 0 0], [(0, 1, false), (1, 2, true), (3, 1, false)], none, 64, 6, none, false⟩
theorem TL8_47_ok : TypOk Tryz.prog 47 TL8_47 := ⟨by kernel_rfl, by kernel_rfl, by kernel_rfl, by kernel_rfl, by kernel_rfl⟩
def TL8_44 : TI := ⟨2, true, [Value.int IntKind.i64 0, Value.int IntKind.i64 0], [(0, 1, false), (1, 1, false)], none, 16, 6, none, false⟩
theorem TL8_44_ok : TypOk Tryz.prog 44 TL8_44 := ⟨by kernel_rfl, by kernel_rfl, by kernel_rfl, by kernel_rfl, by kernel_rfl⟩
def TL8 : List (Nat × TI) := [(45, TL8_45), (3, TL8_3), (47, TL8_47), (44, TL8_44)]
theorem TL8_ok : TabOk Tryz.prog TL8 := (((((TabOk.nil _).cons TL8_44_ok).cons TL8_47_ok).cons TL8_3_ok).cons TL8_45_ok)
def TL9_30 : TI := ⟨1, false, [Value.slice none 0 0], [], some 99, 24, 5, none, false⟩
theorem TL9_30_ok : TypOk Tryz.prog 30 TL9_30 := ⟨by kernel_rfl, by kernel_rfl, by kernel_rfl, by kernel_rfl, by kernel_rfl⟩
def TL9_3 : TI := ⟨1, false, [Value.int IntKind.i64 0], [], none, 8, 2, none, false⟩
theorem TL9_3_ok : TypOk Tryz.prog 3 TL9_3 := ⟨by kernel_rfl, by kernel_rfl, by kernel_rfl, by kernel_rfl, by kernel_rfl⟩
def TL9_25 : TI := ⟨1, false, [Value.slice none 0 0], [], some 63, 24, 5, none, false⟩
theorem TL9_25_ok : TypOk Tryz.prog 25 TL9_25 := ⟨by kernel_rfl, by kernel_rfl, by kernel_rfl, by kernel_rfl, by kernel_rfl⟩
def TL9_99 : TI := ⟨5, true, [Value.int IntKind.i64 0, Value.slice none 0 0, Value.int IntKind.i64 0, Value.int IntKind.i64 0, Value.slice none 0 0], [(0, 1, false), (1, 4, true)], none, 72, 6, none, false⟩
theorem TL9_99_ok : TypOk Tryz.prog 99 TL9_99 := ⟨by kernel_rfl, by kernel_rfl, by kernel_rfl, by kernel_rfl, by kernel_rfl⟩
def TL9_52 : TI := ⟨4, true, [Value.slice none 0 0, Value.int IntKind.i64 0, Value.int IntKind.i64 0, Value.slice none 0 0], [(0, 1, false), (1, 2, true), (3, 1, false)], none, 64, 6, none, false⟩
theorem TL9_52_ok : TypOk Tryz.prog 52 TL9_52 := ⟨by kernel_rfl, by kernel_rfl, by kernel_rfl, by kernel_rfl, by kernel_rfl⟩
def TL9_63 : TI := ⟨5, true, [Value.int IntKind.i64 0, Value.slice none 0 0, Value.int IntKind.i64 0, Value.int IntKind.i64 0, Value.slice none 0 0], [(0, 1, false), (1, 4, true)], none, 72, 6, none, false⟩
theorem TL9_63_ok : TypOk Tryz.prog 63 TL9_63 := ⟨by kernel_rfl, by kernel_rfl, by kernel_rfl, by kernel_rfl, by kernel_rfl⟩
def TL9 : List (Nat × TI) := [(30, TL9_30), (3, TL9_3), (25, TL9_25), (99, TL9_99), (52, TL9_52), (63, TL9_63)]
theorem TL9_ok : TabOk Tryz.prog TL9 := (((((((TabOk.nil _).cons TL9_63_ok).cons TL9_52_ok).cons TL9_99_ok).cons TL9_25_ok).cons TL9_3_ok).cons TL9_30_ok)

mutual
def lowB : Tm → Bool
  | .mk _ k i a => !(decide (k = 0) && decide (900000 < i)) && lowsB a
def lowsB : List Tm → Bool
  | [] => true
  | t :: l => lowB t && lowsB l
end
theorem lowsB_all : ∀ l : List Tm, lowsB l = l.all lowB
  | [] => rfl
  | t :: l => by rw [lowsB, lowsB_all l]; rfl
theorem lowB_eq (t : Tm) : lowB t = (!(decide (t.kind = 0) && decide (900000 < t.index)) && lowsB t.args) := by cases t; rfl
theorem all_false {l : List Tm} {j : Nat} (h : j < l.length) (hf : lowB l[j] = false) : lowsB l = false := by
  rw [lowsB_all, List.all_eq_false]; exact ⟨l[j], List.getElem_mem h, by rw [hf]; simp⟩
set_option maxHeartbeats 1000000 in
theorem low_list (l : List Tm) (hl : l.length ≤ 1000000) (ih : ∀ t ∈ l, PureC Tryz.prog 50 [.sl 4 (eTms t.args) none] (.v (.bool (lowsB t.args)))) : PureC Tryz.prog 50 [.sl 4 (eTms l) none] (.v (.bool (lowsB l))) := by
  refine call_of_dw 0 35 [ResultVar.tmp 2] TL8_ok (by kernel_rfl) Tryz.func50 rfl Tryz.ntmps50 rfl (by simp) ?dwords ?dbody
  case dwords => simp [wordsOk, D.ok, D.oks, rnames, eTms_ok]
  case dbody =>
    intro cx hnt hn0
    refine dw_seq ?_
    refine dw_k [] TL8_ok (by kernel_rfl) hnt (by kernel_rfl) (by simp; rfl) ?_
    intro K hK
    refine hK _ _ ?_
    clear hK K
    refine dw_seq (dw_seq ?_)
    refine dw_k [] TL8_ok (by kernel_rfl) hnt (by kernel_rfl) (by simp; rfl) ?_
    intro K hK
    refine hK _ _ ?_
    clear hK K
    refine dw_block ?_
    refine dw_loop (ι := { j : Nat // ∀ i (h : i < l.length), i < j → lowB l[i] = true }) (fun j => [(.t 0, .sl 4 (eTms l) none), (.t 3, .v (.int .i64 (j.1 : Int)))]) 1 (fun j => l.length - j.1) ⟨0, fun i h1 h2 => by omega⟩ (VS.toK (by first | omega | simp [hn0]) (by repeat first | exact trivial | refine And.intro (And.intro (by first | rfl | simp [D.ok, D.oks, D.okss, D.okm, eTm_ok, eTy_ok, eTys_ok, eTms_ok, upto, keyOk]) (by first | exact Or.inl rfl | exact Or.inr ⟨_, rfl, (by repeat first | exact VLe.refl _ | exact VLe.nil _ | exact VLe.untag _ _ _ | refine VLe.ag ?_ | refine VLe.tu ?_ | refine VLeL.cons ?_ ?_ | exact VLeL.nil), trivial⟩ | simp [get, Key.eq])) ?_)) fun j => ?_
    obtain ⟨j, hj⟩ := j
    dsimp only
    refine dw_seq (dw_seq ?_)
    by_cases hlt : j < l.length
    · have hi := ih l[j] (List.getElem_mem hlt)
      have hlo := lowB_eq l[j]
      refine dw_k [(7, .v (.bool true))] TL8_ok (by kernel_rfl) hnt (by kernel_rfl) (by simp; rfl) ?_
      intro K hK
      refine And.intro (dtrue (by rw [eTms_len]; omega)) ?_
      refine hK _ _ ?_
      clear hK K
      refine dw_cond (t := true) rfl ?_
      rw [if_pos rfl]
      refine dw_skip ?_
      refine dw_seq (dw_block (dw_seq ?_))
      have hq : (eTms l).getD (j : Int).toNat [] = [.sl 2 (eTys l[j].binds) none, .v (.int .i64 l[j].kind), .v (.int .i64 l[j].index), .sl 4 (eTms l[j].args) none] := by rw [Int.toNat_natCast, eTms_getD l j hlt, eTm_eq]
      have hb : (0 : Int) ≤ (j : Int) ∧ (j : Int) < ((eTms l).length : Int) := ⟨by omega, by rw [eTms_len]; omega⟩
      have hret : lowB l[j] = false → ∀ σ N, DW Tryz.prog cx (.ret) σ N (RetOk TL8 [ResultVar.tmp 2] (.v (.bool (lowsB l))) []) → True := fun _ _ _ _ => trivial
      by_cases hk : l[j].kind = 0
      · by_cases hx : 900000 < l[j].index
        · have hf : lowsB l = false := all_false hlt (by rw [hlo]; simp [hk, hx])
          rw [hf]
          refine dw_k [(12, .q [.sl 2 (eTys l[j].binds) none, .v (.int .i64 l[j].kind), .v (.int .i64 l[j].index), .sl 4 (eTms l[j].args) none]), (16, .v (.bool true)), (20, .q [.sl 2 (eTys l[j].binds) none, .v (.int .i64 l[j].kind), .v (.int .i64 l[j].index), .sl 4 (eTms l[j].args) none]), (24, .v (.bool true))] TL8_ok (by kernel_rfl) hnt (by kernel_rfl) (by simp; rfl) ?_
          intro K hK
          refine And.intro (hb) ?_
          refine And.intro (VLe.of_eq (by rw [hq])) ?_
          refine And.intro (VLe.of_eq (by simp [hk])) ?_
          refine And.intro (hb) ?_
          refine And.intro (VLe.of_eq (by rw [hq])) ?_
          refine And.intro (dtrue hx) ?_
          refine hK _ _ ?_
          clear hK K
          refine dw_cond (t := true) rfl ?_
          rw [if_pos rfl]
          refine dw_seq ?_
          refine dw_k [] TL8_ok (by kernel_rfl) hnt (by kernel_rfl) (by simp; rfl) ?_
          intro K hK
          refine hK _ _ ?_
          clear hK K
          refine dw_ret ?_
          exact retv (N := 0) (.inr rfl) rfl (VLe.refl _) trivial
        · cases hla : lowsB l[j].args with
          | false =>
            have hf : lowsB l = false := all_false hlt (by rw [hlo, hla]; simp)
            rw [hf]
            rw [hla] at hi
            refine dw_k [(12, .q [.sl 2 (eTys l[j].binds) none, .v (.int .i64 l[j].kind), .v (.int .i64 l[j].index), .sl 4 (eTms l[j].args) none]), (16, .v (.bool true)), (20, .q [.sl 2 (eTys l[j].binds) none, .v (.int .i64 l[j].kind), .v (.int .i64 l[j].index), .sl 4 (eTms l[j].args) none]), (24, .v (.bool false)), (29, .q [.sl 2 (eTys l[j].binds) none, .v (.int .i64 l[j].kind), .v (.int .i64 l[j].index), .sl 4 (eTms l[j].args) none])] TL8_ok (by kernel_rfl) hnt (by kernel_rfl) (by simp; rfl) ?_
            intro K hK
            refine And.intro (hb) ?_
            refine And.intro (VLe.of_eq (by rw [hq])) ?_
            refine And.intro (VLe.of_eq (by simp [hk])) ?_
            refine And.intro (hb) ?_
            refine And.intro (VLe.of_eq (by rw [hq])) ?_
            refine And.intro (dfalse hx) ?_
            refine And.intro (hb) ?_
            refine And.intro (VLe.of_eq (by rw [hq])) ?_
            refine ⟨_, _, _, Or.inl (hi), by repeat first | exact trivial | refine And.intro ⟨rfl, rfl⟩ ?_, ?_⟩
            refine hK _ _ ?_
            clear hK K
            refine dw_cond (t := true) rfl ?_
            rw [if_pos rfl]
            refine dw_seq ?_
            refine dw_k [] TL8_ok (by kernel_rfl) hnt (by kernel_rfl) (by simp; rfl) ?_
            intro K hK
            refine hK _ _ ?_
            clear hK K
            refine dw_ret ?_
            exact retv (N := 0) (.inr rfl) rfl (VLe.refl _) trivial
          | true =>
            rw [hla] at hi
            refine dw_k [(12, .q [.sl 2 (eTys l[j].binds) none, .v (.int .i64 l[j].kind), .v (.int .i64 l[j].index), .sl 4 (eTms l[j].args) none]), (16, .v (.bool true)), (20, .q [.sl 2 (eTys l[j].binds) none, .v (.int .i64 l[j].kind), .v (.int .i64 l[j].index), .sl 4 (eTms l[j].args) none]), (24, .v (.bool false)), (29, .q [.sl 2 (eTys l[j].binds) none, .v (.int .i64 l[j].kind), .v (.int .i64 l[j].index), .sl 4 (eTms l[j].args) none])] TL8_ok (by kernel_rfl) hnt (by kernel_rfl) (by simp; rfl) ?_
            intro K hK
            refine And.intro (hb) ?_
            refine And.intro (VLe.of_eq (by rw [hq])) ?_
            refine And.intro (VLe.of_eq (by simp [hk])) ?_
            refine And.intro (hb) ?_
            refine And.intro (VLe.of_eq (by rw [hq])) ?_
            refine And.intro (dfalse hx) ?_
            refine And.intro (hb) ?_
            refine And.intro (VLe.of_eq (by rw [hq])) ?_
            refine ⟨_, _, _, Or.inl (hi), by repeat first | exact trivial | refine And.intro ⟨rfl, rfl⟩ ?_, ?_⟩
            refine hK _ _ ?_
            clear hK K
            refine dw_cond (t := false) rfl ?_
            rw [if_neg (by simp)]
            refine dw_skip ?_
            refine dw_k [(9, .v (.int .i64 ((j + 1 : Nat) : Int)))] TL8_ok (by kernel_rfl) hnt (by kernel_rfl) (by simp; rfl) ?_
            intro K hK
            refine And.intro (dintE (by rw [IntWalk.i64_in _ (by omega)]; omega)) ?_
            refine hK _ _ ?_
            clear hK K
            refine ⟨⟨j + 1, fun i h1 h2 => ?_⟩, by dsimp only; omega, (VS.toK (by first | omega | simp [hn0]) (by repeat first | exact trivial | refine And.intro (And.intro (by first | rfl | simp [D.ok, D.oks, D.okss, D.okm, eTm_ok, eTy_ok, eTys_ok, eTms_ok, upto, keyOk]) (by first | exact Or.inl rfl | exact Or.inr ⟨_, rfl, (by repeat first | exact VLe.refl _ | exact VLe.nil _ | exact VLe.untag _ _ _ | refine VLe.ag ?_ | refine VLe.tu ?_ | refine VLeL.cons ?_ ?_ | exact VLeL.nil), trivial⟩ | simp [get, Key.eq])) ?_))⟩
            by_cases he : i = j
            · subst he; rw [hlo, hla]; simp [hx]
            · exact hj i h1 (by omega)
      · cases hla : lowsB l[j].args with
        | false =>
          have hf : lowsB l = false := all_false hlt (by rw [hlo, hla]; simp)
          rw [hf]
          rw [hla] at hi
          refine dw_k [(12, .q [.sl 2 (eTys l[j].binds) none, .v (.int .i64 l[j].kind), .v (.int .i64 l[j].index), .sl 4 (eTms l[j].args) none]), (16, .v (.bool false)), (29, .q [.sl 2 (eTys l[j].binds) none, .v (.int .i64 l[j].kind), .v (.int .i64 l[j].index), .sl 4 (eTms l[j].args) none])] TL8_ok (by kernel_rfl) hnt (by kernel_rfl) (by simp; rfl) ?_
          intro K hK
          refine And.intro (hb) ?_
          refine And.intro (VLe.of_eq (by rw [hq])) ?_
          refine And.intro (VLe.of_eq (by simp [hk])) ?_
          refine And.intro (hb) ?_
          refine And.intro (VLe.of_eq (by rw [hq])) ?_
          refine ⟨_, _, _, Or.inl (hi), by repeat first | exact trivial | refine And.intro ⟨rfl, rfl⟩ ?_, ?_⟩
          refine hK _ _ ?_
          clear hK K
          refine dw_cond (t := true) rfl ?_
          rw [if_pos rfl]
          refine dw_seq ?_
          refine dw_k [] TL8_ok (by kernel_rfl) hnt (by kernel_rfl) (by simp; rfl) ?_
          intro K hK
          refine hK _ _ ?_
          clear hK K
          refine dw_ret ?_
          exact retv (N := 0) (.inr rfl) rfl (VLe.refl _) trivial
        | true =>
          rw [hla] at hi
          refine dw_k [(12, .q [.sl 2 (eTys l[j].binds) none, .v (.int .i64 l[j].kind), .v (.int .i64 l[j].index), .sl 4 (eTms l[j].args) none]), (16, .v (.bool false)), (29, .q [.sl 2 (eTys l[j].binds) none, .v (.int .i64 l[j].kind), .v (.int .i64 l[j].index), .sl 4 (eTms l[j].args) none])] TL8_ok (by kernel_rfl) hnt (by kernel_rfl) (by simp; rfl) ?_
          intro K hK
          refine And.intro (hb) ?_
          refine And.intro (VLe.of_eq (by rw [hq])) ?_
          refine And.intro (VLe.of_eq (by simp [hk])) ?_
          refine And.intro (hb) ?_
          refine And.intro (VLe.of_eq (by rw [hq])) ?_
          refine ⟨_, _, _, Or.inl (hi), by repeat first | exact trivial | refine And.intro ⟨rfl, rfl⟩ ?_, ?_⟩
          refine hK _ _ ?_
          clear hK K
          refine dw_cond (t := false) rfl ?_
          rw [if_neg (by simp)]
          refine dw_skip ?_
          refine dw_k [(9, .v (.int .i64 ((j + 1 : Nat) : Int)))] TL8_ok (by kernel_rfl) hnt (by kernel_rfl) (by simp; rfl) ?_
          intro K hK
          refine And.intro (dintE (by rw [IntWalk.i64_in _ (by omega)]; omega)) ?_
          refine hK _ _ ?_
          clear hK K
          refine ⟨⟨j + 1, fun i h1 h2 => ?_⟩, by dsimp only; omega, (VS.toK (by first | omega | simp [hn0]) (by repeat first | exact trivial | refine And.intro (And.intro (by first | rfl | simp [D.ok, D.oks, D.okss, D.okm, eTm_ok, eTy_ok, eTys_ok, eTms_ok, upto, keyOk]) (by first | exact Or.inl rfl | exact Or.inr ⟨_, rfl, (by repeat first | exact VLe.refl _ | exact VLe.nil _ | exact VLe.untag _ _ _ | refine VLe.ag ?_ | refine VLe.tu ?_ | refine VLeL.cons ?_ ?_ | exact VLeL.nil), trivial⟩ | simp [get, Key.eq])) ?_))⟩
          by_cases he : i = j
          · subst he; rw [hlo, hla]; simp [hk]
          · exact hj i h1 (by omega)
    · have hf : lowsB l = true := by
        rw [lowsB_all, List.all_eq_true]
        intro t ht
        obtain ⟨i, hi, rfl⟩ := List.getElem_of_mem ht
        exact hj i hi (by omega)
      rw [hf]
      refine dw_k [(7, .v (.bool false))] TL8_ok (by kernel_rfl) hnt (by kernel_rfl) (by simp; rfl) ?_
      intro K hK
      refine And.intro (dfalse (by rw [eTms_len]; omega)) ?_
      refine hK _ _ ?_
      clear hK K
      refine dw_cond (t := false) rfl ?_
      rw [if_neg (by simp)]
      refine dw_exit ?_
      refine dw_seq ?_
      refine dw_k [] TL8_ok (by kernel_rfl) hnt (by kernel_rfl) (by simp; rfl) ?_
      intro K hK
      refine hK _ _ ?_
      clear hK K
      refine dw_ret ?_
      exact retv (N := 0) (.inr rfl) rfl (VLe.refl _) trivial
theorem low_args : ∀ (t : Tm), Wide t → PureC Tryz.prog 50 [.sl 4 (eTms t.args) none] (.v (.bool (lowsB t.args))) := by
  intro t
  induction t using Tm.ind with
  | h bs k i a ih =>
    intro hw
    obtain ⟨_, w2, w3⟩ := hw.inv
    exact low_list a (by omega) fun u hu => ih u hu (w3 u hu)
theorem low_d (l : List Tm) (hl : l.length ≤ 1000000) (hw : ∀ t ∈ l, Wide t) : PureC Tryz.prog 50 [.sl 4 (eTms l) none] (.v (.bool (lowsB l))) := low_list l hl fun t ht => low_args t (hw t ht)
end Go.Proofs.YtiblklcfjakjmaaGreat

namespace Go.Proofs.YtiblklcfjakjmaaGreat
open Go.RowKit
def TTO_3 : TI := ⟨1, false, [Value.int IntKind.i64 0], [], none, 8, 2, none, false⟩
theorem TTO_3_ok : TypOk Tryz.prog 3 TTO_3 := ⟨by kernel_rfl, by kernel_rfl, by kernel_rfl, by kernel_rfl, by kernel_rfl⟩
def TTO_104 : TI := ⟨2, true, [Value.slice none 0 0, Value.int IntKind.i64 0], [(0, 1, false), (1, 1, false)], none, 32, 6, none, false⟩
theorem TTO_104_ok : TypOk Tryz.prog 104 TTO_104 := ⟨by kernel_rfl, by kernel_rfl, by kernel_rfl, by kernel_rfl, by kernel_rfl⟩
def TTO_77 : TI := ⟨2, true, [Value.slice none 0 0, Value.int IntKind.i64 0], [(0, 1, false), (1, 1, false)], none, 32, 6, none, false⟩
theorem TTO_77_ok : TypOk Tryz.prog 77 TTO_77 := ⟨by kernel_rfl, by kernel_rfl, by kernel_rfl, by kernel_rfl, by kernel_rfl⟩
def TTO_47 : TI := ⟨4, true, [Value.slice none 0 0, Value.int IntKind.i64 0, Value.int IntKind.i64 0, Value.slice none 0 0], [(0, 1, false), (1, 2, true), (3, 1, false)], none, 64, 6, none, false⟩
theorem TTO_47_ok : TypOk Tryz.prog 47 TTO_47 := ⟨by kernel_rfl, by kernel_rfl, by kernel_rfl, by kernel_rfl, by kernel_rfl⟩
def TTO_52 : TI := ⟨4, true, [Value.slice none 0 0, Value.int IntKind.i64 0, Value.int IntKind.i64 0, Value.slice none 0 0], [(0, 1, false), (1, 2, true), (3, 1, false)], none, 64, 6, none, false⟩
theorem TTO_52_ok : TypOk Tryz.prog 52 TTO_52 := ⟨by kernel_rfl, by kernel_rfl, by kernel_rfl, by kernel_rfl, by kernel_rfl⟩
def TTO_22 : TI := ⟨1, false, [Value.slice none 0 0], [], some 104, 24, 5, none, false⟩
theorem TTO_22_ok : TypOk Tryz.prog 22 TTO_22 := ⟨by kernel_rfl, by kernel_rfl, by kernel_rfl, by kernel_rfl, by kernel_rfl⟩
def TTO_34 : TI := ⟨1, false, [Value.slice none 0 0], [], some 77, 24, 5, none, false⟩
theorem TTO_34_ok : TypOk Tryz.prog 34 TTO_34 := ⟨by kernel_rfl, by kernel_rfl, by kernel_rfl, by kernel_rfl, by kernel_rfl⟩
def TTO_45 : TI := ⟨1, false, [Value.slice none 0 0], [], some 47, 24, 5, none, false⟩
theorem TTO_45_ok : TypOk Tryz.prog 45 TTO_45 := ⟨by kernel_rfl, by kernel_rfl, by kernel_rfl, by kernel_rfl, by kernel_rfl⟩
def TTO_50 : TI := ⟨1, false, [Value.slice none 0 0], [], some 52, 24, 5, none, false⟩
theorem TTO_50_ok : TypOk Tryz.prog 50 TTO_50 := ⟨by kernel_rfl, by kernel_rfl, by kernel_rfl, by kernel_rfl, by kernel_rfl⟩
def TTO_44 : TI := ⟨2, true, [Value.int IntKind.i64 0, Value.int IntKind.i64 0], [(0, 1, false), (1, 1, false)], none, 16, 6, none, false⟩
theorem TTO_44_ok : TypOk Tryz.prog 44 TTO_44 := ⟨by kernel_rfl, by kernel_rfl, by kernel_rfl, by kernel_rfl, by kernel_rfl⟩
def TTO_49 : TI := ⟨2, true, [Value.int IntKind.i64 0, Value.int IntKind.i64 0], [(0, 1, false), (1, 1, false)], none, 16, 6, none, false⟩
theorem TTO_49_ok : TypOk Tryz.prog 49 TTO_49 := ⟨by kernel_rfl, by kernel_rfl, by kernel_rfl, by kernel_rfl, by kernel_rfl⟩
def TTO : List (Nat × TI) := [(3, TTO_3), (104, TTO_104), (77, TTO_77), (47, TTO_47), (52, TTO_52), (22, TTO_22), (34, TTO_34), (45, TTO_45), (50, TTO_50), (44, TTO_44), (49, TTO_49)]
theorem TTO_ok : TabOk Tryz.prog TTO := ((((((((((((TabOk.nil _).cons TTO_49_ok).cons TTO_44_ok).cons TTO_50_ok).cons TTO_45_ok).cons TTO_34_ok).cons TTO_22_ok).cons TTO_52_ok).cons TTO_47_ok).cons TTO_77_ok).cons TTO_104_ok).cons TTO_3_ok)
theorem eTys_snoc (l : List Ty) (j : Nat) (h : j < l.length) : eTys (l.take j) ++ [[.sl 2 (eTys l[j].args) none, .v (.int .i64 l[j].base)]] = eTys (l.take (j + 1)) := by
  rw [← eTy_eq, List.take_add_one, List.getElem?_eq_getElem h, Option.toList_some, eTys_map, eTys_map, List.map_append]; rfl
theorem eTms_snoc (l : List Tm) (j : Nat) (h : j < l.length) : eTms (l.take j) ++ [[.sl 2 (eTys l[j].binds) none, .v (.int .i64 l[j].kind), .v (.int .i64 l[j].index), .sl 4 (eTms l[j].args) none]] = eTms (l.take (j + 1)) := by
  rw [← eTm_eq, List.take_add_one, List.getElem?_eq_getElem h, Option.toList_some, eTms_map, eTms_map, List.map_append]; rfl
theorem eTys_tlen (l : List Ty) (j : Nat) (h : j ≤ l.length) : (eTys (l.take j)).length = j := by rw [eTys_len, List.length_take]; omega
theorem eTms_tlen (l : List Tm) (j : Nat) (h : j ≤ l.length) : (eTms (l.take j)).length = j := by rw [eTms_len, List.length_take]; omega
theorem to4D_d : ∀ t : Ty, t.size ≤ 900000 → PureC Tryz.prog 57 [.ag (eTy t)] (.ag (eTy t)) := by
  intro t
  induction t using Ty.ind with
  | h ar base ih =>
    intro hz
    rw [Ty.size_eq] at hz
    have hal := Ty.le_sizes ar
    rw [eTy_eq]
    dsimp only [Ty.args, Ty.base]
    refine call_of_dw 0 27 [ResultVar.cell 2 77] TTO_ok (by kernel_rfl) Tryz.func57 rfl Tryz.ntmps57 rfl (by simp) ?dwords ?dbody
    case dwords => simp [wordsOk, D.ok, D.oks, D.okss, rnames, inN, ckey, eTys_ok]
    case dbody =>
      intro cx hnt hn0
      refine dw_seq ?_
      refine dw_k [] TTO_ok (by kernel_rfl) hnt (by kernel_rfl) (by simp; rfl) ?_
      intro K hK
      refine hK _ _ ?_
      clear hK K
      refine dw_seq ?_
      refine dw_k [] TTO_ok (by kernel_rfl) hnt (by kernel_rfl) (by simp; rfl) ?_
      intro K hK
      refine hK _ _ ?_
      clear hK K
      refine DW.vs (VS.row (k := 5) (off := 0) 77 2 rfl) ?_
      refine dw_seq ?_
      refine dw_seq ?_
      refine dw_k [] TTO_ok (by kernel_rfl) hnt (by kernel_rfl) (by simp; rfl) ?_
      intro K hK
      refine hK _ _ ?_
      clear hK K
      refine dw_block ?_
      refine dw_loop (ι := { j : Nat // j ≤ ar.length }) (fun j => [(.t 1, .p 0 0), (.t 2, .p 1 0), (.t 3, .p 5 0), (.t 4, .v (.int .i64 ↑j.1)), (.c 0 0, .sl 2 (eTys ar) none), (.c 0 1, .v (.int .i64 base)), (.c 1 0, .v (.slice none 0 0)), (.c 1 1, .v (.int .i64 0)), (.c 5 0, .sl 2 (eTys (ar.take j.1)) (some 7)), (.c 5 1, .v (.int .i64 base)), (.r 7, .rw 77 2 j.1)]) 8 (fun j => ar.length - j.1) (⟨0, Nat.zero_le _⟩) ((VS.toK (by first | omega | simp [hn0]) (by repeat first | exact trivial | refine And.intro (And.intro (by first | rfl | simp [D.ok, D.oks, D.okss, D.okm, eTm_ok, eTy_ok, eTys_ok, eTms_ok, upto, keyOk, eTys_ok, argsT]) (by first | exact Or.inl rfl | exact Or.inr ⟨_, rfl, (by repeat first | exact VLe.refl _ | exact VLe.nil _ | exact VLe.untag _ _ _ | refine VLe.ag ?_ | refine VLe.tu ?_ | refine VLeL.cons ?_ ?_ | exact VLeL.nil), trivial⟩ | simp [get, Key.eq, eTys_ok, argsT])) ?_))) fun j => ?_
      obtain ⟨j, hj⟩ := j
      dsimp only
      by_cases hlt : j < ar.length
      · have hmem := List.getElem_mem hlt
        have hsz := Ty.size_mem hmem
        have hc := ih _ hmem (by omega)
        rw [eTy_eq] at hc
        have hl1 := eTys_tlen ar j hj
        have hl2 := eTys_tlen ar (j + 1) hlt
        refine dw_seq ?_
        refine dw_seq ?_
        refine dw_k [(11, .v (.int .i64 (↑ar.length))), (12, .v (.bool true))] TTO_ok (by kernel_rfl) hnt (by kernel_rfl) (by simp; rfl) ?_
        intro K hK
        refine And.intro (dintE (by rw [eTys_len])) ?_
        refine And.intro (by first | exact dtrue (by omega) | exact VLe.of_eq (by simp [*]; done) | exact dtrue (by first | omega | (simp only [List.length_append, List.length_take, List.length_cons, List.length_nil, eTms_len, eTys_len]; omega) | assumption | (simp_all; done)) | exact VLe.of_eq (by simp_all; done)) ?_
        refine hK _ _ ?_
        clear hK K
        refine dw_cond (t := true) rfl ?_
        rw [if_pos rfl]
        refine dw_skip ?_
        refine dw_seq ?_
        refine dw_block ?_
        refine dw_kD [(20, .q [.sl 2 (eTys ar[j].args) none, .v (.int .i64 ar[j].base)])] TTO_ok (by kernel_rfl) hnt (by kernel_rfl) (by simp; rfl) ?_
        intro K hK
        refine And.intro (by first | exact ⟨by omega, by rw [eTys_len]; omega⟩ | (simp only [eTys_len]; omega)) ?_
        refine And.intro (VLe.of_eq (by rw [show (Int.toNat ((j : Nat) : Int)) = j by omega, eTys_getD ar j (by omega), eTy_eq])) ?_
        refine ⟨_, _, _, Or.inl (hc), by repeat first | exact trivial | refine And.intro ⟨rfl, rfl⟩ ?_, ?_⟩
        refine And.intro (⟨by omega, by rw [hl1]; simp; omega⟩) ?_
        refine hK _ _ (by kernel_rfl) ?_
        clear hK K
        rw [eTys_snoc ar j hlt, hl2]
        refine dw_k [(14, .v (.int .i64 (↑(j + 1))))] TTO_ok (by kernel_rfl) hnt (by kernel_rfl) (by simp; rfl) ?_
        intro K hK
        refine And.intro (dintE (by first | omega | exact IntWalk.i64_in _ (by omega) | (rw [IntWalk.i64_in _ (by omega)]; omega) | omega | (simp only [List.length_append, List.length_take, List.length_cons, List.length_nil, eTms_len, eTys_len]; omega) | assumption | (simp_all; done))) ?_
        refine hK _ _ ?_
        clear hK K
        refine ⟨⟨j + 1, hlt⟩, by first | omega | (dsimp only; omega), (VS.toK (by first | omega | simp [hn0]) (by repeat first | exact trivial | refine And.intro (And.intro (by first | rfl | simp [D.ok, D.oks, D.okss, D.okm, eTm_ok, eTy_ok, eTys_ok, eTms_ok, upto, keyOk, eTys_ok]) (by first | exact Or.inl rfl | exact Or.inr ⟨_, rfl, (by repeat first | exact VLe.refl _ | exact VLe.nil _ | exact VLe.untag _ _ _ | refine VLe.ag ?_ | refine VLe.tu ?_ | refine VLeL.cons ?_ ?_ | exact VLeL.nil), trivial⟩ | simp [get, Key.eq, eTys_ok])) ?_))⟩
      · rw [List.take_of_length_le (by omega)]
        refine dw_seq ?_
        refine dw_seq ?_
        refine dw_k [(11, .v (.int .i64 (↑ar.length))), (12, .v (.bool false))] TTO_ok (by kernel_rfl) hnt (by kernel_rfl) (by simp; rfl) ?_
        intro K hK
        refine And.intro (dintE (by rw [eTys_len])) ?_
        refine And.intro (by first | exact dfalse (by omega) | exact VLe.of_eq (by simp [*]; done) | exact dfalse (by first | omega | (simp only [List.length_append, List.length_take, List.length_cons, List.length_nil, eTms_len, eTys_len]; omega) | assumption | (simp_all; done)) | exact VLe.of_eq (by simp_all; done)) ?_
        refine hK _ _ ?_
        clear hK K
        refine dw_cond (t := false) rfl ?_
        rw [if_neg (by simp)]
        refine dw_exit ?_
        refine dw_seq ?_
        refine dw_k [] TTO_ok (by kernel_rfl) hnt (by kernel_rfl) (by simp; rfl) ?_
        intro K hK
        refine hK _ _ ?_
        clear hK K
        refine dw_ret ?_
        exact retv (N := 0) (.inr rfl) rfl (by repeat first | exact VLe.refl _ | exact VLe.nil _ | exact VLe.untag _ _ _ | refine VLe.ag ?_ | refine VLe.tu ?_ | refine VLeL.cons ?_ ?_ | exact VLeL.nil) (by repeat first | exact trivial | refine And.intro rfl ?_)
theorem of4D_d : ∀ t : Ty, t.size ≤ 900000 → PureC Tryz.prog 109 [.ag (eTy t)] (.ag (eTy t)) := by
  intro t
  induction t using Ty.ind with
  | h ar base ih =>
    intro hz
    rw [Ty.size_eq] at hz
    have hal := Ty.le_sizes ar
    rw [eTy_eq]
    dsimp only [Ty.args, Ty.base]
    refine call_of_dw 0 27 [ResultVar.cell 2 104] TTO_ok (by kernel_rfl) Tryz.func109 rfl Tryz.ntmps109 rfl (by simp) ?dwords ?dbody
    case dwords => simp [wordsOk, D.ok, D.oks, D.okss, rnames, inN, ckey, eTys_ok]
    case dbody =>
      intro cx hnt hn0
      refine dw_seq ?_
      refine dw_k [] TTO_ok (by kernel_rfl) hnt (by kernel_rfl) (by simp; rfl) ?_
      intro K hK
      refine hK _ _ ?_
      clear hK K
      refine dw_seq ?_
      refine dw_k [] TTO_ok (by kernel_rfl) hnt (by kernel_rfl) (by simp; rfl) ?_
      intro K hK
      refine hK _ _ ?_
      clear hK K
      refine DW.vs (VS.row (k := 5) (off := 0) 104 2 rfl) ?_
      refine dw_seq ?_
      refine dw_seq ?_
      refine dw_k [] TTO_ok (by kernel_rfl) hnt (by kernel_rfl) (by simp; rfl) ?_
      intro K hK
      refine hK _ _ ?_
      clear hK K
      refine dw_block ?_
      refine dw_loop (ι := { j : Nat // j ≤ ar.length }) (fun j => [(.t 1, .p 0 0), (.t 2, .p 1 0), (.t 3, .p 5 0), (.t 4, .v (.int .i64 ↑j.1)), (.c 0 0, .sl 2 (eTys ar) none), (.c 0 1, .v (.int .i64 base)), (.c 1 0, .v (.slice none 0 0)), (.c 1 1, .v (.int .i64 0)), (.c 5 0, .sl 2 (eTys (ar.take j.1)) (some 7)), (.c 5 1, .v (.int .i64 base)), (.r 7, .rw 104 2 j.1)]) 8 (fun j => ar.length - j.1) (⟨0, Nat.zero_le _⟩) ((VS.toK (by first | omega | simp [hn0]) (by repeat first | exact trivial | refine And.intro (And.intro (by first | rfl | simp [D.ok, D.oks, D.okss, D.okm, eTm_ok, eTy_ok, eTys_ok, eTms_ok, upto, keyOk, eTys_ok, argsT]) (by first | exact Or.inl rfl | exact Or.inr ⟨_, rfl, (by repeat first | exact VLe.refl _ | exact VLe.nil _ | exact VLe.untag _ _ _ | refine VLe.ag ?_ | refine VLe.tu ?_ | refine VLeL.cons ?_ ?_ | exact VLeL.nil), trivial⟩ | simp [get, Key.eq, eTys_ok, argsT])) ?_))) fun j => ?_
      obtain ⟨j, hj⟩ := j
      dsimp only
      by_cases hlt : j < ar.length
      · have hmem := List.getElem_mem hlt
        have hsz := Ty.size_mem hmem
        have hc := ih _ hmem (by omega)
        rw [eTy_eq] at hc
        have hl1 := eTys_tlen ar j hj
        have hl2 := eTys_tlen ar (j + 1) hlt
        refine dw_seq ?_
        refine dw_seq ?_
        refine dw_k [(11, .v (.int .i64 (↑ar.length))), (12, .v (.bool true))] TTO_ok (by kernel_rfl) hnt (by kernel_rfl) (by simp; rfl) ?_
        intro K hK
        refine And.intro (dintE (by rw [eTys_len])) ?_
        refine And.intro (by first | exact dtrue (by omega) | exact VLe.of_eq (by simp [*]; done) | exact dtrue (by first | omega | (simp only [List.length_append, List.length_take, List.length_cons, List.length_nil, eTms_len, eTys_len]; omega) | assumption | (simp_all; done)) | exact VLe.of_eq (by simp_all; done)) ?_
        refine hK _ _ ?_
        clear hK K
        refine dw_cond (t := true) rfl ?_
        rw [if_pos rfl]
        refine dw_skip ?_
        refine dw_seq ?_
        refine dw_block ?_
        refine dw_kD [(20, .q [.sl 2 (eTys ar[j].args) none, .v (.int .i64 ar[j].base)])] TTO_ok (by kernel_rfl) hnt (by kernel_rfl) (by simp; rfl) ?_
        intro K hK
        refine And.intro (by first | exact ⟨by omega, by rw [eTys_len]; omega⟩ | (simp only [eTys_len]; omega)) ?_
        refine And.intro (VLe.of_eq (by rw [show (Int.toNat ((j : Nat) : Int)) = j by omega, eTys_getD ar j (by omega), eTy_eq])) ?_
        refine ⟨_, _, _, Or.inl (hc), by repeat first | exact trivial | refine And.intro ⟨rfl, rfl⟩ ?_, ?_⟩
        refine And.intro (⟨by omega, by rw [hl1]; simp; omega⟩) ?_
        refine hK _ _ (by kernel_rfl) ?_
        clear hK K
        rw [eTys_snoc ar j hlt, hl2]
        refine dw_k [(14, .v (.int .i64 (↑(j + 1))))] TTO_ok (by kernel_rfl) hnt (by kernel_rfl) (by simp; rfl) ?_
        intro K hK
        refine And.intro (dintE (by first | omega | exact IntWalk.i64_in _ (by omega) | (rw [IntWalk.i64_in _ (by omega)]; omega) | omega | (simp only [List.length_append, List.length_take, List.length_cons, List.length_nil, eTms_len, eTys_len]; omega) | assumption | (simp_all; done))) ?_
        refine hK _ _ ?_
        clear hK K
        refine ⟨⟨j + 1, hlt⟩, by first | omega | (dsimp only; omega), (VS.toK (by first | omega | simp [hn0]) (by repeat first | exact trivial | refine And.intro (And.intro (by first | rfl | simp [D.ok, D.oks, D.okss, D.okm, eTm_ok, eTy_ok, eTys_ok, eTms_ok, upto, keyOk, eTys_ok]) (by first | exact Or.inl rfl | exact Or.inr ⟨_, rfl, (by repeat first | exact VLe.refl _ | exact VLe.nil _ | exact VLe.untag _ _ _ | refine VLe.ag ?_ | refine VLe.tu ?_ | refine VLeL.cons ?_ ?_ | exact VLeL.nil), trivial⟩ | simp [get, Key.eq, eTys_ok])) ?_))⟩
      · rw [List.take_of_length_le (by omega)]
        refine dw_seq ?_
        refine dw_seq ?_
        refine dw_k [(11, .v (.int .i64 (↑ar.length))), (12, .v (.bool false))] TTO_ok (by kernel_rfl) hnt (by kernel_rfl) (by simp; rfl) ?_
        intro K hK
        refine And.intro (dintE (by rw [eTys_len])) ?_
        refine And.intro (by first | exact dfalse (by omega) | exact VLe.of_eq (by simp [*]; done) | exact dfalse (by first | omega | (simp only [List.length_append, List.length_take, List.length_cons, List.length_nil, eTms_len, eTys_len]; omega) | assumption | (simp_all; done)) | exact VLe.of_eq (by simp_all; done)) ?_
        refine hK _ _ ?_
        clear hK K
        refine dw_cond (t := false) rfl ?_
        rw [if_neg (by simp)]
        refine dw_exit ?_
        refine dw_seq ?_
        refine dw_k [] TTO_ok (by kernel_rfl) hnt (by kernel_rfl) (by simp; rfl) ?_
        intro K hK
        refine hK _ _ ?_
        clear hK K
        refine dw_ret ?_
        exact retv (N := 0) (.inr rfl) rfl (by repeat first | exact VLe.refl _ | exact VLe.nil _ | exact VLe.untag _ _ _ | refine VLe.ag ?_ | refine VLe.tu ?_ | refine VLeL.cons ?_ ?_ | exact VLeL.nil) (by repeat first | exact trivial | refine And.intro rfl ?_)
theorem toTys_d (l : List Ty) (hz : Ty.sizes l ≤ 900000) : PureC Tryz.prog 14 [.sl 2 (eTys l) none] (.sl 2 (eTys l) none) := by
  have hal := Ty.le_sizes l
  refine call_of_dw 0 20 [ResultVar.tmp 2] TTO_ok (by kernel_rfl) Tryz.func14 rfl Tryz.ntmps14 rfl (by simp) ?dwords ?dbody
  case dwords => simp [wordsOk, D.ok, D.oks, D.okss, rnames, inN, ckey, eTys_ok]
  case dbody =>
    intro cx hnt hn0
    refine dw_seq ?_
    refine dw_k [] TTO_ok (by kernel_rfl) hnt (by kernel_rfl) (by simp; rfl) ?_
    intro K hK
    refine hK _ _ ?_
    clear hK K
    refine dw_cut (τ := [(.t 0, .sl 2 (eTys l) none), (.t 3, .v (.slice none 0 0))]) (N1 := 0) ?_ ?_
    · skip
      refine dw_k [] TTO_ok (by kernel_rfl) hnt (by kernel_rfl) (by simp; rfl) ?_
      intro K hK
      refine hK _ _ ?_
      clear hK K
      exact cut_ok (VS.toK (by first | omega | simp [hn0]) (by repeat first | exact trivial | refine And.intro (And.intro (by first | rfl | simp [D.ok, D.oks, D.okss, D.okm, eTm_ok, eTy_ok, eTys_ok, eTms_ok, upto, keyOk, eTys_ok, argsT]) (by first | exact Or.inl rfl | exact Or.inr ⟨_, rfl, (by repeat first | exact VLe.refl _ | exact VLe.nil _ | exact VLe.untag _ _ _ | refine VLe.ag ?_ | refine VLe.tu ?_ | refine VLeL.cons ?_ ?_ | exact VLeL.nil), trivial⟩ | simp [get, Key.eq, eTys_ok, argsT])) ?_))
    · refine DW.vs (VS.rowT (x := 3) (by rw [hnt]; decide) 77 2 rfl) ?_
      refine dw_seq ?_
      refine dw_seq ?_
      refine dw_k [] TTO_ok (by kernel_rfl) hnt (by kernel_rfl) (by simp; rfl) ?_
      intro K hK
      refine hK _ _ ?_
      clear hK K
      refine dw_block ?_
      refine dw_loop (ι := { j : Nat // j ≤ l.length }) (fun j => [(.t 0, .sl 2 (eTys l) none), (.t 3, .sl 2 (eTys (l.take j.1)) (some 0)), (.t 4, .v (.int .i64 ↑j.1)), (.r 0, .rw 77 2 j.1)]) 1 (fun j => l.length - j.1) (⟨0, Nat.zero_le _⟩) ((VS.toK (by first | omega | simp [hn0]) (by repeat first | exact trivial | refine And.intro (And.intro (by first | rfl | simp [D.ok, D.oks, D.okss, D.okm, eTm_ok, eTy_ok, eTys_ok, eTms_ok, upto, keyOk, eTys_ok, argsT]) (by first | exact Or.inl rfl | exact Or.inr ⟨_, rfl, (by repeat first | exact VLe.refl _ | exact VLe.nil _ | exact VLe.untag _ _ _ | refine VLe.ag ?_ | refine VLe.tu ?_ | refine VLeL.cons ?_ ?_ | exact VLeL.nil), trivial⟩ | simp [get, Key.eq, eTys_ok, argsT])) ?_))) fun j => ?_
      obtain ⟨j, hj⟩ := j
      dsimp only
      by_cases hlt : j < l.length
      · have hsz := Ty.size_mem (List.getElem_mem hlt)
        have hc := to4D_d l[j] (by omega)
        rw [eTy_eq] at hc
        have hl1 := eTys_tlen l j hj
        have hl2 := eTys_tlen l (j + 1) hlt
        refine dw_seq ?_
        refine dw_seq ?_
        refine dw_k [(7, .v (.int .i64 (↑l.length))), (8, .v (.bool true))] TTO_ok (by kernel_rfl) hnt (by kernel_rfl) (by simp; rfl) ?_
        intro K hK
        refine And.intro (dintE (by rw [eTys_len])) ?_
        refine And.intro (by first | exact dtrue (by omega) | exact VLe.of_eq (by simp [*]; done) | exact dtrue (by first | omega | (simp only [List.length_append, List.length_take, List.length_cons, List.length_nil, eTms_len, eTys_len]; omega) | assumption | (simp_all; done)) | exact VLe.of_eq (by simp_all; done)) ?_
        refine hK _ _ ?_
        clear hK K
        refine dw_cond (t := true) rfl ?_
        rw [if_pos rfl]
        refine dw_skip ?_
        refine dw_seq ?_
        refine dw_block ?_
        refine dw_k [(14, .q [.sl 2 (eTys l[j].args) none, .v (.int .i64 l[j].base)])] TTO_ok (by kernel_rfl) hnt (by kernel_rfl) (by simp; rfl) ?_
        intro K hK
        refine And.intro (by first | exact ⟨by omega, by rw [eTys_len]; omega⟩ | (simp only [eTys_len]; omega)) ?_
        refine And.intro (VLe.of_eq (by rw [show (Int.toNat ((j : Nat) : Int)) = j by omega, eTys_getD l j (by omega), eTy_eq])) ?_
        refine ⟨_, _, _, Or.inl (hc), by repeat first | exact trivial | refine And.intro ⟨rfl, rfl⟩ ?_, ?_⟩
        refine And.intro (⟨by omega, by rw [hl1]; simp; omega⟩) ?_
        refine hK _ _ ?_
        clear hK K
        rw [eTys_snoc l j hlt, hl2]
        refine dw_k [(10, .v (.int .i64 (↑(j + 1))))] TTO_ok (by kernel_rfl) hnt (by kernel_rfl) (by simp; rfl) ?_
        intro K hK
        refine And.intro (dintE (by first | omega | exact IntWalk.i64_in _ (by omega) | (rw [IntWalk.i64_in _ (by omega)]; omega) | omega | (simp only [List.length_append, List.length_take, List.length_cons, List.length_nil, eTms_len, eTys_len]; omega) | assumption | (simp_all; done))) ?_
        refine hK _ _ ?_
        clear hK K
        refine ⟨⟨j + 1, hlt⟩, by first | omega | (dsimp only; omega), (VS.toK (by first | omega | simp [hn0]) (by repeat first | exact trivial | refine And.intro (And.intro (by first | rfl | simp [D.ok, D.oks, D.okss, D.okm, eTm_ok, eTy_ok, eTys_ok, eTms_ok, upto, keyOk, eTys_ok]) (by first | exact Or.inl rfl | exact Or.inr ⟨_, rfl, (by repeat first | exact VLe.refl _ | exact VLe.nil _ | exact VLe.untag _ _ _ | refine VLe.ag ?_ | refine VLe.tu ?_ | refine VLeL.cons ?_ ?_ | exact VLeL.nil), trivial⟩ | simp [get, Key.eq, eTys_ok])) ?_))⟩
      · rw [List.take_of_length_le (by omega)]
        refine dw_seq ?_
        refine dw_seq ?_
        refine dw_k [(7, .v (.int .i64 (↑l.length))), (8, .v (.bool false))] TTO_ok (by kernel_rfl) hnt (by kernel_rfl) (by simp; rfl) ?_
        intro K hK
        refine And.intro (dintE (by rw [eTys_len])) ?_
        refine And.intro (by first | exact dfalse (by omega) | exact VLe.of_eq (by simp [*]; done) | exact dfalse (by first | omega | (simp only [List.length_append, List.length_take, List.length_cons, List.length_nil, eTms_len, eTys_len]; omega) | assumption | (simp_all; done)) | exact VLe.of_eq (by simp_all; done)) ?_
        refine hK _ _ ?_
        clear hK K
        refine dw_cond (t := false) rfl ?_
        rw [if_neg (by simp)]
        refine dw_exit ?_
        refine dw_seq ?_
        refine dw_k [] TTO_ok (by kernel_rfl) hnt (by kernel_rfl) (by simp; rfl) ?_
        intro K hK
        refine hK _ _ ?_
        clear hK K
        refine dw_ret ?_
        exact retv (N := 0) (.inr rfl) rfl (by repeat first | exact VLe.refl _ | exact VLe.nil _ | exact VLe.untag _ _ _ | refine VLe.ag ?_ | refine VLe.tu ?_ | refine VLeL.cons ?_ ?_ | exact VLeL.nil) (by repeat first | exact trivial | refine And.intro rfl ?_)
theorem ofTys_d (l : List Ty) (hz : Ty.sizes l ≤ 900000) : PureC Tryz.prog 65 [.sl 2 (eTys l) none] (.sl 2 (eTys l) none) := by
  have hal := Ty.le_sizes l
  refine call_of_dw 0 20 [ResultVar.tmp 2] TTO_ok (by kernel_rfl) Tryz.func65 rfl Tryz.ntmps65 rfl (by simp) ?dwords ?dbody
  case dwords => simp [wordsOk, D.ok, D.oks, D.okss, rnames, inN, ckey, eTys_ok]
  case dbody =>
    intro cx hnt hn0
    refine dw_seq ?_
    refine dw_k [] TTO_ok (by kernel_rfl) hnt (by kernel_rfl) (by simp; rfl) ?_
    intro K hK
    refine hK _ _ ?_
    clear hK K
    refine dw_cut (τ := [(.t 0, .sl 2 (eTys l) none), (.t 3, .v (.slice none 0 0))]) (N1 := 0) ?_ ?_
    · skip
      refine dw_k [] TTO_ok (by kernel_rfl) hnt (by kernel_rfl) (by simp; rfl) ?_
      intro K hK
      refine hK _ _ ?_
      clear hK K
      exact cut_ok (VS.toK (by first | omega | simp [hn0]) (by repeat first | exact trivial | refine And.intro (And.intro (by first | rfl | simp [D.ok, D.oks, D.okss, D.okm, eTm_ok, eTy_ok, eTys_ok, eTms_ok, upto, keyOk, eTys_ok, argsT]) (by first | exact Or.inl rfl | exact Or.inr ⟨_, rfl, (by repeat first | exact VLe.refl _ | exact VLe.nil _ | exact VLe.untag _ _ _ | refine VLe.ag ?_ | refine VLe.tu ?_ | refine VLeL.cons ?_ ?_ | exact VLeL.nil), trivial⟩ | simp [get, Key.eq, eTys_ok, argsT])) ?_))
    · refine DW.vs (VS.rowT (x := 3) (by rw [hnt]; decide) 104 2 rfl) ?_
      refine dw_seq ?_
      refine dw_seq ?_
      refine dw_k [] TTO_ok (by kernel_rfl) hnt (by kernel_rfl) (by simp; rfl) ?_
      intro K hK
      refine hK _ _ ?_
      clear hK K
      refine dw_block ?_
      refine dw_loop (ι := { j : Nat // j ≤ l.length }) (fun j => [(.t 0, .sl 2 (eTys l) none), (.t 3, .sl 2 (eTys (l.take j.1)) (some 0)), (.t 4, .v (.int .i64 ↑j.1)), (.r 0, .rw 104 2 j.1)]) 1 (fun j => l.length - j.1) (⟨0, Nat.zero_le _⟩) ((VS.toK (by first | omega | simp [hn0]) (by repeat first | exact trivial | refine And.intro (And.intro (by first | rfl | simp [D.ok, D.oks, D.okss, D.okm, eTm_ok, eTy_ok, eTys_ok, eTms_ok, upto, keyOk, eTys_ok, argsT]) (by first | exact Or.inl rfl | exact Or.inr ⟨_, rfl, (by repeat first | exact VLe.refl _ | exact VLe.nil _ | exact VLe.untag _ _ _ | refine VLe.ag ?_ | refine VLe.tu ?_ | refine VLeL.cons ?_ ?_ | exact VLeL.nil), trivial⟩ | simp [get, Key.eq, eTys_ok, argsT])) ?_))) fun j => ?_
      obtain ⟨j, hj⟩ := j
      dsimp only
      by_cases hlt : j < l.length
      · have hsz := Ty.size_mem (List.getElem_mem hlt)
        have hc := of4D_d l[j] (by omega)
        rw [eTy_eq] at hc
        have hl1 := eTys_tlen l j hj
        have hl2 := eTys_tlen l (j + 1) hlt
        refine dw_seq ?_
        refine dw_seq ?_
        refine dw_k [(7, .v (.int .i64 (↑l.length))), (8, .v (.bool true))] TTO_ok (by kernel_rfl) hnt (by kernel_rfl) (by simp; rfl) ?_
        intro K hK
        refine And.intro (dintE (by rw [eTys_len])) ?_
        refine And.intro (by first | exact dtrue (by omega) | exact VLe.of_eq (by simp [*]; done) | exact dtrue (by first | omega | (simp only [List.length_append, List.length_take, List.length_cons, List.length_nil, eTms_len, eTys_len]; omega) | assumption | (simp_all; done)) | exact VLe.of_eq (by simp_all; done)) ?_
        refine hK _ _ ?_
        clear hK K
        refine dw_cond (t := true) rfl ?_
        rw [if_pos rfl]
        refine dw_skip ?_
        refine dw_seq ?_
        refine dw_block ?_
        refine dw_k [(14, .q [.sl 2 (eTys l[j].args) none, .v (.int .i64 l[j].base)])] TTO_ok (by kernel_rfl) hnt (by kernel_rfl) (by simp; rfl) ?_
        intro K hK
        refine And.intro (by first | exact ⟨by omega, by rw [eTys_len]; omega⟩ | (simp only [eTys_len]; omega)) ?_
        refine And.intro (VLe.of_eq (by rw [show (Int.toNat ((j : Nat) : Int)) = j by omega, eTys_getD l j (by omega), eTy_eq])) ?_
        refine ⟨_, _, _, Or.inl (hc), by repeat first | exact trivial | refine And.intro ⟨rfl, rfl⟩ ?_, ?_⟩
        refine And.intro (⟨by omega, by rw [hl1]; simp; omega⟩) ?_
        refine hK _ _ ?_
        clear hK K
        rw [eTys_snoc l j hlt, hl2]
        refine dw_k [(10, .v (.int .i64 (↑(j + 1))))] TTO_ok (by kernel_rfl) hnt (by kernel_rfl) (by simp; rfl) ?_
        intro K hK
        refine And.intro (dintE (by first | omega | exact IntWalk.i64_in _ (by omega) | (rw [IntWalk.i64_in _ (by omega)]; omega) | omega | (simp only [List.length_append, List.length_take, List.length_cons, List.length_nil, eTms_len, eTys_len]; omega) | assumption | (simp_all; done))) ?_
        refine hK _ _ ?_
        clear hK K
        refine ⟨⟨j + 1, hlt⟩, by first | omega | (dsimp only; omega), (VS.toK (by first | omega | simp [hn0]) (by repeat first | exact trivial | refine And.intro (And.intro (by first | rfl | simp [D.ok, D.oks, D.okss, D.okm, eTm_ok, eTy_ok, eTys_ok, eTms_ok, upto, keyOk, eTys_ok]) (by first | exact Or.inl rfl | exact Or.inr ⟨_, rfl, (by repeat first | exact VLe.refl _ | exact VLe.nil _ | exact VLe.untag _ _ _ | refine VLe.ag ?_ | refine VLe.tu ?_ | refine VLeL.cons ?_ ?_ | exact VLeL.nil), trivial⟩ | simp [get, Key.eq, eTys_ok])) ?_))⟩
      · rw [List.take_of_length_le (by omega)]
        refine dw_seq ?_
        refine dw_seq ?_
        refine dw_k [(7, .v (.int .i64 (↑l.length))), (8, .v (.bool false))] TTO_ok (by kernel_rfl) hnt (by kernel_rfl) (by simp; rfl) ?_
        intro K hK
        refine And.intro (dintE (by rw [eTys_len])) ?_
        refine And.intro (by first | exact dfalse (by omega) | exact VLe.of_eq (by simp [*]; done) | exact dfalse (by first | omega | (simp only [List.length_append, List.length_take, List.length_cons, List.length_nil, eTms_len, eTys_len]; omega) | assumption | (simp_all; done)) | exact VLe.of_eq (by simp_all; done)) ?_
        refine hK _ _ ?_
        clear hK K
        refine dw_cond (t := false) rfl ?_
        rw [if_neg (by simp)]
        refine dw_exit ?_
        refine dw_seq ?_
        refine dw_k [] TTO_ok (by kernel_rfl) hnt (by kernel_rfl) (by simp; rfl) ?_
        intro K hK
        refine hK _ _ ?_
        clear hK K
        refine dw_ret ?_
        exact retv (N := 0) (.inr rfl) rfl (by repeat first | exact VLe.refl _ | exact VLe.nil _ | exact VLe.untag _ _ _ | refine VLe.ag ?_ | refine VLe.tu ?_ | refine VLeL.cons ?_ ?_ | exact VLeL.nil) (by repeat first | exact trivial | refine And.intro rfl ?_)
theorem to6D_d : ∀ t : Tm, t.full ≤ 900000 → PureC Tryz.prog 29 [.ag (eTm t)] (.ag (eTm t)) := by
  intro t
  induction t using Tm.ind with
  | h bs k i ar ih =>
    intro hz
    rw [Tm.full_eq] at hz
    have hbs := toTys_d bs (by omega)
    have hal : ar.length ≤ Tm.fulls ar := by
      clear ih hz
      induction ar with
      | nil => simp
      | cons u l ih => have : 1 ≤ u.full := by obtain ⟨b, k, i, a⟩ := u; rw [Tm.full_eq]; omega
                       simp only [List.length_cons, Tm.fulls]; omega
    rw [eTm_eq]
    dsimp only [Tm.binds, Tm.kind, Tm.index, Tm.args]
    refine call_of_dw 0 35 [ResultVar.cell 2 52] TTO_ok (by kernel_rfl) Tryz.func29 rfl Tryz.ntmps29 rfl (by simp) ?dwords ?dbody
    case dwords => simp [wordsOk, D.ok, D.oks, D.okss, rnames, inN, ckey, eTys_ok, eTms_ok]
    case dbody =>
      intro cx hnt hn0
      refine dw_seq ?_
      refine dw_k [] TTO_ok (by kernel_rfl) hnt (by kernel_rfl) (by simp; rfl) ?_
      intro K hK
      refine hK _ _ ?_
      clear hK K
      refine dw_seq ?_
      refine dw_kD [] TTO_ok (by kernel_rfl) hnt (by kernel_rfl) (by simp; rfl) ?_
      intro K hK
      refine ⟨_, _, _, Or.inl (hbs), by repeat first | exact trivial | refine And.intro ⟨rfl, rfl⟩ ?_, ?_⟩
      refine hK _ _ (by kernel_rfl) ?_
      clear hK K
      refine DW.vs (VS.row (k := 13) (off := 3) 52 4 rfl) ?_
      refine dw_seq ?_
      refine dw_seq ?_
      refine dw_k [] TTO_ok (by kernel_rfl) hnt (by kernel_rfl) (by simp; rfl) ?_
      intro K hK
      refine hK _ _ ?_
      clear hK K
      refine dw_block ?_
      refine dw_loop (ι := { j : Nat // j ≤ ar.length }) (fun j => [(.t 1, .p 0 0), (.t 2, .p 1 0), (.t 3, .p 13 0), (.t 4, .v (.int .i64 ↑j.1)), (.c 0 0, .sl 2 (eTys bs) none), (.c 0 1, .v (.int .i64 k)), (.c 0 2, .v (.int .i64 i)), (.c 0 3, .sl 4 (eTms ar) none), (.c 1 0, .v (.slice none 0 0)), (.c 1 1, .v (.int .i64 0)), (.c 1 2, .v (.int .i64 0)), (.c 1 3, .v (.slice none 0 0)), (.c 13 0, .sl 2 (eTys bs) none), (.c 13 1, .v (.int .i64 k)), (.c 13 2, .v (.int .i64 i)), (.c 13 3, .sl 4 (eTms (ar.take j.1)) (some 15)), (.r 15, .rw 52 4 j.1)]) 16 (fun j => ar.length - j.1) (⟨0, Nat.zero_le _⟩) ((VS.toK (by first | omega | simp [hn0]) (by repeat first | exact trivial | refine And.intro (And.intro (by first | rfl | simp [D.ok, D.oks, D.okss, D.okm, eTm_ok, eTy_ok, eTys_ok, eTms_ok, upto, keyOk, eTys_ok, eTms_ok, argsT]) (by first | exact Or.inl rfl | exact Or.inr ⟨_, rfl, (by repeat first | exact VLe.refl _ | exact VLe.nil _ | exact VLe.untag _ _ _ | refine VLe.ag ?_ | refine VLe.tu ?_ | refine VLeL.cons ?_ ?_ | exact VLeL.nil), trivial⟩ | simp [get, Key.eq, eTys_ok, eTms_ok, argsT])) ?_))) fun j => ?_
      obtain ⟨j, hj⟩ := j
      dsimp only
      by_cases hlt : j < ar.length
      · have hmem := List.getElem_mem hlt
        have hsz := Tm.full_mem hmem
        have hc := ih _ hmem (by omega)
        rw [eTm_eq] at hc
        have hl1 := eTms_tlen ar j hj
        have hl2 := eTms_tlen ar (j + 1) hlt
        refine dw_seq ?_
        refine dw_seq ?_
        refine dw_k [(19, .v (.int .i64 (↑ar.length))), (20, .v (.bool true))] TTO_ok (by kernel_rfl) hnt (by kernel_rfl) (by simp; rfl) ?_
        intro K hK
        refine And.intro (dintE (by rw [eTms_len])) ?_
        refine And.intro (by first | exact dtrue (by omega) | exact VLe.of_eq (by simp [*]; done) | exact dtrue (by first | omega | (simp only [List.length_append, List.length_take, List.length_cons, List.length_nil, eTms_len, eTys_len]; omega) | assumption | (simp_all; done)) | exact VLe.of_eq (by simp_all; done)) ?_
        refine hK _ _ ?_
        clear hK K
        refine dw_cond (t := true) rfl ?_
        rw [if_pos rfl]
        refine dw_skip ?_
        refine dw_seq ?_
        refine dw_block ?_
        refine dw_kD [(28, .q [.sl 2 (eTys ar[j].binds) none, .v (.int .i64 ar[j].kind), .v (.int .i64 ar[j].index), .sl 4 (eTms ar[j].args) none])] TTO_ok (by kernel_rfl) hnt (by kernel_rfl) (by simp; rfl) ?_
        intro K hK
        refine And.intro (by first | exact ⟨by omega, by rw [eTms_len]; omega⟩ | (simp only [eTms_len]; omega)) ?_
        refine And.intro (VLe.of_eq (by rw [show (Int.toNat ((j : Nat) : Int)) = j by omega, eTms_getD ar j (by omega), eTm_eq])) ?_
        refine ⟨_, _, _, Or.inl (hc), by repeat first | exact trivial | refine And.intro ⟨rfl, rfl⟩ ?_, ?_⟩
        refine And.intro (⟨by omega, by rw [hl1]; simp; omega⟩) ?_
        refine hK _ _ (by kernel_rfl) ?_
        clear hK K
        rw [eTms_snoc ar j hlt, hl2]
        refine dw_k [(22, .v (.int .i64 (↑(j + 1))))] TTO_ok (by kernel_rfl) hnt (by kernel_rfl) (by simp; rfl) ?_
        intro K hK
        refine And.intro (dintE (by first | omega | exact IntWalk.i64_in _ (by omega) | (rw [IntWalk.i64_in _ (by omega)]; omega) | omega | (simp only [List.length_append, List.length_take, List.length_cons, List.length_nil, eTms_len, eTys_len]; omega) | assumption | (simp_all; done))) ?_
        refine hK _ _ ?_
        clear hK K
        refine ⟨⟨j + 1, hlt⟩, by first | omega | (dsimp only; omega), (VS.toK (by first | omega | simp [hn0]) (by repeat first | exact trivial | refine And.intro (And.intro (by first | rfl | simp [D.ok, D.oks, D.okss, D.okm, eTm_ok, eTy_ok, eTys_ok, eTms_ok, upto, keyOk, eTys_ok, eTms_ok]) (by first | exact Or.inl rfl | exact Or.inr ⟨_, rfl, (by repeat first | exact VLe.refl _ | exact VLe.nil _ | exact VLe.untag _ _ _ | refine VLe.ag ?_ | refine VLe.tu ?_ | refine VLeL.cons ?_ ?_ | exact VLeL.nil), trivial⟩ | simp [get, Key.eq, eTys_ok, eTms_ok])) ?_))⟩
      · rw [List.take_of_length_le (by omega)]
        refine dw_seq ?_
        refine dw_seq ?_
        refine dw_k [(19, .v (.int .i64 (↑ar.length))), (20, .v (.bool false))] TTO_ok (by kernel_rfl) hnt (by kernel_rfl) (by simp; rfl) ?_
        intro K hK
        refine And.intro (dintE (by rw [eTms_len])) ?_
        refine And.intro (by first | exact dfalse (by omega) | exact VLe.of_eq (by simp [*]; done) | exact dfalse (by first | omega | (simp only [List.length_append, List.length_take, List.length_cons, List.length_nil, eTms_len, eTys_len]; omega) | assumption | (simp_all; done)) | exact VLe.of_eq (by simp_all; done)) ?_
        refine hK _ _ ?_
        clear hK K
        refine dw_cond (t := false) rfl ?_
        rw [if_neg (by simp)]
        refine dw_exit ?_
        refine dw_seq ?_
        refine dw_k [] TTO_ok (by kernel_rfl) hnt (by kernel_rfl) (by simp; rfl) ?_
        intro K hK
        refine hK _ _ ?_
        clear hK K
        refine dw_ret ?_
        exact retv (N := 0) (.inr rfl) rfl (by repeat first | exact VLe.refl _ | exact VLe.nil _ | exact VLe.untag _ _ _ | refine VLe.ag ?_ | refine VLe.tu ?_ | refine VLeL.cons ?_ ?_ | exact VLeL.nil) (by repeat first | exact trivial | refine And.intro rfl ?_)
theorem of6D_d : ∀ t : Tm, t.full ≤ 900000 → PureC Tryz.prog 27 [.ag (eTm t)] (.ag (eTm t)) := by
  intro t
  induction t using Tm.ind with
  | h bs k i ar ih =>
    intro hz
    rw [Tm.full_eq] at hz
    have hbs := ofTys_d bs (by omega)
    have hal : ar.length ≤ Tm.fulls ar := by
      clear ih hz
      induction ar with
      | nil => simp
      | cons u l ih => have : 1 ≤ u.full := by obtain ⟨b, k, i, a⟩ := u; rw [Tm.full_eq]; omega
                       simp only [List.length_cons, Tm.fulls]; omega
    rw [eTm_eq]
    dsimp only [Tm.binds, Tm.kind, Tm.index, Tm.args]
    refine call_of_dw 0 35 [ResultVar.cell 2 47] TTO_ok (by kernel_rfl) Tryz.func27 rfl Tryz.ntmps27 rfl (by simp) ?dwords ?dbody
    case dwords => simp [wordsOk, D.ok, D.oks, D.okss, rnames, inN, ckey, eTys_ok, eTms_ok]
    case dbody =>
      intro cx hnt hn0
      refine dw_seq ?_
      refine dw_k [] TTO_ok (by kernel_rfl) hnt (by kernel_rfl) (by simp; rfl) ?_
      intro K hK
      refine hK _ _ ?_
      clear hK K
      refine dw_seq ?_
      refine dw_kD [] TTO_ok (by kernel_rfl) hnt (by kernel_rfl) (by simp; rfl) ?_
      intro K hK
      refine ⟨_, _, _, Or.inl (hbs), by repeat first | exact trivial | refine And.intro ⟨rfl, rfl⟩ ?_, ?_⟩
      refine hK _ _ (by kernel_rfl) ?_
      clear hK K
      refine DW.vs (VS.row (k := 13) (off := 3) 47 4 rfl) ?_
      refine dw_seq ?_
      refine dw_seq ?_
      refine dw_k [] TTO_ok (by kernel_rfl) hnt (by kernel_rfl) (by simp; rfl) ?_
      intro K hK
      refine hK _ _ ?_
      clear hK K
      refine dw_block ?_
      refine dw_loop (ι := { j : Nat // j ≤ ar.length }) (fun j => [(.t 1, .p 0 0), (.t 2, .p 1 0), (.t 3, .p 13 0), (.t 4, .v (.int .i64 ↑j.1)), (.c 0 0, .sl 2 (eTys bs) none), (.c 0 1, .v (.int .i64 k)), (.c 0 2, .v (.int .i64 i)), (.c 0 3, .sl 4 (eTms ar) none), (.c 1 0, .v (.slice none 0 0)), (.c 1 1, .v (.int .i64 0)), (.c 1 2, .v (.int .i64 0)), (.c 1 3, .v (.slice none 0 0)), (.c 13 0, .sl 2 (eTys bs) none), (.c 13 1, .v (.int .i64 k)), (.c 13 2, .v (.int .i64 i)), (.c 13 3, .sl 4 (eTms (ar.take j.1)) (some 15)), (.r 15, .rw 47 4 j.1)]) 16 (fun j => ar.length - j.1) (⟨0, Nat.zero_le _⟩) ((VS.toK (by first | omega | simp [hn0]) (by repeat first | exact trivial | refine And.intro (And.intro (by first | rfl | simp [D.ok, D.oks, D.okss, D.okm, eTm_ok, eTy_ok, eTys_ok, eTms_ok, upto, keyOk, eTys_ok, eTms_ok, argsT]) (by first | exact Or.inl rfl | exact Or.inr ⟨_, rfl, (by repeat first | exact VLe.refl _ | exact VLe.nil _ | exact VLe.untag _ _ _ | refine VLe.ag ?_ | refine VLe.tu ?_ | refine VLeL.cons ?_ ?_ | exact VLeL.nil), trivial⟩ | simp [get, Key.eq, eTys_ok, eTms_ok, argsT])) ?_))) fun j => ?_
      obtain ⟨j, hj⟩ := j
      dsimp only
      by_cases hlt : j < ar.length
      · have hmem := List.getElem_mem hlt
        have hsz := Tm.full_mem hmem
        have hc := ih _ hmem (by omega)
        rw [eTm_eq] at hc
        have hl1 := eTms_tlen ar j hj
        have hl2 := eTms_tlen ar (j + 1) hlt
        refine dw_seq ?_
        refine dw_seq ?_
        refine dw_k [(19, .v (.int .i64 (↑ar.length))), (20, .v (.bool true))] TTO_ok (by kernel_rfl) hnt (by kernel_rfl) (by simp; rfl) ?_
        intro K hK
        refine And.intro (dintE (by rw [eTms_len])) ?_
        refine And.intro (by first | exact dtrue (by omega) | exact VLe.of_eq (by simp [*]; done) | exact dtrue (by first | omega | (simp only [List.length_append, List.length_take, List.length_cons, List.length_nil, eTms_len, eTys_len]; omega) | assumption | (simp_all; done)) | exact VLe.of_eq (by simp_all; done)) ?_
        refine hK _ _ ?_
        clear hK K
        refine dw_cond (t := true) rfl ?_
        rw [if_pos rfl]
        refine dw_skip ?_
        refine dw_seq ?_
        refine dw_block ?_
        refine dw_kD [(28, .q [.sl 2 (eTys ar[j].binds) none, .v (.int .i64 ar[j].kind), .v (.int .i64 ar[j].index), .sl 4 (eTms ar[j].args) none])] TTO_ok (by kernel_rfl) hnt (by kernel_rfl) (by simp; rfl) ?_
        intro K hK
        refine And.intro (by first | exact ⟨by omega, by rw [eTms_len]; omega⟩ | (simp only [eTms_len]; omega)) ?_
        refine And.intro (VLe.of_eq (by rw [show (Int.toNat ((j : Nat) : Int)) = j by omega, eTms_getD ar j (by omega), eTm_eq])) ?_
        refine ⟨_, _, _, Or.inl (hc), by repeat first | exact trivial | refine And.intro ⟨rfl, rfl⟩ ?_, ?_⟩
        refine And.intro (⟨by omega, by rw [hl1]; simp; omega⟩) ?_
        refine hK _ _ (by kernel_rfl) ?_
        clear hK K
        rw [eTms_snoc ar j hlt, hl2]
        refine dw_k [(22, .v (.int .i64 (↑(j + 1))))] TTO_ok (by kernel_rfl) hnt (by kernel_rfl) (by simp; rfl) ?_
        intro K hK
        refine And.intro (dintE (by first | omega | exact IntWalk.i64_in _ (by omega) | (rw [IntWalk.i64_in _ (by omega)]; omega) | omega | (simp only [List.length_append, List.length_take, List.length_cons, List.length_nil, eTms_len, eTys_len]; omega) | assumption | (simp_all; done))) ?_
        refine hK _ _ ?_
        clear hK K
        refine ⟨⟨j + 1, hlt⟩, by first | omega | (dsimp only; omega), (VS.toK (by first | omega | simp [hn0]) (by repeat first | exact trivial | refine And.intro (And.intro (by first | rfl | simp [D.ok, D.oks, D.okss, D.okm, eTm_ok, eTy_ok, eTys_ok, eTms_ok, upto, keyOk, eTys_ok, eTms_ok]) (by first | exact Or.inl rfl | exact Or.inr ⟨_, rfl, (by repeat first | exact VLe.refl _ | exact VLe.nil _ | exact VLe.untag _ _ _ | refine VLe.ag ?_ | refine VLe.tu ?_ | refine VLeL.cons ?_ ?_ | exact VLeL.nil), trivial⟩ | simp [get, Key.eq, eTys_ok, eTms_ok])) ?_))⟩
      · rw [List.take_of_length_le (by omega)]
        refine dw_seq ?_
        refine dw_seq ?_
        refine dw_k [(19, .v (.int .i64 (↑ar.length))), (20, .v (.bool false))] TTO_ok (by kernel_rfl) hnt (by kernel_rfl) (by simp; rfl) ?_
        intro K hK
        refine And.intro (dintE (by rw [eTms_len])) ?_
        refine And.intro (by first | exact dfalse (by omega) | exact VLe.of_eq (by simp [*]; done) | exact dfalse (by first | omega | (simp only [List.length_append, List.length_take, List.length_cons, List.length_nil, eTms_len, eTys_len]; omega) | assumption | (simp_all; done)) | exact VLe.of_eq (by simp_all; done)) ?_
        refine hK _ _ ?_
        clear hK K
        refine dw_cond (t := false) rfl ?_
        rw [if_neg (by simp)]
        refine dw_exit ?_
        refine dw_seq ?_
        refine dw_k [] TTO_ok (by kernel_rfl) hnt (by kernel_rfl) (by simp; rfl) ?_
        intro K hK
        refine hK _ _ ?_
        clear hK K
        refine dw_ret ?_
        exact retv (N := 0) (.inr rfl) rfl (by repeat first | exact VLe.refl _ | exact VLe.nil _ | exact VLe.untag _ _ _ | refine VLe.ag ?_ | refine VLe.tu ?_ | refine VLeL.cons ?_ ?_ | exact VLeL.nil) (by repeat first | exact trivial | refine And.intro rfl ?_)

end Go.Proofs.YtiblklcfjakjmaaGreat

namespace Go.Proofs.YtiblklcfjakjmaaGreat
open Go.RowKit

theorem of6_d (t : Tm) (h : t.full ≤ 900000) : PureC Tryz.prog 27 [.ag (eTm t)] (.ag (eTm t)) := of6D_d t h
theorem ePairs_take (l : List (Int × Tm)) (j : Nat) (h : j < l.length) : ePairs (l.take (j + 1)) = ePairs (l.take j) ++ [ePair l[j]] := by
  unfold ePairs; rw [List.take_succ_eq_append_getElem h, List.map_append]; rfl
set_option maxHeartbeats 1000000 in
theorem of9_d (l : List (Int × Tm)) (hl : l.length ≤ 100000) (hf : ∀ p ∈ l, p.2.full ≤ 900000) : PureC Tryz.prog 16 [.sl 5 (ePairs l) none] (.sl 5 (ePairs l) none) := by
  refine call_of_dw 0 27 [ResultVar.tmp 2] TL9_ok (by kernel_rfl) Tryz.func16 rfl Tryz.ntmps16 rfl (by simp) ?dwords ?dbody
  case dwords => simp [wordsOk, D.ok, D.oks, rnames, ePairs_ok]
  case dbody =>
    intro cx hnt hn0
    refine dw_seq ?_
    refine dw_k [] TL9_ok (by kernel_rfl) hnt (by kernel_rfl) (by simp; rfl) ?_
    intro K hK
    refine hK _ _ ?_
    clear hK K
    refine dw_seq ?_
    refine dw_k [] TL9_ok (by kernel_rfl) hnt (by kernel_rfl) (by simp; rfl) ?_
    intro K hK
    refine hK _ _ ?_
    clear hK K
    refine dw_seq (dw_seq ?_)
    refine dw_k [] TL9_ok (by kernel_rfl) hnt (by kernel_rfl) (by simp; rfl) ?_
    intro K hK
    refine hK _ _ ?_
    clear hK K
    refine dw_block ?_
    refine dw_loop (ι := Nat) (fun j => (.t 0, .sl 5 (ePairs l) none) :: (.t 4, .v (.int .i64 (j : Int))) :: (.t 3, .sl 5 (ePairs (l.take j)) (some 3)) :: (.r 3, .rw 63 5 (l.take j).length) :: []) 4 (fun j => l.length - j) 0 (VS.trans (VS.rowT (x := 3) (by rw [hnt]; decide) 63 5 rfl) (VS.toK (by first | omega | simp [hn0]) (by repeat first | exact trivial | refine And.intro (And.intro (by first | rfl | simp [D.ok, D.oks, D.okss, D.okm, eTm_ok, eTy_ok, eTys_ok, eTms_ok, upto, keyOk, ePairs_ok]) (by first | exact Or.inl rfl | exact Or.inr ⟨_, rfl, (by repeat first | exact VLe.refl _ | exact VLe.nil _ | exact VLe.untag _ _ _ | refine VLe.ag ?_ | refine VLe.tu ?_ | refine VLeL.cons ?_ ?_ | exact VLeL.nil), trivial⟩ | simp [get, Key.eq, ePairs_ok])) ?_))) fun j => ?_
    refine dw_seq (dw_seq ?_)
    by_cases hlt : j < l.length
    · have ho := of6_d l[j].2 (hf _ (List.getElem_mem hlt))
      rw [eTm_eq] at ho
      have hq : (ePairs l).getD (j : Int).toNat [] = [.v (.int .i64 l[j].1), .sl 2 (eTys l[j].2.binds) none, .v (.int .i64 l[j].2.kind), .v (.int .i64 l[j].2.index), .sl 4 (eTms l[j].2.args) none] := by rw [Int.toNat_natCast, ePairs_getD l j hlt, ePair_eq]
      have hb : (0 : Int) ≤ (j : Int) ∧ (j : Int) < ((ePairs l).length : Int) := ⟨by omega, by rw [ePairs_len]; omega⟩
      refine dw_k [(8, .v (.bool true))] TL9_ok (by kernel_rfl) hnt (by kernel_rfl) (by simp; rfl) ?_
      intro K hK
      refine And.intro (dtrue (by rw [ePairs_len]; omega)) ?_
      refine hK _ _ ?_
      clear hK K
      refine dw_cond (t := true) rfl ?_
      rw [if_pos rfl]
      refine dw_skip ?_
      refine dw_seq (dw_block ?_)
      refine dw_kD [(14, .q [.v (.int .i64 l[j].1), .sl 2 (eTys l[j].2.binds) none, .v (.int .i64 l[j].2.kind), .v (.int .i64 l[j].2.index), .sl 4 (eTms l[j].2.args) none]), (19, .q [.v (.int .i64 l[j].1), .sl 2 (eTys l[j].2.binds) none, .v (.int .i64 l[j].2.kind), .v (.int .i64 l[j].2.index), .sl 4 (eTms l[j].2.args) none]), (25, .sl 5 (ePairs (l.take (j + 1))) (some 3))] TL9_ok (by kernel_rfl) hnt (by kernel_rfl) (by simp; rfl) ?_
      intro K hK
      refine And.intro (hb) ?_
      refine And.intro (VLe.of_eq (by rw [hq])) ?_
      refine And.intro (hb) ?_
      refine And.intro (VLe.of_eq (by rw [hq])) ?_
      refine ⟨_, _, _, Or.inl (ho), by repeat first | exact trivial | refine And.intro ⟨rfl, rfl⟩ ?_, ?_⟩
      refine And.intro (⟨by rw [ePairs_len], by rw [ePairs_len, List.length_take]; simp; omega⟩) ?_
      refine And.intro (VLe.of_eq (by rw [ePairs_take l j hlt, ePair_eq])) ?_
      refine hK _ _ (by kernel_rfl) ?_
      clear hK K
      refine dw_k [(10, .v (.int .i64 ((j + 1 : Nat) : Int)))] TL9_ok (by kernel_rfl) hnt (by kernel_rfl) (by simp; rfl) ?_
      intro K hK
      refine And.intro (dintE (by rw [IntWalk.i64_in _ (by omega)]; omega)) ?_
      refine hK _ _ ?_
      clear hK K
      have hl2 : (l.take (j + 1)).length = j + 1 := by rw [List.length_take]; omega
      have hl3 : (ePairs (l.take j)).length = j := by rw [ePairs_len, List.length_take]; omega
      refine ⟨j + 1, by omega, ?_⟩
      rw [hl2]
      exact (VS.toK (by first | omega | simp [hn0]) (by repeat first | exact trivial | refine And.intro (And.intro (by first | rfl | simp [D.ok, D.oks, D.okss, D.okm, eTm_ok, eTy_ok, eTys_ok, eTms_ok, upto, keyOk, ePairs_ok, hl3]) (by first | exact Or.inl rfl | exact Or.inr ⟨_, rfl, (by repeat first | exact VLe.refl _ | exact VLe.nil _ | exact VLe.untag _ _ _ | refine VLe.ag ?_ | refine VLe.tu ?_ | refine VLeL.cons ?_ ?_ | exact VLeL.nil), trivial⟩ | simp [get, Key.eq, ePairs_ok, hl3])) ?_))
    · skip
      refine dw_k [(8, .v (.bool false))] TL9_ok (by kernel_rfl) hnt (by kernel_rfl) (by simp; rfl) ?_
      intro K hK
      refine And.intro (dfalse (by rw [ePairs_len]; omega)) ?_
      refine hK _ _ ?_
      clear hK K
      refine dw_cond (t := false) rfl ?_
      rw [if_neg (by simp)]
      refine dw_exit ?_
      refine dw_seq ?_
      rw [List.take_of_length_le (by omega)]
      refine dw_k [] TL9_ok (by kernel_rfl) hnt (by kernel_rfl) (by simp; rfl) ?_
      intro K hK
      refine hK _ _ ?_
      clear hK K
      refine dw_ret ?_
      exact retv (N := 0) (.inr rfl) rfl (by repeat first | exact VLe.refl _ | exact VLe.nil _ | exact VLe.untag _ _ _ | refine VLe.ag ?_ | refine VLe.tu ?_ | refine VLeL.cons ?_ ?_ | exact VLeL.nil) trivial
end Go.Proofs.YtiblklcfjakjmaaGreat

namespace Go.Proofs.YtiblklcfjakjmaaGreat
open Go.RowKit
def TF4_3 : TI := ⟨1, false, [Value.int IntKind.i64 0], [], none, 8, 2, none, false⟩
theorem TF4_3_ok : TypOk Tryz.prog 3 TF4_3 := ⟨by kernel_rfl, by kernel_rfl, by kernel_rfl, by kernel_rfl, by kernel_rfl⟩
def TF4_104 : TI := ⟨2, true, [Value.slice none 0 0, Value.int IntKind.i64 0], [(0, 1, false), (1, 1, false)], none, 32, 6, none, false⟩
theorem TF4_104_ok : TypOk Tryz.prog 104 TF4_104 := ⟨by kernel_rfl, by kernel_rfl, by kernel_rfl, by kernel_rfl, by kernel_rfl⟩
def TF4_22 : TI := ⟨1, false, [Value.slice none 0 0], [], some 104, 24, 5, none, false⟩
theorem TF4_22_ok : TypOk Tryz.prog 22 TF4_22 := ⟨by kernel_rfl, by kernel_rfl, by kernel_rfl, by kernel_rfl, by kernel_rfl⟩
def TF4 : List (Nat × TI) := [(3, TF4_3), (104, TF4_104), (22, TF4_22)]
theorem TF4_ok : TabOk Tryz.prog TF4 := ((((TabOk.nil _).cons TF4_22_ok).cons TF4_104_ok).cons TF4_3_ok)

mutual
def fewT (most : Int) : Ty → Int → Int
  | .mk a _, d => if d ≤ 0 then most + 1 else fewTs most a (d - 1) 1
def fewTs (most : Int) : List Ty → Int → Int → Int
  | [], _, n => n
  | t :: l, d, n => if n ≤ most then fewTs most l d (n + fewT most t d) else n
end
theorem fewTs_le {most : Int} (hm : 0 ≤ most) {B : Int} (hB : 0 ≤ B) : ∀ (l : List Ty) (d n : Int), (∀ t ∈ l, 1 ≤ fewT most t d ∧ fewT most t d ≤ B) → 1 ≤ n → n ≤ most + B → 1 ≤ fewTs most l d n ∧ fewTs most l d n ≤ most + B
  | [], d, n, _, h0, h1 => by rw [fewTs]; exact ⟨h0, h1⟩
  | t :: l, d, n, h, h0, h1 => by
    rw [fewTs]
    split
    · have := h t (by simp)
      exact fewTs_le hm hB l d _ (fun u hu => h u (by simp [hu])) (by omega) (by omega)
    · exact ⟨h0, h1⟩
theorem fewT_le {most : Int} (hm : 1 ≤ most) : ∀ (k : Nat) (t : Ty) (d : Int), d ≤ k → 1 ≤ fewT most t d ∧ fewT most t d ≤ most * k + most + 1
  | 0, .mk a b, d, hd => by
    rw [fewT, if_pos (by omega)]
    have e : most * ((0 : Nat) : Int) = 0 := Int.mul_zero _
    rw [e]; omega
  | k + 1, .mk a b, d, hd => by
    rw [fewT]
    have e : most * ((k + 1 : Nat) : Int) = most * (k : Int) + most := by rw [Int.natCast_add, Int.mul_add]; simp
    have h0 : 0 ≤ most * (k : Int) := Int.mul_nonneg (by omega) (by omega)
    split
    · rw [e]; omega
    · have := fewTs_le (most := most) (by omega) (B := most * k + most + 1) (by omega) a (d - 1) 1 (fun t _ => fewT_le hm k t (d - 1) (by omega)) (by omega) (by omega)
      rw [e]; omega
set_option maxHeartbeats 1000000 in
theorem few4_d (most : Int) (h1 : 1 ≤ most) (h2 : most ≤ 1000) : ∀ (t : Ty) (d : Int), -1000 ≤ d → d ≤ 1000 → PureC Tryz.prog 98 [.ag (eTy t), .v (.int .i64 most), .v (.int .i64 d)] (.v (.int .i64 (fewT most t d))) := by
  intro t
  induction t using Ty.ind with
  | h a b ih =>
  intro d hd1 hd2
  refine call_of_dw 0 37 [ResultVar.tmp 6] TF4_ok (by kernel_rfl) Tryz.func98 rfl Tryz.ntmps98 rfl (by simp) ?dwords ?dbody
  case dwords => simp [wordsOk, D.ok, D.oks, rnames, eTy_ok]
  case dbody =>
    intro cx hnt hn0
    refine dw_seq ?_
    refine dw_k [] TF4_ok (by kernel_rfl) hnt (by kernel_rfl) (by simp; rfl) ?_
    intro K hK
    refine hK _ _ ?_
    clear hK K
    refine dw_seq (dw_seq ?_)
    by_cases hd : d ≤ 0
    · have hf : fewT most (.mk a b) d = most + 1 := by rw [fewT, if_pos hd]
      rw [hf]
      refine dw_k [(10, .v (.bool true))] TF4_ok (by kernel_rfl) hnt (by kernel_rfl) (by simp; rfl) ?_
      intro K hK
      refine And.intro (dtrue hd) ?_
      refine hK _ _ ?_
      clear hK K
      refine dw_cond (t := true) rfl ?_
      rw [if_pos rfl]
      refine dw_seq ?_
      refine dw_k [(12, .v (.int .i64 (most + 1)))] TF4_ok (by kernel_rfl) hnt (by kernel_rfl) (by simp; rfl) ?_
      intro K hK
      refine And.intro (dintE (IntWalk.i64_in _ (by omega))) ?_
      refine hK _ _ ?_
      clear hK K
      refine dw_ret ?_
      exact retv (N := 0) (.inr rfl) rfl (VLe.refl _) trivial
    · have hf : fewT most (.mk a b) d = fewTs most a (d - 1) 1 := by rw [fewT, if_neg hd]
      rw [hf]
      refine dw_k [(10, .v (.bool false))] TF4_ok (by kernel_rfl) hnt (by kernel_rfl) (by simp; rfl) ?_
      intro K hK
      refine And.intro (dfalse hd) ?_
      refine hK _ _ ?_
      clear hK K
      refine dw_cond (t := false) rfl ?_
      rw [if_neg (by simp)]
      refine dw_skip ?_
      refine dw_seq ?_
      refine dw_k [] TF4_ok (by kernel_rfl) hnt (by kernel_rfl) (by simp; rfl) ?_
      intro K hK
      refine hK _ _ ?_
      clear hK K
      refine dw_seq (dw_seq ?_)
      refine dw_k [] TF4_ok (by kernel_rfl) hnt (by kernel_rfl) (by simp; rfl) ?_
      intro K hK
      refine hK _ _ ?_
      clear hK K
      refine dw_block ?_
      refine dw_loop (ι := { p : Nat × Int // fewTs most (a.drop p.1) (d - 1) p.2 = fewTs most a (d - 1) 1 ∧ (p.1 : Int) + 1 ≤ p.2 ∧ p.2 ≤ 2000000 ∧ p.1 ≤ a.length }) (fun p => [(.t 1, .v (.int .i64 most)), (.t 2, .v (.int .i64 d)), (.t 3, .p 0 0), (.t 7, .v (.int .i64 p.1.2)), (.t 8, .v (.int .i64 (p.1.1 : Int))), (.c 0 0, .sl 2 (eTys a) none), (.c 0 1, .v (.int .i64 b))]) 1 (fun p => a.length - p.1.1) ⟨(0, 1), by simp, by simp, by simp, by simp⟩ (VS.toK (by first | omega | simp [hn0]) (by repeat first | exact trivial | refine And.intro (And.intro (by first | rfl | simp [D.ok, D.oks, D.okss, D.okm, eTm_ok, eTy_ok, eTys_ok, eTms_ok, upto, keyOk]) (by first | exact Or.inl rfl | exact Or.inr ⟨_, rfl, (by repeat first | exact VLe.refl _ | exact VLe.nil _ | exact VLe.untag _ _ _ | refine VLe.ag ?_ | refine VLe.tu ?_ | refine VLeL.cons ?_ ?_ | exact VLeL.nil), trivial⟩ | simp [get, Key.eq])) ?_)) fun p => ?_
      obtain ⟨⟨j, n⟩, hj1, hj2, hj3, hj4⟩ := p
      dsimp only at hj1 hj2 hj3 hj4 ⊢
      refine dw_seq (dw_seq ?_)
      by_cases hlt : j < a.length
      · have hdr : a.drop j = a[j] :: a.drop (j + 1) := List.drop_eq_getElem_cons hlt
        rw [hdr, fewTs] at hj1
        by_cases hn : n ≤ most
        · rw [if_pos hn] at hj1
          have hih := ih a[j] (List.getElem_mem hlt) (d - 1) (by omega) (by omega)
          rw [eTy_eq] at hih
          have hbd := fewT_le h1 1000 a[j] (d - 1) (by omega)
          have hbd2 : most * ((1000 : Nat) : Int) ≤ 1000000 := by
            have : most * ((1000 : Nat) : Int) = 1000 * most := by rw [Int.mul_comm]; rfl
            omega
          refine dw_k [(17, .v (.bool true)), (21, .v (.bool true))] TF4_ok (by kernel_rfl) hnt (by kernel_rfl) (by simp; rfl) ?_
          intro K hK
          refine And.intro (dtrue (by rw [eTys_len]; omega)) ?_
          refine And.intro (dtrue hn) ?_
          refine hK _ _ ?_
          clear hK K
          refine dw_cond (t := true) rfl ?_
          rw [if_pos rfl]
          refine dw_skip ?_
          refine dw_seq (dw_block ?_)
          refine dw_k [(29, .q [.sl 2 (eTys a[j].args) none, .v (.int .i64 a[j].base)]), (33, .v (.int .i64 (d - 1))), (35, .v (.int .i64 (n + fewT most a[j] (d - 1))))] TF4_ok (by kernel_rfl) hnt (by kernel_rfl) (by simp; rfl) ?_
          intro K hK
          refine And.intro (⟨by omega, by rw [eTys_len]; omega⟩) ?_
          refine And.intro (VLe.of_eq (by rw [Int.toNat_natCast, eTys_getD a j hlt, eTy_eq])) ?_
          refine And.intro (dintE (IntWalk.i64_in _ (by omega))) ?_
          refine ⟨_, _, _, Or.inl (hih), by repeat first | exact trivial | refine And.intro ⟨rfl, rfl⟩ ?_, ?_⟩
          refine And.intro (dintE (IntWalk.i64_in _ (by omega))) ?_
          refine hK _ _ ?_
          clear hK K
          refine dw_k [(24, .v (.int .i64 ((j + 1 : Nat) : Int)))] TF4_ok (by kernel_rfl) hnt (by kernel_rfl) (by simp; rfl) ?_
          intro K hK
          refine And.intro (dintE (by rw [IntWalk.i64_in _ (by omega)]; omega)) ?_
          refine hK _ _ ?_
          clear hK K
          exact ⟨⟨(j + 1, n + fewT most a[j] (d - 1)), hj1, by dsimp only; omega, by dsimp only; omega, hlt⟩, by dsimp only; omega, (VS.toK (by first | omega | simp [hn0]) (by repeat first | exact trivial | refine And.intro (And.intro (by first | rfl | simp [D.ok, D.oks, D.okss, D.okm, eTm_ok, eTy_ok, eTys_ok, eTms_ok, upto, keyOk]) (by first | exact Or.inl rfl | exact Or.inr ⟨_, rfl, (by repeat first | exact VLe.refl _ | exact VLe.nil _ | exact VLe.untag _ _ _ | refine VLe.ag ?_ | refine VLe.tu ?_ | refine VLeL.cons ?_ ?_ | exact VLeL.nil), trivial⟩ | simp [get, Key.eq])) ?_))⟩
        · rw [if_neg hn] at hj1
          rw [← hj1]
          refine dw_k [(17, .v (.bool true)), (21, .v (.bool false))] TF4_ok (by kernel_rfl) hnt (by kernel_rfl) (by simp; rfl) ?_
          intro K hK
          refine And.intro (dtrue (by rw [eTys_len]; omega)) ?_
          refine And.intro (dfalse hn) ?_
          refine hK _ _ ?_
          clear hK K
          refine dw_cond (t := false) rfl ?_
          rw [if_neg (by simp)]
          refine dw_exit ?_
          refine dw_seq ?_
          refine dw_k [] TF4_ok (by kernel_rfl) hnt (by kernel_rfl) (by simp; rfl) ?_
          intro K hK
          refine hK _ _ ?_
          clear hK K
          refine dw_ret ?_
          exact retv (N := 0) (.inr rfl) rfl (VLe.refl _) trivial
      · rw [List.drop_eq_nil_of_le (by omega), fewTs] at hj1
        rw [← hj1]
        refine dw_k [(17, .v (.bool false))] TF4_ok (by kernel_rfl) hnt (by kernel_rfl) (by simp; rfl) ?_
        intro K hK
        refine And.intro (dfalse (by rw [eTys_len]; omega)) ?_
        refine hK _ _ ?_
        clear hK K
        refine dw_cond (t := false) rfl ?_
        rw [if_neg (by simp)]
        refine dw_exit ?_
        refine dw_seq ?_
        refine dw_k [] TF4_ok (by kernel_rfl) hnt (by kernel_rfl) (by simp; rfl) ?_
        intro K hK
        refine hK _ _ ?_
        clear hK K
        refine dw_ret ?_
        exact retv (N := 0) (.inr rfl) rfl (VLe.refl _) trivial
theorem fewTs_size {most : Int} : ∀ (l : List Ty) (d n : Int), (∀ t ∈ l, fewT most t d ≤ most → (t.size : Int) = fewT most t d) → (∀ t ∈ l, 1 ≤ fewT most t d) → 1 ≤ n → fewTs most l d n ≤ most → fewTs most l d n = n + Ty.sizes l
  | [], d, n, _, _, _, _ => by rw [fewTs]; simp [Ty.sizes]
  | t :: l, d, n, h, h1, hn, hf => by
    rw [fewTs] at hf ⊢
    split at hf
    · rename_i hm
      rw [if_pos hm]
      have h2 := h1 t (by simp)
      have h3 := fewTs_size l d _ (fun u hu => h u (by simp [hu])) (fun u hu => h1 u (by simp [hu])) (by omega) hf
      have h4 : fewT most t d ≤ most := by omega
      have h5 := h t (by simp) h4
      rw [h3, Ty.sizes]; omega
    · rename_i hm; omega
theorem fewT_size {most : Int} (hm : 1 ≤ most) : ∀ (k : Nat) (t : Ty) (d : Int), d ≤ k → fewT most t d ≤ most → (t.size : Int) = fewT most t d
  | 0, .mk a b, d, hd, h => by rw [fewT, if_pos (by omega)] at h; omega
  | k + 1, .mk a b, d, hd, h => by
    rw [fewT] at h ⊢
    split at h
    · omega
    · rename_i hp
      rw [if_neg hp]
      have := fewTs_size a (d - 1) 1 (fun t _ => fewT_size hm k t (d - 1) (by omega)) (fun t _ => (fewT_le hm k t (d - 1) (by omega)).1) (by omega) h
      rw [this, Ty.size_eq]; omega
theorem Few4_d (most : Int) (h1 : 1 ≤ most) (h2 : most ≤ 1000) (t : Ty) (d : Int) (h3 : -1000 ≤ d) (h4 : d ≤ 1000) : PureC Tryz.prog 52 [.ag (eTy t), .v (.int .i64 most), .v (.int .i64 d)] (.v (.bool (decide (fewT most t d ≤ most)))) := by
  have h := few4_d most h1 h2 t d h3 h4
  rw [eTy_eq] at h ⊢
  refine call_of_dw 0 13 [ResultVar.tmp 6] TF4_ok (by kernel_rfl) Tryz.func52 rfl Tryz.ntmps52 rfl (by simp) ?dwords ?dbody
  case dwords => simp [wordsOk, D.ok, D.oks, rnames, eTys_ok]
  case dbody =>
    intro cx hnt hn0
    refine dw_seq ?_
    refine dw_k [] TF4_ok (by kernel_rfl) hnt (by kernel_rfl) (by simp; rfl) ?_
    intro K hK
    refine hK _ _ ?_
    clear hK K
    refine dw_seq ?_
    refine dw_k [] TF4_ok (by kernel_rfl) hnt (by kernel_rfl) (by simp; rfl) ?_
    intro K hK
    refine ⟨_, _, _, Or.inl (h), by repeat first | exact trivial | refine And.intro ⟨rfl, rfl⟩ ?_, ?_⟩
    refine hK _ _ ?_
    clear hK K
    refine dw_ret ?_
    exact retv (N := 0) (.inr rfl) rfl (VLe.refl _) trivial
set_option maxHeartbeats 1000000 in
theorem Size4_d : ∀ (t : Ty) (_ : t.size ≤ 1000000), PureC Tryz.prog 111 [.ag (eTy t)] (.v (.int .i64 (t.size : Int))) := by
  intro t
  induction t using Ty.ind with
  | h a b ih =>
  intro hsz
  have hsz2 := Ty.size_eq a b
  refine call_of_dw 0 21 [ResultVar.tmp 2] TF4_ok (by kernel_rfl) Tryz.func111 rfl Tryz.ntmps111 rfl (by simp) ?dwords ?dbody
  case dwords => simp [wordsOk, D.ok, D.oks, rnames, eTy_ok]
  case dbody =>
    intro cx hnt hn0
    refine dw_seq ?_
    refine dw_k [] TF4_ok (by kernel_rfl) hnt (by kernel_rfl) (by simp; rfl) ?_
    intro K hK
    refine hK _ _ ?_
    clear hK K
    refine dw_seq ?_
    refine dw_k [] TF4_ok (by kernel_rfl) hnt (by kernel_rfl) (by simp; rfl) ?_
    intro K hK
    refine hK _ _ ?_
    clear hK K
    refine dw_seq (dw_seq ?_)
    refine dw_k [] TF4_ok (by kernel_rfl) hnt (by kernel_rfl) (by simp; rfl) ?_
    intro K hK
    refine hK _ _ ?_
    clear hK K
    refine dw_block ?_
    refine dw_loop (ι := { j : Nat // j ≤ a.length }) (fun j => [(.t 1, .p 0 0), (.t 3, .v (.int .i64 ((Ty.sizes (a.take j.1) : Int) + 1))), (.t 4, .v (.int .i64 (j.1 : Int))), (.c 0 0, .sl 2 (eTys a) none), (.c 0 1, .v (.int .i64 b))]) 1 (fun j => a.length - j.1) ⟨0, Nat.zero_le _⟩ (VS.toK (by first | omega | simp [hn0]) (by repeat first | exact trivial | refine And.intro (And.intro (by first | rfl | simp [D.ok, D.oks, D.okss, D.okm, eTm_ok, eTy_ok, eTys_ok, eTms_ok, upto, keyOk]) (by first | exact Or.inl rfl | exact Or.inr ⟨_, rfl, (by repeat first | exact VLe.refl _ | exact VLe.nil _ | exact VLe.untag _ _ _ | refine VLe.ag ?_ | refine VLe.tu ?_ | refine VLeL.cons ?_ ?_ | exact VLeL.nil), trivial⟩ | simp [get, Key.eq])) ?_)) fun j => ?_
    obtain ⟨j, hj⟩ := j
    dsimp only
    have hst := Ty.sizes_take_le a j
    have hst2 := Ty.sizes_take_le a (j + 1)
    have hla := Ty.le_sizes a
    refine dw_seq (dw_seq ?_)
    by_cases hlt : j < a.length
    · have hih := ih a[j] (List.getElem_mem hlt) (by have := Ty.size_get (b := b) j hlt; omega)
      rw [eTy_eq] at hih
      have htk := Ty.sizes_take a j hlt
      refine dw_k [(9, .v (.bool true))] TF4_ok (by kernel_rfl) hnt (by kernel_rfl) (by simp; rfl) ?_
      intro K hK
      refine And.intro (dtrue (by rw [eTys_len]; omega)) ?_
      refine hK _ _ ?_
      clear hK K
      refine dw_cond (t := true) rfl ?_
      rw [if_pos rfl]
      refine dw_skip ?_
      refine dw_seq (dw_block ?_)
      refine dw_k [(16, .q [.sl 2 (eTys a[j].args) none, .v (.int .i64 a[j].base)]), (19, .v (.int .i64 ((Ty.sizes (a.take (j + 1)) : Int) + 1)))] TF4_ok (by kernel_rfl) hnt (by kernel_rfl) (by simp; rfl) ?_
      intro K hK
      refine And.intro (⟨by omega, by rw [eTys_len]; omega⟩) ?_
      refine And.intro (VLe.of_eq (by rw [Int.toNat_natCast, eTys_getD a j hlt, eTy_eq])) ?_
      refine ⟨_, _, _, Or.inl (hih), by repeat first | exact trivial | refine And.intro ⟨rfl, rfl⟩ ?_, ?_⟩
      refine And.intro (dintE (by rw [IntWalk.i64_in _ (by omega), htk]; omega)) ?_
      refine hK _ _ ?_
      clear hK K
      refine dw_k [(11, .v (.int .i64 ((j + 1 : Nat) : Int)))] TF4_ok (by kernel_rfl) hnt (by kernel_rfl) (by simp; rfl) ?_
      intro K hK
      refine And.intro (dintE (by rw [IntWalk.i64_in _ (by omega)]; omega)) ?_
      refine hK _ _ ?_
      clear hK K
      exact ⟨⟨j + 1, hlt⟩, by dsimp only; omega, (VS.toK (by first | omega | simp [hn0]) (by repeat first | exact trivial | refine And.intro (And.intro (by first | rfl | simp [D.ok, D.oks, D.okss, D.okm, eTm_ok, eTy_ok, eTys_ok, eTms_ok, upto, keyOk]) (by first | exact Or.inl rfl | exact Or.inr ⟨_, rfl, (by repeat first | exact VLe.refl _ | exact VLe.nil _ | exact VLe.untag _ _ _ | refine VLe.ag ?_ | refine VLe.tu ?_ | refine VLeL.cons ?_ ?_ | exact VLeL.nil), trivial⟩ | simp [get, Key.eq])) ?_))⟩
    · skip
      refine dw_k [(9, .v (.bool false))] TF4_ok (by kernel_rfl) hnt (by kernel_rfl) (by simp; rfl) ?_
      intro K hK
      refine And.intro (dfalse (by rw [eTys_len]; omega)) ?_
      refine hK _ _ ?_
      clear hK K
      refine dw_cond (t := false) rfl ?_
      rw [if_neg (by simp)]
      refine dw_exit ?_
      refine dw_seq ?_
      have hsz3 : ((Ty.mk a b).size : Int) = (Ty.sizes (a.take j) : Int) + 1 := by rw [List.take_of_length_le (by omega), hsz2]; omega
      rw [hsz3]
      refine dw_k [] TF4_ok (by kernel_rfl) hnt (by kernel_rfl) (by simp; rfl) ?_
      intro K hK
      refine hK _ _ ?_
      clear hK K
      refine dw_ret ?_
      exact retv (N := 0) (.inr rfl) rfl (VLe.refl _) trivial
end Go.Proofs.YtiblklcfjakjmaaGreat

