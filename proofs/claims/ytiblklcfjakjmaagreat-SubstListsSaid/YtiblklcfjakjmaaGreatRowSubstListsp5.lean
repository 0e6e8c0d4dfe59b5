/-
  norm.lifted, walked in the deep way. What is kept where terms are put for variables: counts grow, no term gets wider. Package norm, walked in the deep way: terms put for variables. Contracts of before, as deep ones; term.Copy. Loops over an iterator that writes cells of its own between two rounds. term.each: all terms within, each ahead of its arguments: what the iterator hands to a loop's body. term.Size, term.Depth, term.Right, term.Loose: what the loops over all terms within hand back. term.Right. term.Equal, and slices.EqualFunc with it. Contracts of before, as deep ones. Deep contracts, as ones of before. Package norm, walked in the deep way: through. Package norm, walked in the deep way: Put. Package subst, walked in the deep way. The readings of a row's arguments that are pairs, and what was opened, told as deep values. The readings of five arguments. term.Shift: what its closures do. Indexes that grow: what Shift is in plain Lean.
-/
import Derived.Test.YtiblklcfjakjmaaGreatRowSubstListsp4
import Derived.Test.YtiblklcfjakjmaaGreatRowSubstListsp1
import Derived.RangeFuncWrites
import Derived.Carry
import Derived.Laws.EntriesVeiled
set_option maxRecDepth 100000
set_option maxHeartbeats 1000000
set_option linter.unusedVariables false
set_option linter.unusedSimpArgs false
namespace Go.Proofs.YtiblklcfjakjmaaGreat
open Go.RowKit
def TLi_52 : TI := ⟨4, true, [Value.slice none 0 0, Value.int IntKind.i64 0, Value.int IntKind.i64 0, Value.slice none 0 0], [(0, 1, false), (1, 2, true), (3, 1, false)], none, 64, 6, none, false⟩
theorem TLi_52_ok : TypOk Tryz.prog 52 TLi_52 := ⟨by kernel_rfl, by kernel_rfl, by kernel_rfl, by kernel_rfl, by kernel_rfl⟩
def TLi_3 : TI := ⟨1, false, [Value.int IntKind.i64 0], [], none, 8, 2, none, false⟩
theorem TLi_3_ok : TypOk Tryz.prog 3 TLi_3 := ⟨by kernel_rfl, by kernel_rfl, by kernel_rfl, by kernel_rfl, by kernel_rfl⟩
def TLi_50 : TI := ⟨1, false, [Value.slice none 0 0], [], some 52, 24, 5, none, false⟩
theorem TLi_50_ok : TypOk Tryz.prog 50 TLi_50 := ⟨by kernel_rfl, by kernel_rfl, by kernel_rfl, by kernel_rfl, by kernel_rfl⟩
def TLi_49 : TI := ⟨2, true, [Value.int IntKind.i64 0, Value.int IntKind.i64 0], [(0, 1, false), (1, 1, false)], none, 16, 6, none, false⟩
theorem TLi_49_ok : TypOk Tryz.prog 49 TLi_49 := ⟨by kernel_rfl, by kernel_rfl, by kernel_rfl, by kernel_rfl, by kernel_rfl⟩
def TLi_34 : TI := ⟨1, false, [Value.slice none 0 0], [], some 77, 24, 5, none, false⟩
theorem TLi_34_ok : TypOk Tryz.prog 34 TLi_34 := ⟨by kernel_rfl, by kernel_rfl, by kernel_rfl, by kernel_rfl, by kernel_rfl⟩
def TLi_77 : TI := ⟨2, true, [Value.slice none 0 0, Value.int IntKind.i64 0], [(0, 1, false), (1, 1, false)], none, 32, 6, none, false⟩
theorem TLi_77_ok : TypOk Tryz.prog 77 TLi_77 := ⟨by kernel_rfl, by kernel_rfl, by kernel_rfl, by kernel_rfl, by kernel_rfl⟩
def TLi : List (Nat × TI) := [(52, TLi_52), (3, TLi_3), (50, TLi_50), (49, TLi_49), (34, TLi_34), (77, TLi_77)]
theorem TLi_ok : TabOk Tryz.prog TLi := (((((((TabOk.nil _).cons TLi_77_ok).cons TLi_34_ok).cons TLi_49_ok).cons TLi_50_ok).cons TLi_3_ok).cons TLi_52_ok)

set_option maxHeartbeats 1000000 in
theorem lifted_d : ∀ (t : Tm) (_ : Wide t) (y ins : Int), PureC Tryz.prog 195 [.ag (eTm t), .v (.int .i64 y), .v (.int .i64 ins)] (.ag (eTm (Nm.lift y t ins))) := by
  intro t
  induction t using Tm.ind with
  | h bs k i a ih =>
  intro hw y ins
  obtain ⟨w1, w2, w3⟩ := hw.inv
  obtain ⟨m, hm⟩ : ∃ m, IntKind.i64.wrap (ins + (bs.length : Int)) = m := ⟨_, rfl⟩
  obtain ⟨i', hi'⟩ : ∃ i', (if k = 0 ∧ m ≤ i then IntKind.i64.wrap (i + y) else i) = i' := ⟨_, rfl⟩
  have hL : Nm.lift y (.mk bs k i a) ins = .mk bs k i' (Nm.lifts y a m) := by rw [Nm.lift_eq, wr_wrap, wr_wrap, hm, hi']
  rw [hL]
  refine call_of_dw 0 55 [ResultVar.cell 6 52] TLi_ok (by kernel_rfl) Tryz.func195 rfl Tryz.ntmps195 rfl (by simp) ?dwords ?dbody
  case dwords => simp [wordsOk, D.ok, D.oks, eTm_ok, rnames]
  case dbody =>
    intro cx hnt hn0
    refine dw_seq ?_
    refine dw_k [] TLi_ok (by kernel_rfl) hnt (by kernel_rfl) (by simp; rfl) ?_
    intro K hK
    refine hK _ _ ?_
    clear hK K
    refine dw_seq ?_
    refine dw_k [(13, .v (.int .i64 bs.length)), (14, .v (.int .i64 m))] TLi_ok (by kernel_rfl) hnt (by kernel_rfl) (by simp; rfl) ?_
    intro K hK
    refine And.intro (dintE (by rw [eTys_len])) ?_
    refine And.intro (dintE hm) ?_
    refine hK _ _ ?_
    clear hK K
    refine dw_cut (τ := [(.t 1, .v (.int .i64 y)), (.t 2, .v (.int .i64 m)), (.t 3, .p 0 0), (.t 6, .p 1 0), (.c 0 0, .sl 2 (eTys bs) none), (.c 0 1, .v (.int .i64 k)), (.c 0 2, .v (.int .i64 i')), (.c 0 3, .sl 4 (eTms a) none), (.c 1 0, .v (.slice none 0 0)), (.c 1 1, .v (.int .i64 0)), (.c 1 2, .v (.int .i64 0)), (.c 1 3, .v (.slice none 0 0))]) (N1 := 2) ?_ ?_
    · by_cases hk : k = 0
      · subst hk
        by_cases hi : m ≤ i
        · rw [if_pos ⟨rfl, hi⟩] at hi'
          refine dw_seq ?_
          refine dw_k [(18, .v (.bool true)), (24, .v (.bool true))] TLi_ok (by kernel_rfl) hnt (by kernel_rfl) (by simp; rfl) ?_
          intro K hK
          refine And.intro (VLe.refl _) ?_
          refine And.intro (dtrue hi) ?_
          refine hK _ _ ?_
          clear hK K
          refine dw_cond (t := true) rfl ?_
          rw [if_pos rfl]
          refine dw_k [(30, .v (.int .i64 i'))] TLi_ok (by kernel_rfl) hnt (by kernel_rfl) (by simp; rfl) ?_
          intro K hK
          refine And.intro (dintE hi') ?_
          refine hK _ _ ?_
          clear hK K
          exact cut_ok (VS.toK (by first | omega | simp [hn0]) (by repeat first | exact trivial | refine And.intro (And.intro (by first | rfl | simp [D.ok, D.oks, D.okss, D.okm, eTm_ok, eTy_ok, eTys_ok, eTms_ok, upto, keyOk]) (by first | exact Or.inl rfl | exact Or.inr ⟨_, rfl, (by repeat first | exact VLe.refl _ | exact VLe.nil _ | exact VLe.untag _ _ _ | refine VLe.ag ?_ | refine VLe.tu ?_ | refine VLeL.cons ?_ ?_ | exact VLeL.nil), trivial⟩ | simp [get, Key.eq])) ?_))
        · rw [if_neg (fun h => hi h.2)] at hi'
          subst hi'
          refine dw_seq ?_
          refine dw_k [(18, .v (.bool true)), (24, .v (.bool false))] TLi_ok (by kernel_rfl) hnt (by kernel_rfl) (by simp; rfl) ?_
          intro K hK
          refine And.intro (VLe.refl _) ?_
          refine And.intro (dfalse hi) ?_
          refine hK _ _ ?_
          clear hK K
          refine dw_cond (t := false) rfl ?_
          rw [if_neg (by simp)]
          refine dw_skip ?_
          exact cut_ok (VS.toK (by first | omega | simp [hn0]) (by repeat first | exact trivial | refine And.intro (And.intro (by first | rfl | simp [D.ok, D.oks, D.okss, D.okm, eTm_ok, eTy_ok, eTys_ok, eTms_ok, upto, keyOk]) (by first | exact Or.inl rfl | exact Or.inr ⟨_, rfl, (by repeat first | exact VLe.refl _ | exact VLe.nil _ | exact VLe.untag _ _ _ | refine VLe.ag ?_ | refine VLe.tu ?_ | refine VLeL.cons ?_ ?_ | exact VLeL.nil), trivial⟩ | simp [get, Key.eq])) ?_))
      · rw [if_neg (fun h => hk h.1)] at hi'
        subst hi'
        refine dw_seq ?_
        refine dw_k [(18, .v (.bool false))] TLi_ok (by kernel_rfl) hnt (by kernel_rfl) (by simp; rfl) ?_
        intro K hK
        refine And.intro (dfalse hk) ?_
        refine hK _ _ ?_
        clear hK K
        refine dw_cond (t := false) rfl ?_
        rw [if_neg (by simp)]
        refine dw_skip ?_
        exact cut_ok (VS.toK (by first | omega | simp [hn0]) (by repeat first | exact trivial | refine And.intro (And.intro (by first | rfl | simp [D.ok, D.oks, D.okss, D.okm, eTm_ok, eTy_ok, eTys_ok, eTms_ok, upto, keyOk]) (by first | exact Or.inl rfl | exact Or.inr ⟨_, rfl, (by repeat first | exact VLe.refl _ | exact VLe.nil _ | exact VLe.untag _ _ _ | refine VLe.ag ?_ | refine VLe.tu ?_ | refine VLeL.cons ?_ ?_ | exact VLeL.nil), trivial⟩ | simp [get, Key.eq])) ?_))
    · refine dw_seq ?_
      refine dw_k [(35, .v (.int .i64 a.length))] TLi_ok (by kernel_rfl) hnt (by kernel_rfl) (by simp; rfl) ?_
      intro K hK
      refine And.intro (dintE (by rw [eTms_len])) ?_
      refine And.intro ((by omega)) ?_
      refine hK _ _ ?_
      clear hK K
      refine dw_seq (dw_seq ?_)
      refine dw_k [(39, .v (.int .i64 a.length))] TLi_ok (by kernel_rfl) hnt (by kernel_rfl) (by simp; rfl) ?_
      intro K hK
      refine And.intro (dintE (by rw [eTms_len])) ?_
      refine hK _ _ ?_
      clear hK K
      refine dw_block ?_
      refine dw_loop (ι := Nat) (fun j => [(.t 40, .v (.int .i64 j)), (.t 7, .sl 4 (eTms (Nm.lifts y (a.take j) m)) (some 5)), (.r 5, .rw 52 4 j), (.t 1, .v (.int .i64 y)), (.t 2, .v (.int .i64 m)), (.t 3, .p 0 0), (.t 6, .p 1 0), (.t 38, .sl 4 (eTms a) none), (.t 39, .v (.int .i64 a.length)), (.c 0 0, .sl 2 (eTys bs) none), (.c 0 1, .v (.int .i64 k)), (.c 0 2, .v (.int .i64 i')), (.c 0 3, .sl 4 (eTms a) none), (.c 1 0, .v (.slice none 0 0)), (.c 1 1, .v (.int .i64 0)), (.c 1 2, .v (.int .i64 0)), (.c 1 3, .v (.slice none 0 0))]) 6 (fun j => a.length - j) 0 ?_ fun j => ?_
      · exact (VS.toK (by first | omega | simp [hn0]) (by repeat first | exact trivial | refine And.intro (And.intro (by first | rfl | simp [D.ok, D.oks, D.okss, D.okm, eTm_ok, eTy_ok, eTys_ok, eTms_ok, upto, keyOk, Nm.lifts, eTms]) (by first | exact Or.inl rfl | exact Or.inr ⟨_, rfl, (by repeat first | exact VLe.refl _ | exact VLe.nil _ | exact VLe.untag _ _ _ | refine VLe.ag ?_ | refine VLe.tu ?_ | refine VLeL.cons ?_ ?_ | exact VLeL.nil), trivial⟩ | simp [get, Key.eq, Nm.lifts, eTms])) ?_))
      · refine dw_seq ?_
        by_cases hlt : j < a.length
        · have hg := eTms_getD a j hlt
          have hih := ih a[j] (List.getElem_mem hlt) (w3 _ (List.getElem_mem hlt)) y m
          rw [eTm_eq, eTm_eq] at hih
          have hll : (Nm.lifts y (a.take j) m).length = j := by rw [Nm.lift_len, List.length_take]; omega
          refine dw_k [(41, .v (.bool true))] TLi_ok (by kernel_rfl) hnt (by kernel_rfl) (by simp; rfl) ?_
          intro K hK
          refine And.intro (dtrue (by omega)) ?_
          refine hK _ _ ?_
          clear hK K
          refine dw_seq (dw_cond (t := true) rfl ?_)
          rw [if_pos rfl]
          refine dw_skip (dw_seq (dw_block (dw_seq ?_)))
          refine dw_k [(42, .q [.sl 2 (eTys a[j].binds) none, .v (.int .i64 a[j].kind), .v (.int .i64 a[j].index), .sl 4 (eTms a[j].args) none])] TLi_ok (by kernel_rfl) hnt (by kernel_rfl) (by simp; rfl) ?_
          intro K hK
          refine And.intro (⟨by omega, by rw [eTms_len]; omega⟩) ?_
          refine And.intro (by rw [Int.toNat_natCast, hg, eTm_eq]) ?_
          refine hK _ _ ?_
          clear hK K
          refine dw_k [(50, .sl 4 (eTms (Nm.lifts y (a.take (j + 1)) m)) (some 5))] TLi_ok (by kernel_rfl) hnt (by kernel_rfl) (by simp; rfl) ?_
          intro K hK
          refine ⟨_, _, _, Or.inl (hih), by repeat first | exact trivial | refine And.intro ⟨rfl, rfl⟩ ?_, ?_⟩
          refine And.intro (⟨by rw [eTms_len, hll], by rw [eTms_len, hll]; simp; omega⟩) ?_
          refine And.intro (by rw [Nm.lift_take _ _ _ _ hlt, eTms_append, eTms, eTms, eTm_eq (Nm.lift y a[j] m)]) ?_
          refine hK _ _ ?_
          clear hK K
          refine dw_k [(51, .v (.int .i64 ((j + 1 : Nat) : Int)))] TLi_ok (by kernel_rfl) hnt (by kernel_rfl) (by simp; rfl) ?_
          intro K hK
          refine And.intro (dintE (by rw [IntWalk.i64_in _ (by omega)]; omega)) ?_
          refine hK _ _ ?_
          clear hK K
          refine ⟨j + 1, by omega, (VS.toK (by first | omega | simp [hn0]) (by repeat first | exact trivial | refine And.intro (And.intro (by first | rfl | simp [D.ok, D.oks, D.okss, D.okm, eTm_ok, eTy_ok, eTys_ok, eTms_ok, upto, keyOk, eTms_len, hll]) (by first | exact Or.inl rfl | exact Or.inr ⟨_, rfl, (by repeat first | exact VLe.refl _ | exact VLe.nil _ | exact VLe.untag _ _ _ | refine VLe.ag ?_ | refine VLe.tu ?_ | refine VLeL.cons ?_ ?_ | exact VLeL.nil), trivial⟩ | simp [get, Key.eq, eTms_len, hll])) ?_))⟩
        · skip
          refine dw_k [(41, .v (.bool false))] TLi_ok (by kernel_rfl) hnt (by kernel_rfl) (by simp; rfl) ?_
          intro K hK
          refine And.intro (dfalse (by omega)) ?_
          refine hK _ _ ?_
          clear hK K
          refine dw_seq (dw_cond (t := false) rfl ?_)
          rw [if_neg (by simp)]
          refine dw_exit ?_
          refine dw_seq ?_
          refine dw_k [] TLi_ok (by kernel_rfl) hnt (by kernel_rfl) (by simp; rfl) ?_
          intro K hK
          refine hK _ _ ?_
          clear hK K
          refine dw_seq ?_
          refine dw_k [] TLi_ok (by kernel_rfl) hnt (by kernel_rfl) (by simp; rfl) ?_
          intro K hK
          refine hK _ _ ?_
          clear hK K
          refine dw_ret ?_
          rw [List.take_of_length_le (by omega)]
          exact ⟨.inr rfl, ⟨_, rfl, (by repeat first | exact VLe.refl _ | exact VLe.nil _ | exact VLe.untag _ _ _ | refine VLe.ag ?_ | refine VLe.tu ?_ | refine VLeL.cons ?_ ?_ | exact VLeL.nil)⟩, nofun⟩
theorem grown_nd (t : Tm) (hw : Wide t) (y : Int) : PureC Tryz.prog 192 [.ag (eTm t), .v (.int .i64 y)] (.ag (eTm (Nm.grown t y))) := by
  have hl := lifted_d t hw y 0
  rw [eTm_eq, eTm_eq] at hl
  obtain ⟨bs, k, i, a⟩ := t
  refine call_of_dw 0 11 [ResultVar.cell 4 52] TLi_ok (by kernel_rfl) Tryz.func192 rfl Tryz.ntmps192 rfl (by simp) ?dwords ?dbody
  case dwords => simp [wordsOk, D.ok, D.oks, eTm_ok, rnames]
  case dbody =>
    intro cx hnt hn0
    refine dw_seq ?_
    refine dw_k [] TLi_ok (by kernel_rfl) hnt (by kernel_rfl) (by simp; rfl) ?_
    intro K hK
    refine hK _ _ ?_
    clear hK K
    refine dw_seq (dw_seq ?_)
    by_cases hy : y = 0
    · skip
      refine dw_k [(6, .v (.bool true))] TLi_ok (by kernel_rfl) hnt (by kernel_rfl) (by simp; rfl) ?_
      intro K hK
      refine And.intro (dtrue hy) ?_
      refine hK _ _ ?_
      clear hK K
      refine dw_cond (t := true) rfl ?_
      rw [if_pos rfl]
      refine dw_seq ?_
      refine dw_k [] TLi_ok (by kernel_rfl) hnt (by kernel_rfl) (by simp; rfl) ?_
      intro K hK
      refine hK _ _ ?_
      clear hK K
      refine dw_ret ?_
      have hg : Nm.grown (.mk bs k i a) y = .mk bs k i a := by simp [Nm.grown, hy]
      rw [hg]
      exact ⟨.inr rfl, ⟨_, rfl, VLe.refl _⟩, nofun⟩
    · skip
      refine dw_k [(6, .v (.bool false))] TLi_ok (by kernel_rfl) hnt (by kernel_rfl) (by simp; rfl) ?_
      intro K hK
      refine And.intro (dfalse hy) ?_
      refine hK _ _ ?_
      clear hK K
      refine dw_cond (t := false) rfl ?_
      rw [if_neg (by simp)]
      refine dw_skip ?_
      refine dw_seq ?_
      refine dw_k [] TLi_ok (by kernel_rfl) hnt (by kernel_rfl) (by simp; rfl) ?_
      intro K hK
      refine ⟨_, _, _, Or.inl (hl), by repeat first | exact trivial | refine And.intro ⟨rfl, rfl⟩ ?_, ?_⟩
      refine hK _ _ ?_
      clear hK K
      refine dw_ret ?_
      have hg : Nm.grown (.mk bs k i a) y = Nm.lift y (.mk bs k i a) 0 := by simp [Nm.grown, hy]
      rw [hg]
      exact ⟨.inr rfl, ⟨_, rfl, VLe.refl _⟩, nofun⟩
end Go.Proofs.YtiblklcfjakjmaaGreat

namespace Go.Proofs.YtiblklcfjakjmaaGreat
namespace Nm
theorem spend_keeps (s : St) : (spend s).2.count = s.count ∧ (spend s).2.e = s.e := by unfold spend; split <;> exact ⟨rfl, rfl⟩
theorem fail_count (s : St) (c : Int) : (fail s c).count = s.count := by unfold fail; split <;> rfl
theorem unit_count (s : St) : s.count ≤ (unit s).2.count ∧ ((unit s).1 = true → (unit s).2.count = s.count + 1 ∧ s.e = 0 ∧ (unit s).2.e = 0) := by
  unfold unit
  split
  · exact ⟨Int.le_refl _, fun h => by cases h⟩
  · rename_i he
    split
    · exact ⟨by dsimp only; omega, fun h => by cases h⟩
    · have h1 := spend_keeps s
      generalize spend s = p at h1
      obtain ⟨ok, s'⟩ := p
      cases ok
      · exact ⟨by dsimp only at h1 ⊢; omega, fun h => by cases h⟩
      · dsimp only at h1 ⊢
        exact ⟨by omega, fun _ => ⟨by omega, by omega, by omega⟩⟩
theorem seqM_count {g : Tm → St → Tm × St} (hg : ∀ t s, s.count ≤ (g t s).2.count) (l : List Tm) (s : St) : s.count ≤ (seqM g l s).2.count := by
  induction l generalizing s with
  | nil => exact Int.le_refl _
  | cons t l ih => exact Int.le_trans (hg t s) (ih _)
theorem putW_count {thr : Thr} (h : ∀ xs n t ins s, s.count ≤ (thr xs n t ins s).2.count) (t : Tm) (xs : List Tm) (s : St) : s.count ≤ (putW thr t xs s).2.count := by
  unfold putW
  split
  · rw [fail_count]; exact Int.le_refl _
  · exact h _ _ _ _ _
theorem hit_count {thr : Thr} (h : ∀ xs n t ins s, s.count ≤ (thr xs n t ins s).2.count) (xs : List Tm) (n : Nat) (t : Tm) (ins : Int) (args : List Tm) (s : St) : s.count ≤ (hit thr xs n t ins args s).2.count := by
  unfold hit
  split
  · exact Int.le_refl _
  · dsimp only
    split
    · exact Int.le_refl _
    · split
      · exact Int.le_refl _
      · split
        · rw [fail_count]; exact Int.le_refl _
        · exact putW_count h _ _ _
theorem through_count (f : Nat) : ∀ xs n t ins s, s.count ≤ (through f xs n t ins s).2.count := by
  induction f with
  | zero => intro xs n t ins s; exact Int.le_refl _
  | succ f ih =>
    intro xs n t ins s
    unfold through
    dsimp only
    split
    · exact Int.le_trans (unit_count s).1 (Int.le_trans (seqM_count (fun t s => ih _ _ _ _ _) _ _) (hit_count ih _ _ _ _ _ _))
    · exact (unit_count s).1

theorem wide_tz : Wide tz := .mk _ _ _ _ (by simp) (by simp) fun t h => by cases h
theorem wide_parts {t : Tm} (h : Wide t) : t.binds.length ≤ 100000 ∧ t.args.length ≤ 100000 ∧ ∀ u ∈ t.args, Wide u := by
  cases t with
  | mk b k i a => exact h.inv
theorem seqM_wide {g : Tm → St → Tm × St} (hg : ∀ t s, Wide t → Wide (g t s).1) (l : List Tm) (h : ∀ t ∈ l, Wide t) (s : St) : ∀ t ∈ (seqM g l s).1, Wide t := by
  induction l generalizing s with
  | nil => intro t ht; cases ht
  | cons u l ih =>
    intro t ht
    rcases List.mem_cons.1 ht with rfl | ht
    · exact hg _ _ (h u (by simp))
    · exact ih (fun t ht => h t (by simp [ht])) _ t ht
theorem grown_wide {t : Tm} (h : Wide t) (y : Int) : Wide (grown t y) := by
  unfold grown; split
  · exact h
  · exact h.lift y 0
def ThrWide (thr : Thr) : Prop := ∀ xs n t ins s, Wide t → (∀ a ∈ xs, Wide a) → Wide (thr xs n t ins s).1
theorem putW_wide {thr : Thr} (h : ThrWide thr) {t : Tm} {xs : List Tm} (ht : Wide t) (ha : ∀ a ∈ xs, Wide a) (s : St) : Wide (putW thr t xs s).1 := by
  unfold putW
  split
  · exact wide_tz
  · obtain ⟨h1, h2, h3⟩ := wide_parts ht
    have hr := h xs t.binds.length (.mk [] t.kind t.index t.args) 0 s (.mk _ _ _ _ (by simp) h2 h3) ha
    obtain ⟨r1, r2, r3⟩ := wide_parts hr
    exact .mk _ _ _ _ (by rw [List.length_drop]; omega) r2 r3
theorem hit_wide {thr : Thr} (h : ThrWide thr) {xs : List Tm} {n : Nat} {t : Tm} {ins : Int} {args : List Tm} (ht : Wide t) (ha : ∀ a ∈ xs, Wide a) (hl : args.length ≤ 100000) (hw : ∀ a ∈ args, Wide a) (s : St) : Wide (hit thr xs n t ins args s).1 := by
  obtain ⟨h1, h2, h3⟩ := wide_parts ht
  unfold hit
  split
  · exact .mk _ _ _ _ h1 hl hw
  · dsimp only
    split
    · exact .mk _ _ _ _ h1 hl hw
    · split
      · exact .mk _ _ _ _ h1 hl hw
      · split
        · exact wide_tz
        · have hu : ∀ j, Wide (xs.getD j tz) := fun j => by
            rw [List.getD_eq_getElem?_getD]
            by_cases hj : j < xs.length
            · rw [List.getElem?_eq_getElem hj]; exact ha _ (List.getElem_mem hj)
            · rw [List.getElem?_eq_none (by omega)]; exact wide_tz
          have hr := putW_wide h (grown_wide (hu ((n : Int) - 1 - wr (t.index - ins)).toNat) (wr (wr (ins + n) - xs.length))) hw s
          obtain ⟨r1, r2, r3⟩ := wide_parts hr
          exact .mk _ _ _ _ h1 r2 r3
theorem through_wide (f : Nat) : ThrWide (through f) := by
  induction f with
  | zero => intro xs n t ins s _ _; exact wide_tz
  | succ f ih =>
    intro xs n t ins s ht ha
    obtain ⟨h1, h2, h3⟩ := wide_parts ht
    unfold through
    dsimp only
    split
    · exact hit_wide ih ht ha (by rw [seqM_length]; exact h2) (seqM_wide (fun t s ht => ih _ _ _ _ _ ht ha) _ h3 _) _
    · exact wide_tz
end Nm
end Go.Proofs.YtiblklcfjakjmaaGreat

namespace Go.Proofs.YtiblklcfjakjmaaGreat
open Go.RowKit
def TN2_52 : TI := ⟨4, true, [Value.slice none 0 0, Value.int IntKind.i64 0, Value.int IntKind.i64 0, Value.slice none 0 0], [(0, 1, false), (1, 2, true), (3, 1, false)], none, 64, 6, none, false⟩
theorem TN2_52_ok : TypOk Tryz.prog 52 TN2_52 := ⟨by kernel_rfl, by kernel_rfl, by kernel_rfl, by kernel_rfl, by kernel_rfl⟩
def TN2_3 : TI := ⟨1, false, [Value.int IntKind.i64 0], [], none, 8, 2, none, false⟩
theorem TN2_3_ok : TypOk Tryz.prog 3 TN2_3 := ⟨by kernel_rfl, by kernel_rfl, by kernel_rfl, by kernel_rfl, by kernel_rfl⟩
def TN2_50 : TI := ⟨1, false, [Value.slice none 0 0], [], some 52, 24, 5, none, false⟩
theorem TN2_50_ok : TypOk Tryz.prog 50 TN2_50 := ⟨by kernel_rfl, by kernel_rfl, by kernel_rfl, by kernel_rfl, by kernel_rfl⟩
def TN2_279 : TI := ⟨3, true, [Value.pointer none, Value.slice none 0 0, Value.int IntKind.i64 0], [(0, 1, false), (1, 1, false), (2, 1, false)], none, 40, 6, none, false⟩
theorem TN2_279_ok : TypOk Tryz.prog 279 TN2_279 := ⟨by kernel_rfl, by kernel_rfl, by kernel_rfl, by kernel_rfl, by kernel_rfl⟩
def TN2_34 : TI := ⟨1, false, [Value.slice none 0 0], [], some 77, 24, 5, none, false⟩
theorem TN2_34_ok : TypOk Tryz.prog 34 TN2_34 := ⟨by kernel_rfl, by kernel_rfl, by kernel_rfl, by kernel_rfl, by kernel_rfl⟩
def TN2_49 : TI := ⟨2, true, [Value.int IntKind.i64 0, Value.int IntKind.i64 0], [(0, 1, false), (1, 1, false)], none, 16, 6, none, false⟩
theorem TN2_49_ok : TypOk Tryz.prog 49 TN2_49 := ⟨by kernel_rfl, by kernel_rfl, by kernel_rfl, by kernel_rfl, by kernel_rfl⟩
def TN2_251 : TI := ⟨1, false, [Value.pointer none], [], none, 8, 4, none, false⟩
theorem TN2_251_ok : TypOk Tryz.prog 251 TN2_251 := ⟨by kernel_rfl, by kernel_rfl, by kernel_rfl, by kernel_rfl, by kernel_rfl⟩
def TN2_32 : TI := ⟨1, false, [Value.int IntKind.i64 0], [], none, 8, 2, none, false⟩
theorem TN2_32_ok : TypOk Tryz.prog 32 TN2_32 := ⟨by kernel_rfl, by kernel_rfl, by kernel_rfl, by kernel_rfl, by kernel_rfl⟩
def TN2_253 : TI := ⟨3, true, [Value.pointer none, Value.int IntKind.i64 0, Value.int IntKind.i64 0], [(0, 1, false), (1, 1, false), (2, 1, false)], none, 24, 6, none, false⟩
theorem TN2_253_ok : TypOk Tryz.prog 253 TN2_253 := ⟨by kernel_rfl, by kernel_rfl, by kernel_rfl, by kernel_rfl, by kernel_rfl⟩
def TN2_77 : TI := ⟨2, true, [Value.slice none 0 0, Value.int IntKind.i64 0], [(0, 1, false), (1, 1, false)], none, 32, 6, none, false⟩
theorem TN2_77_ok : TypOk Tryz.prog 77 TN2_77 := ⟨by kernel_rfl, by kernel_rfl, by kernel_rfl, by kernel_rfl, by kernel_rfl⟩
def TN2 : List (Nat × TI) := [(52, TN2_52), (3, TN2_3), (50, TN2_50), (279, TN2_279), (34, TN2_34), (49, TN2_49), (251, TN2_251), (32, TN2_32), (253, TN2_253), (77, TN2_77)]
theorem TN2_ok : TabOk Tryz.prog TN2 := (((((((((((TabOk.nil _).cons TN2_77_ok).cons TN2_253_ok).cons TN2_32_ok).cons TN2_251_ok).cons TN2_49_ok).cons TN2_34_ok).cons TN2_279_ok).cons TN2_50_ok).cons TN2_3_ok).cons TN2_52_ok)

theorem spend_wk {s : Nm.St} (h : WkOk s) : 0 ≤ (Nm.spend s).2.left ∧ (Nm.spend s).2.left ≤ 1000000000 := by
  have := h.left
  unfold Nm.spend
  split
  · exact ⟨Int.le_refl _, by show (0 : Int) ≤ 1000000000; decide⟩
  · rename_i hc; dsimp only; omega
theorem fail_wk {s : Nm.St} (h : WkOk s) (c : Int) (hc : c ≠ 0) : WkOk (Nm.fail s c) := by
  unfold Nm.fail
  split
  · exact ⟨h.left, h.count, fun e => absurd e hc⟩
  · exact h
theorem unit_wk {s : Nm.St} (h : WkOk s) : WkOk (Nm.unit s).2 := by
  have h1 := h.count
  have h3 := spend_wk h
  have h4 := Nm.spend_keeps s
  unfold Nm.unit
  split
  · exact h
  · rename_i he
    have he : s.e = 0 := by simpa using he
    have h2 := h.e0 he
    split
    · rename_i hc
      exact ⟨h.left, ⟨by dsimp only; omega, by dsimp only; omega⟩, fun e => by cases e⟩
    · rename_i hc
      split <;> rename_i hs <;> rw [hs] at h3 h4 <;> simp only at h3 h4 <;> refine ⟨h3, ⟨by dsimp only; omega, by dsimp only; omega⟩, fun e => by dsimp only; omega⟩
theorem seqM_wk {g : Tm → Nm.St → Tm × Nm.St} (hg : ∀ t s, WkOk s → WkOk (g t s).2) : ∀ (l : List Tm) (s : Nm.St), WkOk s → WkOk (Nm.seqM g l s).2
  | [], _, h => h
  | t :: l, s, h => seqM_wk hg l _ (hg t s h)
theorem putW_wk {thr : Nm.Thr} (ht : ∀ xs n t ins s, WkOk s → WkOk (thr xs n t ins s).2) (t : Tm) (xs : List Tm) (s : Nm.St) (h : WkOk s) : WkOk (Nm.putW thr t xs s).2 := by
  unfold Nm.putW
  split
  · exact fail_wk h 1 (by decide)
  · exact ht _ _ _ _ _ h
theorem hit_wk {thr : Nm.Thr} (ht : ∀ xs n t ins s, WkOk s → WkOk (thr xs n t ins s).2) (xs : List Tm) (n : Nat) (t : Tm) (ins : Int) (args : List Tm) (s : Nm.St) (h : WkOk s) : WkOk (Nm.hit thr xs n t ins args s).2 := by
  unfold Nm.hit
  dsimp only
  repeat' split
  all_goals first | exact h | exact fail_wk h 1 (by decide) | exact putW_wk ht _ _ _ h
theorem through_wk (f : Nat) : ∀ xs n t ins s, WkOk s → WkOk (Nm.through f xs n t ins s).2 := by
  induction f with
  | zero => intro xs n t ins s h; exact h
  | succ f ih =>
    intro xs n t ins s h
    unfold Nm.through
    dsimp only
    split
    · exact hit_wk ih _ _ _ _ _ _ (seqM_wk (fun t s h => ih _ _ _ _ _ h) _ _ (unit_wk h))
    · exact unit_wk h

def ThrD (f : Nat) : Prop := ∀ (s : Nm.St) (xs : List Tm) (n : Nat) (t : Tm) (ins : Int), WkOk s → (s.e = 0 → 100001 - s.count ≤ f) → Wide t → (∀ a ∈ xs, Wide a) → xs.length ≤ n → n ≤ 100000 →
  CallC Tryz.prog 186 [.ag [.p 0 0, .sl 4 (eTms xs) none, .v (.int .i64 n)], .ag (eTm t), .v (.int .i64 ins)] (wkE s) (wkE (Nm.through f xs n t ins s).2) (.ag (eTm (Nm.through f xs n t ins s).1))

theorem tz_eq : eTm Nm.tz = [.sl 2 [] none, .v (.int .i64 0), .v (.int .i64 0), .sl 4 [] none] := rfl
theorem retv {T : List (Nat × TI)} {rs : List ResultVar} {V V' : D} {W σ : List (Key × D)} {e : Exit} {N : Nat} (he : e = .normal ∨ e = .ret) (h1 : resD T σ rs = some V') (hv : VLe V' V) (h2 : kW σ W) : RetOk T rs V W e σ N := ⟨he, ⟨V', h1, hv⟩, kW_all h2⟩

set_option maxHeartbeats 1000000 in
theorem put_dd {f : Nat} (hthr : ThrD f) (s : Nm.St) (hs : WkOk s) (hf : s.e = 0 → 100001 - s.count ≤ f) (t : Tm) (xs : List Tm) (ht : Wide t) (hx : ∀ a ∈ xs, Wide a) :
    CallC Tryz.prog 167 [.p 0 0, .ag (eTm t), .sl 4 (eTms xs) none] (wkE s) (wkE (Nm.put f t xs s).2) (.ag (eTm (Nm.put f t xs s).1)) := by
  obtain ⟨bs, k, i, a⟩ := t
  obtain ⟨w1, w2, w3⟩ := ht.inv
  obtain ⟨p, hp⟩ : ∃ p, Nm.put f (.mk bs k i a) xs s = p := ⟨_, rfl⟩
  rw [hp, eTm_eq]
  refine call_of_dw 2 45 [ResultVar.cell 6 52] TN2_ok (by kernel_rfl) Tryz.func167 rfl Tryz.ntmps167 rfl (by simp) ?dwords ?dbody
  case dwords => simp [wordsOk, wkE, D.ok, D.oks, rnames, inN, ckey, eTm_ok, eTms_ok, eTys_ok]
  case dbody =>
    intro cx hnt hn0
    obtain ⟨left, dry, count, er⟩ := s
    dsimp only [wkE, Tm.binds, Tm.kind, Tm.index, Tm.args]
    refine dw_seq ?_
    refine dw_k [] TN2_ok (by kernel_rfl) hnt (by kernel_rfl) (by simp; rfl) ?_
    intro K hK
    refine hK _ _ ?_
    clear hK K
    refine dw_seq (dw_seq ?_)
    by_cases hc : er ≠ 0 ∨ xs.length > bs.length
    · have hp2 : p = (Nm.tz, Nm.fail ⟨left, dry, count, er⟩ 1) := by
        rw [← hp]; unfold Nm.put Nm.putW; exact if_pos hc
      have hfl := fail_d ⟨left, dry, count, er⟩ 1
      by_cases he : er = 0
      · have hl : xs.length > bs.length := hc.resolve_left (fun h => h he)
        refine dw_k [(13, .v (.bool false)), (20, .v (.bool true))] TN2_ok (by kernel_rfl) hnt (by kernel_rfl) (by simp; rfl) ?_
        intro K hK
        refine And.intro (VLe.of_eq (by simp [he])) ?_
        refine And.intro (dtrue (by rw [eTms_len, eTys_len]; omega)) ?_
        refine hK _ _ ?_
        clear hK K
        refine dw_cond (t := true) rfl ?_
        rw [if_pos rfl]
        refine dw_seq ?_
        refine dw_k [] TN2_ok (by kernel_rfl) hnt (by kernel_rfl) (by simp; rfl) ?_
        intro K hK
        refine ⟨_, _, _, Or.inl (hfl), by repeat first | exact trivial | refine And.intro ⟨rfl, rfl⟩ ?_, ?_⟩
        refine hK _ _ ?_
        clear hK K
        refine dw_seq ?_
        refine dw_k [] TN2_ok (by kernel_rfl) hnt (by kernel_rfl) (by simp; rfl) ?_
        intro K hK
        refine hK _ _ ?_
        clear hK K
        refine dw_ret ?_
        rw [hp2, tz_eq]
        exact retv (N := 0) (.inr rfl) rfl (by repeat first | exact VLe.refl _ | exact VLe.nil _ | exact VLe.untag _ _ _ | refine VLe.ag ?_ | refine VLe.tu ?_ | refine VLeL.cons ?_ ?_ | exact VLeL.nil) (by repeat first | exact trivial | refine And.intro rfl ?_)
      · skip
        refine dw_k [(13, .v (.bool true))] TN2_ok (by kernel_rfl) hnt (by kernel_rfl) (by simp; rfl) ?_
        intro K hK
        refine And.intro (VLe.of_eq (by simp [he])) ?_
        refine hK _ _ ?_
        clear hK K
        refine dw_cond (t := true) rfl ?_
        rw [if_pos rfl]
        refine dw_seq ?_
        refine dw_k [] TN2_ok (by kernel_rfl) hnt (by kernel_rfl) (by simp; rfl) ?_
        intro K hK
        refine ⟨_, _, _, Or.inl (hfl), by repeat first | exact trivial | refine And.intro ⟨rfl, rfl⟩ ?_, ?_⟩
        refine hK _ _ ?_
        clear hK K
        refine dw_seq ?_
        refine dw_k [] TN2_ok (by kernel_rfl) hnt (by kernel_rfl) (by simp; rfl) ?_
        intro K hK
        refine hK _ _ ?_
        clear hK K
        refine dw_ret ?_
        rw [hp2, tz_eq]
        exact retv (N := 0) (.inr rfl) rfl (by repeat first | exact VLe.refl _ | exact VLe.nil _ | exact VLe.untag _ _ _ | refine VLe.ag ?_ | refine VLe.tu ?_ | refine VLeL.cons ?_ ?_ | exact VLeL.nil) (by repeat first | exact trivial | refine And.intro rfl ?_)
    · have he : er = 0 := Decidable.byContradiction fun h => hc (.inl h)
      have hl : xs.length ≤ bs.length := by
        rcases Nat.lt_or_ge bs.length xs.length with h | h
        · exact absurd (.inr h) hc
        · exact h
      obtain ⟨r, hr⟩ : ∃ r, Nm.through f xs bs.length (.mk [] k i a) 0 ⟨left, dry, count, er⟩ = r := ⟨_, rfl⟩
      have hp2 : p = (.mk (bs.drop xs.length) r.1.kind r.1.index r.1.args, r.2) := by
        rw [← hp, ← hr]; unfold Nm.put Nm.putW; exact if_neg hc
      have hcon := hthr ⟨left, dry, count, er⟩ xs bs.length (.mk [] k i a) 0 hs hf (.mk _ _ _ _ (by simp) w2 w3) hx hl w1
      rw [hr, eTm_eq, eTm_eq] at hcon
      dsimp only [wkE, Tm.binds, Tm.kind, Tm.index, Tm.args, eTys] at hcon
      refine dw_k [(13, .v (.bool false)), (20, .v (.bool false))] TN2_ok (by kernel_rfl) hnt (by kernel_rfl) (by simp; rfl) ?_
      intro K hK
      refine And.intro (VLe.of_eq (by simp [he])) ?_
      refine And.intro (dfalse (by rw [eTms_len, eTys_len]; omega)) ?_
      refine hK _ _ ?_
      clear hK K
      refine dw_cond (t := false) rfl ?_
      rw [if_neg (by simp)]
      refine dw_skip ?_
      refine dw_seq ?_
      refine dw_k [(29, .v (.int .i64 bs.length))] TN2_ok (by kernel_rfl) hnt (by kernel_rfl) (by simp; rfl) ?_
      intro K hK
      refine And.intro (dintE (by rw [eTys_len])) ?_
      refine hK _ _ ?_
      clear hK K
      refine dw_seq ?_
      refine dw_k [(36, .ag [.sl 2 [] none, .v (.int .i64 k), .v (.int .i64 i), .sl 4 (eTms a) none])] TN2_ok (by kernel_rfl) hnt (by kernel_rfl) (by simp; rfl) ?_
      intro K hK
      refine And.intro (by repeat first | exact VLe.refl _ | exact VLe.nil _ | exact VLe.untag _ _ _ | refine VLe.ag ?_ | refine VLe.tu ?_ | refine VLeL.cons ?_ ?_ | exact VLeL.nil) ?_
      refine ⟨_, _, _, Or.inl (hcon), by repeat first | exact trivial | refine And.intro ⟨rfl, rfl⟩ ?_, ?_⟩
      refine hK _ _ ?_
      clear hK K
      refine dw_seq ?_
      refine dw_k [(42, .sl 2 (eTys (bs.drop xs.length)) none)] TN2_ok (by kernel_rfl) hnt (by kernel_rfl) (by simp; rfl) ?_
      intro K hK
      refine And.intro (⟨by omega, by rw [eTms_len, eTys_len]; omega⟩) ?_
      refine And.intro (VLe.of_eq (by simp [eTms_len, eTys_map, List.take_of_length_le])) ?_
      refine hK _ _ ?_
      clear hK K
      refine dw_seq ?_
      refine dw_k [] TN2_ok (by kernel_rfl) hnt (by kernel_rfl) (by simp; rfl) ?_
      intro K hK
      refine hK _ _ ?_
      clear hK K
      refine dw_ret ?_
      rw [hp2, eTm_eq]
      exact retv (N := 0) (.inr rfl) rfl (VLe.refl _) (by repeat first | exact trivial | refine And.intro rfl ?_)
end Go.Proofs.YtiblklcfjakjmaaGreat

namespace Go.Proofs.YtiblklcfjakjmaaGreat
open Go.RowKit

theorem pure_below {P : Program} {f : FuncId} (hf : entersB P f = true) {ds : List D} {V : D}
    (h : ∀ (m : Mp) (Im : Nat → Nat → Prop) (w : World) (vs : List Value), RelL m Im w vs ds → Calls P f vs.toArray w fun e w' => ∃ v, e = .returned v ∧ Below w.heap.size w w' ∧ ∀ Im' : Nat → Nat → Prop, (∀ b o, Im b o → Im' b o) → (∀ b o v, w.heap.size ≤ b → w'.cell? ⟨b, o, none⟩ = some v → Im' b o) → Rel m Im' w' v V) : PureC P f ds V := by
  refine ⟨hf, fun cx Fr m Im w vs hmem hargs _ => (h m Im w vs hargs).mono ?_⟩
  rintro e w' ⟨v, rfl, hb, hr⟩
  refine ⟨v, fun b o => Im b o ∨ (w.heap.size ≤ b ∧ ∃ v, w'.cell? ⟨b, o, none⟩ = some v), rfl, ⟨hb.os, hb.tape, hb.output, hb.size, fun b hl _ => hb.block b hl⟩, fun b o h => .inl h, fun b o h => h.imp id fun h => h.1, fun b o hi => ?_, fun k b o hk => ?_, hr _ (fun b o h => .inl h) fun b o v h1 h2 => .inr ⟨h1, v, h2⟩, nofun⟩
  · rcases hi with hi | hi
    · obtain ⟨v, hv⟩ := hmem.im b o hi
      exact ⟨v, (hb.cell (p := ⟨b, o, none⟩) (ltOfCell hv)).trans hv⟩
    · exact hi.2
  · exact (World.frozen?_of_block (a := ⟨b, o, none⟩) (hb.block b (hmem.lt k b hk))).trans (hmem.free k b o hk)
theorem agTm {m : Mp} {Im : Nat → Nat → Prop} {w : World} {x : Value} {t : Tm} (h : Rel m Im w x (.ag (eTm t))) : ∃ b k i a, x = .agg #[b, k, i, a] ∧ IsTm (blkI Im) w b k i a t := by
  obtain ⟨cs, rfl, hr⟩ := rel_ag.1 h
  obtain ⟨b, k, i, a, rfl, ht⟩ := tm_of_rel t hr
  exact ⟨b, k, i, a, rfl, ht⟩
theorem slTy {m : Mp} {Im : Nat → Nat → Prop} {w : World} {v : Value} {l : List Ty} (h : Rel m Im w v (.sl 2 (eTys l) none)) : IsSl rpTy (blkI Im) w v l :=
  sl_of_rel (r := rpTy) (e := eTy) eTy_len (fun x t hx _ => ty_of_rel t hx) (by decide) (by rw [eTys_map] at h; exact h)
theorem agTy {m : Mp} {Im : Nat → Nat → Prop} {w : World} {x : Value} {t : Ty} (h : Rel m Im w x (.ag (eTy t))) : ∃ s b, x = .agg #[s, b] ∧ IsTy (blkI Im) w s b t := by
  obtain ⟨cs, rfl, hr⟩ := rel_ag.1 h
  obtain ⟨s, b, rfl, ht⟩ := ty_of_rel t hr
  exact ⟨s, b, rfl, ht⟩
theorem arrow_d (t : Ty) (l : List Ty) (hl : Ty.sizes l + t.size ≤ 100000) : PureC Tryz.prog 93 [.ag (eTy t), .sl 2 (eTys l) none] (.ag (eTy (.mk (l ++ t.args) t.base))) := by
  refine pure_below (by kernel_rfl) fun m Im w vs hv => ?_
  match vs, hv with
  | [x, y], hv =>
    obtain ⟨s, b, rfl, ht⟩ := agTy hv.1
    refine (arrow_k ht (slTy hv.2.1) hl).mono ?_
    rintro e w' ⟨s', b', rfl, h1, h2⟩
    exact ⟨_, rfl, h2, fun Im' _ hI => rel_ag.2 ⟨_, rfl, rel_of_ty (fun b o v hb hc => hI b o v hb hc) _ h1⟩⟩
def TCP_52 : TI := ⟨4, true, [Value.slice none 0 0, Value.int IntKind.i64 0, Value.int IntKind.i64 0, Value.slice none 0 0], [(0, 1, false), (1, 2, true), (3, 1, false)], none, 64, 6, none, false⟩
theorem TCP_52_ok : TypOk Tryz.prog 52 TCP_52 := ⟨by kernel_rfl, by kernel_rfl, by kernel_rfl, by kernel_rfl, by kernel_rfl⟩
def TCP_3 : TI := ⟨1, false, [Value.int IntKind.i64 0], [], none, 8, 2, none, false⟩
theorem TCP_3_ok : TypOk Tryz.prog 3 TCP_3 := ⟨by kernel_rfl, by kernel_rfl, by kernel_rfl, by kernel_rfl, by kernel_rfl⟩
def TCP_50 : TI := ⟨1, false, [Value.slice none 0 0], [], some 52, 24, 5, none, false⟩
theorem TCP_50_ok : TypOk Tryz.prog 50 TCP_50 := ⟨by kernel_rfl, by kernel_rfl, by kernel_rfl, by kernel_rfl, by kernel_rfl⟩
def TCP_49 : TI := ⟨2, true, [Value.int IntKind.i64 0, Value.int IntKind.i64 0], [(0, 1, false), (1, 1, false)], none, 16, 6, none, false⟩
theorem TCP_49_ok : TypOk Tryz.prog 49 TCP_49 := ⟨by kernel_rfl, by kernel_rfl, by kernel_rfl, by kernel_rfl, by kernel_rfl⟩
def TCP_34 : TI := ⟨1, false, [Value.slice none 0 0], [], some 77, 24, 5, none, false⟩
theorem TCP_34_ok : TypOk Tryz.prog 34 TCP_34 := ⟨by kernel_rfl, by kernel_rfl, by kernel_rfl, by kernel_rfl, by kernel_rfl⟩
def TCP_77 : TI := ⟨2, true, [Value.slice none 0 0, Value.int IntKind.i64 0], [(0, 1, false), (1, 1, false)], none, 32, 6, none, false⟩
theorem TCP_77_ok : TypOk Tryz.prog 77 TCP_77 := ⟨by kernel_rfl, by kernel_rfl, by kernel_rfl, by kernel_rfl, by kernel_rfl⟩
def TCP_185 : TI := ⟨1, false, [Value.nilFunc], [], none, 8, 8, none, false⟩
theorem TCP_185_ok : TypOk Tryz.prog 185 TCP_185 := ⟨by kernel_rfl, by kernel_rfl, by kernel_rfl, by kernel_rfl, by kernel_rfl⟩
def TCP : List (Nat × TI) := [(52, TCP_52), (3, TCP_3), (50, TCP_50), (49, TCP_49), (34, TCP_34), (77, TCP_77), (185, TCP_185)]
theorem TCP_ok : TabOk Tryz.prog TCP := ((((((((TabOk.nil _).cons TCP_185_ok).cons TCP_77_ok).cons TCP_34_ok).cons TCP_49_ok).cons TCP_50_ok).cons TCP_3_ok).cons TCP_52_ok)

theorem cEms_snoc (l : List Tm) (j : Nat) (h : j < l.length) : eTms (l.take j) ++ [[.sl 2 (eTys l[j].binds) none, .v (.int .i64 l[j].kind), .v (.int .i64 l[j].index), .sl 4 (eTms l[j].args) none]] = eTms (l.take (j + 1)) := by
  rw [← eTm_eq, List.take_add_one, List.getElem?_eq_getElem h, Option.toList_some, eTms_map, eTms_map, List.map_append]; rfl
theorem copy1_d (x : Int) : PureC Tryz.prog 105 [.v (.int .i64 x)] (.v (.int .i64 x)) := by
  refine call_of_dw 0 4 [ResultVar.tmp 2] TCP_ok (by kernel_rfl) Tryz.func105 rfl Tryz.ntmps105 rfl (by simp) ?dwords ?dbody
  case dwords => simp [wordsOk, D.ok, D.oks, D.okss, rnames, inN, ckey]
  case dbody =>
    intro cx hnt hn0
    refine dw_seq ?_
    refine dw_k [] TCP_ok (by kernel_rfl) hnt (by kernel_rfl) (by simp; rfl) ?_
    intro K hK
    refine hK _ _ ?_
    clear hK K
    refine dw_seq ?_
    refine dw_k [] TCP_ok (by kernel_rfl) hnt (by kernel_rfl) (by simp; rfl) ?_
    intro K hK
    refine hK _ _ ?_
    clear hK K
    refine dw_ret ?_
    exact retv (N := 0) (.inr rfl) rfl (by repeat first | exact VLe.refl _ | exact VLe.nil _ | exact VLe.untag _ _ _ | refine VLe.ag ?_ | refine VLe.tu ?_ | refine VLeL.cons ?_ ?_ | exact VLeL.nil) (by repeat first | exact trivial | refine And.intro rfl ?_)
theorem cFulls_len (l : List Tm) : l.length ≤ Tm.fulls l := by
  induction l with
  | nil => simp
  | cons u l ih =>
    have : 1 ≤ u.full := by obtain ⟨b, k, i, a⟩ := u; rw [Tm.full_eq]; omega
    simp only [List.length_cons, Tm.fulls]; omega
theorem turnedD_d : ∀ t : Tm, ∀ ins : Int, 0 ≤ ins → ins + t.full ≤ 90000 → t.Fit → PureC Tryz.prog 104 [.ag (eTm t), .v (.int .i64 ins), .fn 105 []] (.ag (eTm t)) := by
  intro t
  induction t using Tm.ind with
  | h bs k i ar ih =>
    intro ins h0 hz hft
    rw [Tm.full_eq] at hz
    have hbl := Ty.le_sizes bs
    obtain ⟨hi0, hi1, _⟩ := Tm.fit_iff.1 hft
    have hs1 : (Ty.mk [] 0).size = 1 := by simp [Ty.size, Ty.sizes]
    have harr := arrow_d (.mk [] 0) bs (by omega)
    dsimp only [Ty.args, Ty.base] at harr
    rw [List.append_nil, eTy_eq, eTy_eq] at harr
    dsimp only [Ty.args, Ty.base, eTys] at harr
    have hal := cFulls_len ar
    rw [eTm_eq]
    dsimp only [Tm.binds, Tm.kind, Tm.index, Tm.args]
    obtain ⟨n, hn⟩ : ∃ n : Int, n = ins + bs.length := ⟨_, rfl⟩
    refine call_of_dw 0 63 [ResultVar.cell 6 52] TCP_ok (by kernel_rfl) Tryz.func104 rfl Tryz.ntmps104 rfl (by simp) ?dwords ?dbody
    case dwords => simp [wordsOk, D.ok, D.oks, D.okss, rnames, inN, ckey, eTys_ok, eTms_ok]
    case dbody =>
      intro cx hnt hn0
      refine dw_seq ?_
      refine dw_k [] TCP_ok (by kernel_rfl) hnt (by kernel_rfl) (by simp; rfl) ?_
      intro K hK
      refine hK _ _ ?_
      clear hK K
      refine dw_seq ?_
      refine dw_k [(14, .v (.int .i64 (n)))] TCP_ok (by kernel_rfl) hnt (by kernel_rfl) (by simp; rfl) ?_
      intro K hK
      refine And.intro (dintE (by rw [eTys_len, IntWalk.i64_in _ (by omega)]; omega)) ?_
      refine hK _ _ ?_
      clear hK K
      refine dw_seq ?_
      refine dw_kD [(15, .ag [.sl 2 [] none, .v (.int .i64 0)])] TCP_ok (by kernel_rfl) hnt (by kernel_rfl) (by simp; rfl) ?_
      intro K hK
      refine And.intro (by repeat first | exact VLe.refl _ | exact VLe.nil _ | exact VLe.untag _ _ _ | refine VLe.ag ?_ | refine VLe.tu ?_ | refine VLeL.cons ?_ ?_ | exact VLeL.nil) ?_
      refine ⟨_, _, _, Or.inl (harr), by repeat first | exact trivial | refine And.intro ⟨rfl, rfl⟩ ?_, ?_⟩
      refine hK _ _ (by kernel_rfl) ?_
      clear hK K
      refine dw_cut (τ := [(.t 1, .v (.int .i64 n)), (.t 2, .fn 105 []), (.t 3, .p 0 0), (.t 6, .p 1 0), (.t 7, .p 16 0), (.c 0 0, .sl 2 (eTys bs) none), (.c 0 1, .v (.int .i64 k)), (.c 0 2, .v (.int .i64 i)), (.c 0 3, .sl 4 (eTms ar) none), (.c 1 0, .v (.slice none 0 0)), (.c 1 1, .v (.int .i64 0)), (.c 1 2, .v (.int .i64 0)), (.c 1 3, .v (.slice none 0 0)), (.c 16 0, .sl 2 (eTys bs) none), (.c 16 1, .v (.int .i64 k)), (.c 16 2, .v (.int .i64 i)), (.c 16 3, .v (.slice none 0 0))]) (N1 := 17) ?_ ?_
      · by_cases hk : k = 0
        · by_cases hge : i ≥ n
          · have hc1 := copy1_d (i - n)
            refine dw_seq ?_
            refine dw_k [(26, .v (.bool true)), (32, .v (.bool true))] TCP_ok (by kernel_rfl) hnt (by kernel_rfl) (by simp; rfl) ?_
            intro K hK
            refine And.intro (VLe.of_eq (by simp [hk])) ?_
            refine And.intro (by first | exact dtrue (by omega) | exact VLe.of_eq (by simp [*]; done) | exact dtrue (by first | omega | (simp only [List.length_append, List.length_take, List.length_cons, List.length_nil, eTms_len, eTys_len]; omega) | assumption | (simp_all; done)) | exact VLe.of_eq (by simp_all; done)) ?_
            refine hK _ _ ?_
            clear hK K
            refine dw_cond (t := true) rfl ?_
            rw [if_pos rfl]
            refine dw_k [(40, .v (.int .i64 ((i - n)))), (42, .v (.int .i64 (i)))] TCP_ok (by kernel_rfl) hnt (by kernel_rfl) (by simp; rfl) ?_
            intro K hK
            refine And.intro (dintE (by exact IntWalk.i64_in _ (by omega))) ?_
            refine ⟨_, _, _, Or.inl (hc1), by repeat first | exact trivial | refine And.intro ⟨rfl, rfl⟩ ?_, ?_⟩
            refine And.intro (dintE (by (rw [show n + (i - n) = i by omega]; exact IntWalk.i64_in _ (by omega)))) ?_
            refine hK _ _ ?_
            clear hK K
            exact cut_ok (VS.toK (by first | omega | simp [hn0]) (by repeat first | exact trivial | refine And.intro (And.intro (by first | rfl | simp [D.ok, D.oks, D.okss, D.okm, eTm_ok, eTy_ok, eTys_ok, eTms_ok, upto, keyOk, eTys_ok, eTms_ok]) (by first | exact Or.inl rfl | exact Or.inr ⟨_, rfl, (by repeat first | exact VLe.refl _ | exact VLe.nil _ | exact VLe.untag _ _ _ | refine VLe.ag ?_ | refine VLe.tu ?_ | refine VLeL.cons ?_ ?_ | exact VLeL.nil), trivial⟩ | simp [get, Key.eq, eTys_ok, eTms_ok])) ?_))
          · skip
            refine dw_seq ?_
            refine dw_k [(26, .v (.bool true)), (32, .v (.bool false))] TCP_ok (by kernel_rfl) hnt (by kernel_rfl) (by simp; rfl) ?_
            intro K hK
            refine And.intro (VLe.of_eq (by simp [hk])) ?_
            refine And.intro (by first | exact dfalse (by omega) | exact VLe.of_eq (by simp [*]; done) | exact dfalse (by first | omega | (simp only [List.length_append, List.length_take, List.length_cons, List.length_nil, eTms_len, eTys_len]; omega) | assumption | (simp_all; done)) | exact VLe.of_eq (by simp_all; done)) ?_
            refine hK _ _ ?_
            clear hK K
            refine dw_cond (t := false) rfl ?_
            rw [if_neg (by simp)]
            refine dw_skip ?_
            exact cut_ok (VS.toK (by first | omega | simp [hn0]) (by repeat first | exact trivial | refine And.intro (And.intro (by first | rfl | simp [D.ok, D.oks, D.okss, D.okm, eTm_ok, eTy_ok, eTys_ok, eTms_ok, upto, keyOk, eTys_ok, eTms_ok]) (by first | exact Or.inl rfl | exact Or.inr ⟨_, rfl, (by repeat first | exact VLe.refl _ | exact VLe.nil _ | exact VLe.untag _ _ _ | refine VLe.ag ?_ | refine VLe.tu ?_ | refine VLeL.cons ?_ ?_ | exact VLeL.nil), trivial⟩ | simp [get, Key.eq, eTys_ok, eTms_ok])) ?_))
        · skip
          refine dw_seq ?_
          refine dw_k [(26, .v (.bool false))] TCP_ok (by kernel_rfl) hnt (by kernel_rfl) (by simp; rfl) ?_
          intro K hK
          refine And.intro (VLe.of_eq (by simp [hk])) ?_
          refine hK _ _ ?_
          clear hK K
          refine dw_cond (t := false) rfl ?_
          rw [if_neg (by simp)]
          refine dw_skip ?_
          exact cut_ok (VS.toK (by first | omega | simp [hn0]) (by repeat first | exact trivial | refine And.intro (And.intro (by first | rfl | simp [D.ok, D.oks, D.okss, D.okm, eTm_ok, eTy_ok, eTys_ok, eTms_ok, upto, keyOk, eTys_ok, eTms_ok]) (by first | exact Or.inl rfl | exact Or.inr ⟨_, rfl, (by repeat first | exact VLe.refl _ | exact VLe.nil _ | exact VLe.untag _ _ _ | refine VLe.ag ?_ | refine VLe.tu ?_ | refine VLeL.cons ?_ ?_ | exact VLeL.nil), trivial⟩ | simp [get, Key.eq, eTys_ok, eTms_ok])) ?_))
      · refine DW.vs (VS.row (k := 16) (off := 3) 52 4 rfl) ?_
        refine dw_seq ?_
        refine dw_seq ?_
        refine dw_k [(47, .v (.int .i64 (↑ar.length)))] TCP_ok (by kernel_rfl) hnt (by kernel_rfl) (by simp; rfl) ?_
        intro K hK
        refine And.intro (dintE (by rw [eTms_len])) ?_
        refine hK _ _ ?_
        clear hK K
        refine dw_block ?_
        refine dw_loop (ι := { j : Nat // j ≤ ar.length }) (fun j => [(.t 1, .v (.int .i64 n)), (.t 2, .fn 105 []), (.t 6, .p 1 0), (.t 7, .p 16 0), (.t 46, .sl 4 (eTms ar) none), (.t 47, .v (.int .i64 ↑ar.length)), (.t 48, .v (.int .i64 ↑j.1)), (.c 1 0, .v (.slice none 0 0)), (.c 1 1, .v (.int .i64 0)), (.c 1 2, .v (.int .i64 0)), (.c 1 3, .v (.slice none 0 0)), (.c 16 0, .sl 2 (eTys bs) none), (.c 16 1, .v (.int .i64 k)), (.c 16 2, .v (.int .i64 i)), (.c 16 3, .sl 4 (eTms (ar.take j.1)) (some 17)), (.r 17, .rw 52 4 j.1)]) 18 (fun j => ar.length - j.1) (⟨0, Nat.zero_le _⟩) ((VS.toK (by first | omega | simp [hn0]) (by repeat first | exact trivial | refine And.intro (And.intro (by first | rfl | simp [D.ok, D.oks, D.okss, D.okm, eTm_ok, eTy_ok, eTys_ok, eTms_ok, upto, keyOk, eTys_ok, eTms_ok]) (by first | exact Or.inl rfl | exact Or.inr ⟨_, rfl, (by repeat first | exact VLe.refl _ | exact VLe.nil _ | exact VLe.untag _ _ _ | refine VLe.ag ?_ | refine VLe.tu ?_ | refine VLeL.cons ?_ ?_ | exact VLeL.nil), trivial⟩ | simp [get, Key.eq, eTys_ok, eTms_ok])) ?_))) fun j => ?_
        obtain ⟨j, hj⟩ := j
        dsimp only
        by_cases hlt : j < ar.length
        · have hmem := List.getElem_mem hlt
          have hsz := Tm.full_mem hmem
          have hc := ih _ hmem n (by omega) (by omega) ((Tm.fit_iff.1 hft).2.2 _ hmem)
          rw [eTm_eq] at hc
          have hl1 : (eTms (ar.take j)).length = j := by rw [eTms_len, List.length_take]; omega
          have hl2 : (eTms (ar.take (j + 1))).length = j + 1 := by rw [eTms_len, List.length_take]; omega
          refine dw_seq ?_
          refine dw_k [(49, .v (.bool true))] TCP_ok (by kernel_rfl) hnt (by kernel_rfl) (by simp; rfl) ?_
          intro K hK
          refine And.intro (by first | exact dtrue (by omega) | exact VLe.of_eq (by simp [*]; done) | exact dtrue (by first | omega | (simp only [List.length_append, List.length_take, List.length_cons, List.length_nil, eTms_len, eTys_len]; omega) | assumption | (simp_all; done)) | exact VLe.of_eq (by simp_all; done)) ?_
          refine hK _ _ ?_
          clear hK K
          refine dw_seq ?_
          refine dw_cond (t := true) rfl ?_
          rw [if_pos rfl]
          refine dw_skip ?_
          refine dw_seq ?_
          refine dw_block ?_
          refine dw_seq ?_
          refine dw_k [(50, .q [.sl 2 (eTys ar[j].binds) none, .v (.int .i64 ar[j].kind), .v (.int .i64 ar[j].index), .sl 4 (eTms ar[j].args) none])] TCP_ok (by kernel_rfl) hnt (by kernel_rfl) (by simp; rfl) ?_
          intro K hK
          refine And.intro (by first | exact ⟨by omega, by rw [eTms_len]; omega⟩ | (simp only [eTms_len]; omega)) ?_
          refine And.intro (VLe.of_eq (by rw [show (Int.toNat ((j : Nat) : Int)) = j by omega, eTms_getD ar j (by omega), eTm_eq])) ?_
          refine hK _ _ ?_
          clear hK K
          refine dw_kD [] TCP_ok (by kernel_rfl) hnt (by kernel_rfl) (by simp; rfl) ?_
          intro K hK
          refine ⟨_, _, _, Or.inl (hc), by repeat first | exact trivial | refine And.intro ⟨rfl, rfl⟩ ?_, ?_⟩
          refine And.intro (⟨by omega, by rw [hl1]; simp; omega⟩) ?_
          refine hK _ _ (by kernel_rfl) ?_
          clear hK K
          rw [cEms_snoc ar j hlt, hl2]
          refine dw_k [(61, .v (.int .i64 (↑(j + 1))))] TCP_ok (by kernel_rfl) hnt (by kernel_rfl) (by simp; rfl) ?_
          intro K hK
          refine And.intro (dintE (by first | omega | exact IntWalk.i64_in _ (by omega) | (rw [IntWalk.i64_in _ (by omega)]; omega) | omega | (simp only [List.length_append, List.length_take, List.length_cons, List.length_nil, eTms_len, eTys_len]; omega) | assumption | (simp_all; done))) ?_
          refine hK _ _ ?_
          clear hK K
          refine ⟨⟨j + 1, hlt⟩, by first | omega | (dsimp only; omega), (VS.toK (by first | omega | simp [hn0]) (by repeat first | exact trivial | refine And.intro (And.intro (by first | rfl | simp [D.ok, D.oks, D.okss, D.okm, eTm_ok, eTy_ok, eTys_ok, eTms_ok, upto, keyOk, eTys_ok, eTms_ok]) (by first | exact Or.inl rfl | exact Or.inr ⟨_, rfl, (by repeat first | exact VLe.refl _ | exact VLe.nil _ | exact VLe.untag _ _ _ | refine VLe.ag ?_ | refine VLe.tu ?_ | refine VLeL.cons ?_ ?_ | exact VLeL.nil), trivial⟩ | simp [get, Key.eq, eTys_ok, eTms_ok])) ?_))⟩
        · rw [List.take_of_length_le (by omega)]
          refine dw_seq ?_
          refine dw_k [(49, .v (.bool false))] TCP_ok (by kernel_rfl) hnt (by kernel_rfl) (by simp; rfl) ?_
          intro K hK
          refine And.intro (by first | exact dfalse (by omega) | exact VLe.of_eq (by simp [*]; done) | exact dfalse (by first | omega | (simp only [List.length_append, List.length_take, List.length_cons, List.length_nil, eTms_len, eTys_len]; omega) | assumption | (simp_all; done)) | exact VLe.of_eq (by simp_all; done)) ?_
          refine hK _ _ ?_
          clear hK K
          refine dw_seq ?_
          refine dw_cond (t := false) rfl ?_
          rw [if_neg (by simp)]
          refine dw_exit ?_
          refine dw_seq ?_
          refine dw_k [] TCP_ok (by kernel_rfl) hnt (by kernel_rfl) (by simp; rfl) ?_
          intro K hK
          refine hK _ _ ?_
          clear hK K
          refine dw_ret ?_
          exact retv (N := 0) (.inr rfl) rfl (by repeat first | exact VLe.refl _ | exact VLe.nil _ | exact VLe.untag _ _ _ | refine VLe.ag ?_ | refine VLe.tu ?_ | refine VLeL.cons ?_ ?_ | exact VLeL.nil) (by repeat first | exact trivial | refine And.intro rfl ?_)
theorem copy_d (t : Tm) (hsz : t.full ≤ 80000) (hfit : t.Fit) : PureC Tryz.prog 61 [.ag (eTm t)] (.ag (eTm t)) := by
  have h := turnedD_d t 0 (Int.le_refl _) (by omega) hfit
  rw [eTm_eq] at h ⊢
  refine call_of_dw 0 5 [ResultVar.cell 2 52] TCP_ok (by kernel_rfl) Tryz.func61 rfl Tryz.ntmps61 rfl (by simp) ?dwords ?dbody
  case dwords => simp [wordsOk, D.ok, D.oks, D.okss, rnames, inN, ckey, eTys_ok, eTms_ok]
  case dbody =>
    intro cx hnt hn0
    refine dw_seq ?_
    refine dw_k [] TCP_ok (by kernel_rfl) hnt (by kernel_rfl) (by simp; rfl) ?_
    intro K hK
    refine hK _ _ ?_
    clear hK K
    refine dw_seq ?_
    refine dw_k [] TCP_ok (by kernel_rfl) hnt (by kernel_rfl) (by simp; rfl) ?_
    intro K hK
    refine ⟨_, _, _, Or.inl (h), by repeat first | exact trivial | refine And.intro ⟨rfl, rfl⟩ ?_, ?_⟩
    refine hK _ _ ?_
    clear hK K
    refine dw_ret ?_
    exact retv (N := 0) (.inr rfl) rfl (by repeat first | exact VLe.refl _ | exact VLe.nil _ | exact VLe.untag _ _ _ | refine VLe.ag ?_ | refine VLe.tu ?_ | refine VLeL.cons ?_ ?_ | exact VLeL.nil) (by repeat first | exact trivial | refine And.intro rfl ?_)
end Go.Proofs.YtiblklcfjakjmaaGreat

namespace Go.Proofs.YtiblklcfjakjmaaGreat
open Go.RowKit

def Mild {β : Type} (Ok : Obj → Prop) (B : Nat) (J : β → World → Prop) : Prop :=
  ∀ s W W' row, J s W → W.grownBy W' row → (∀ r, row = some r → B ≤ r ∧ ∃ o : Obj, W.heap[r]? = some o ∧ Ok o) → J s W'
section
variable {β : Type} {Ok : Obj → Prop} {B : Nat} {I I' : β → World → Prop}
theorem Mild.and (h : Mild Ok B I) (h' : Mild Ok B I') : Mild Ok B (fun s W => I s W ∧ I' s W) := fun s W W' row hs hg hr => ⟨h s W W' row hs.1 hg hr, h' s W W' row hs.2 hg hr⟩
theorem Mild.alloc (h : Mild Ok B I) {s : β} {W : World} (hs : I s W) (o : Obj) : I s (W.alloc o) := h s W _ none hs (World.grownBy_alloc W o none) (fun r e => by cases e)
theorem Mild.put (h : Mild Ok B I) (hOk : ∀ o : Obj, o.isCells = false → Ok o) {s : β} {W : World} (hs : I s W) {l : Nat} {o : Obj} (o' : Obj) (hl : W.heap[l]? = some o) (ho : o.isCells = false) (hB : B ≤ l) : I s (W.putObj l o') :=
  h s W _ _ hs (grownBy_putObj' W l o') (fun r e => by cases e; exact ⟨hB, o, hl, hOk o ho⟩)
theorem Mild.up {B' : Nat} (h : Mild Ok B I) (hB : B ≤ B') : Mild Ok B' I := fun s W W' row hs hg hr => h s W W' row hs hg fun r e => ⟨Nat.le_trans hB (hr r e).1, (hr r e).2⟩
theorem mild_block {k : Nat} {o : Obj} (hk : k < B) : Mild Ok B (fun (_ : β) W => W.heap[k]? = some o) := fun _ W _ row hs hg hr => (hg.block k (Array.getElem?_eq_some_iff.1 hs).1 (fun e => by have := (hr k e.symm).1; omega)).trans hs
theorem mild_below {n0 : Nat} {w0 : World} (hn : n0 ≤ w0.heap.size) (hB : n0 ≤ B) : Mild Ok B (fun (_ : β) W => Below n0 w0 W) := fun _ _ _ _ hs hg hr => hs.grown hg (Nat.le_trans hn hs.size) (fun k e => Nat.le_trans hB (hr k e).1)
end

def SeqSoft {α : Type} (Ok : Obj → Prop) (F : Fence) (n : Nat) (P : Program) (g : Nat) (lb : Array Value) (encs : α → Array Value) (Kp : World → World → Prop) (S Sp : List α → Prop) (N : Nat) (w : World) : Prop :=
  ∀ (l : Nat) (J Jx : List α → World → Prop) (W : World), Below w.heap.size w W → Mild Ok W.heap.size J → Mild Ok W.heap.size Jx →
    (∀ pre x V, J pre V → pre.length < N → YieldAt F (n - 1) P l (encs x) V fun e V' => (e = .returned (.bool true) ∧ J (pre ++ [x]) V' ∧ Kp V V') ∨ (e = .returned (.bool false) ∧ Jx (pre ++ [x]) V')) →
    J [] W → CallsIn F n P g (#[.func (.yield l) #[] #[]] ++ lb) W fun e W' => (∃ v, e = .returned v) ∧ ((∃ xs, S xs ∧ J xs W') ∨ (∃ pre, Sp pre ∧ Jx pre W'))

theorem range_softA {Ok : Obj → Prop} (hOk : ∀ o : Obj, o.isCells = false → Ok o) {F : Fence} {n : Nat} {P : Program} {α : Type} {g : Operand} {ps : Array Tmp} {assign body : Code} {Q : Exit → Act → World → Prop} {a : Act} {w : World}
    (hro : F.round = none) (hn : 1 ≤ n) {gf : Nat} {lb : Array Value} (hg : a.eval g = .func (.func gf) #[] lb) (hF : F.fn gf) (eg : ∀ args w, (callFunc gf args).run P w = .ok (.enter gf args) w)
    {encs : α → Array Value} {Kp : World → World → Prop} {S Sp : List α → Prop} {N : Nat} {w0 : World} (hseq : SeqSoft Ok F (n - 1) P gf lb encs Kp S Sp N w0)
    (hKt : ∀ {X Y Z : World}, Kp X Y → Kp Y Z → Kp X Z) (hKb : ∀ (W : World) (l : Nat) (o o' : Obj), w.heap.size ≤ l → W.heap[l]? = some o → o.isCells = false → o.isWalk = false → Kp W (W.putObj l o')) (hw0 : Below w0.heap.size w0 w) (hps : ∀ x, (encs x).size = ps.size)
    (I : List α → World → Prop) (Ix : Code → List α → World → Prop) (hI : Mild Ok w.heap.size I) (hIx : ∀ c, Mild Ok w.heap.size (Ix c)) (h0 : I [] w) (Ra : α → Act → World → Prop) (hRa : ∀ x a' W l (o o' : Obj), w.heap.size ≤ l → W.heap[l]? = some o → o.isCells = false → Ra x a' W → Ra x a' (W.putObj l o'))
    (hassign : ∀ (l : Nat) (pre : List α) (x : α) (W : World) (K : Act → World → Prop), I pre W → (∀ a' W', KeepsFrom w.heap.size W W' → Kp W W' → I pre W' → Ra x a' W' → K a' W') →
      assign.wpIn (F.inRound l) (n - 1 - 1) P (Exit.then K (fun _ _ _ => False)) { tmps := (ps.zip (encs x)).foldl (fun t (p, v) => t.setIfInBounds p v) a.tmps, defers := [] } W)
    (hbody : ∀ (l : Nat) (pre : List α) (x : α) (a' : Act) (W : World), I pre W → pre.length < N → Ra x a' W → body.wpIn (F.inRound l) (n - 1 - 1) P (ownPostG w.heap.size Kp I Ix (pre ++ [x]) W) a' W)
    (hdone : ∀ (D : Nat) (xs : List α) (W : World), w.heap.size ≤ D → S xs → I xs W → W.heap[D]? = some (.deferred (some [])) → Q .normal { a with defers := { target := .collected D, args := #[] } :: a.defers } W)
    (hstop : ∀ (D : Nat) (c : Code) (pre : List α) (W : World), w.heap.size ≤ D → Sp pre → Ix c pre W → W.heap[D]? = some (.deferred (some [])) → c.wpIn F n P Q { a with defers := { target := .collected D, args := #[] } :: a.defers } W) :
    (Code.rangeFunc g ps assign body).wpIn F n P Q a w := by
  refine wpIn_rangeFunc fun fn hfn => ?_
  rw [hro]
  let L : LoopState → Option Code → Obj := fun st pe => .loop { state := st, pending := pe, fn, tmps := a.tmps, params := ps, assign, body, defers := w.heap.size }
  let D : Obj := .deferred (some [])
  obtain ⟨W1, hW1⟩ : ∃ W1, (w.alloc D).alloc (L .ready none) = W1 := ⟨_, rfl⟩
  have hz : W1.heap.size = w.heap.size + 2 := by rw [← hW1]; simp
  have hL : W1.heap[w.heap.size + 1]? = some (L .ready none) := by rw [← hW1]; have h := World.alloc_heap_new (w.alloc D) (L .ready none); rwa [World.size_alloc] at h
  have hD : W1.heap[w.heap.size]? = some D := by rw [← hW1]; exact (Below.heap_alloc _ _ _ (by simp)).trans (World.alloc_heap_new w D)
  refine ⟨w.heap.size + 1, [{ target := .collected w.heap.size, args := #[] }], W1, { target := .fn (.func gf) lb, args := #[.func (.yield (w.heap.size + 1)) #[] #[]] }, W1, gf,
    #[.func (.yield (w.heap.size + 1)) #[] #[]] ++ lb, W1, by rw [← hW1]; exact run_enterLoop_outer _ _ _ _ _, by simp only [resolve, hg]; simp [go_sem], ?_, by simp [invoke, go_sem, eg], fun _ => hn, ?_⟩
  · intro f' hf'; simp [Target.leads] at hf'; subst hf'; exact hF
  have up : ∀ {β : Type} {J : β → World → Prop}, Mild Ok w.heap.size J → Mild Ok W1.heap.size J := fun h => h.up (by omega)
  have m1 : ∀ (o : Obj), Mild Ok W1.heap.size (fun (_ : List α) W => W.heap[w.heap.size + 1]? = some o) := fun o => mild_block (by omega)
  have m0 : Mild Ok W1.heap.size (fun (_ : List α) W => W.heap[w.heap.size]? = some D) := mild_block (by omega)
  refine (hseq (w.heap.size + 1)
    (fun pre W => I pre W ∧ W.heap[w.heap.size + 1]? = some (L .ready none) ∧ W.heap[w.heap.size]? = some D)
    (fun pre W => ∃ c, Ix c pre W ∧ W.heap[w.heap.size + 1]? = some (L .done (some c)) ∧ W.heap[w.heap.size]? = some D) W1
    (by rw [← hW1]; exact hw0.trans ((((Below.refl _ w).alloc (Nat.le_refl _) _).alloc (by simp) _).mono hw0.size))
    ((up hI).and ((m1 _).and m0)) (fun s A B row ⟨c, h1, h2, h3⟩ hgr hr => ⟨c, up (hIx c) s A B row h1 hgr hr, m1 _ s A B row h2 hgr hr, m0 s A B row h3 hgr hr⟩)
    ?_ ⟨by rw [← hW1]; exact hI.alloc (hI.alloc h0 _) _, hL, hD⟩).mono ?_
  · -- a round
    rintro pre x V0 ⟨hi0, hl0, hd0⟩ hlen
    refine ⟨fn, _, assign, body, run_yield (P := P) (args := encs x) hl0 (hps x), roundIn_of_wpIn hfn (hassign _ pre x V0 _ hi0 fun a' V hkf hkp0 hi hra => ?_)⟩
    have hl := hkf.same _ _ (by omega) hl0 rfl
    have hd := hkf.same _ _ (Nat.le_refl _) hd0 rfl
    have hlt : w.heap.size + 1 < V.heap.size := (Array.getElem?_eq_some_iff.1 hl).1
    refine ⟨_, run_beginRound hl rfl, ?_⟩
    obtain ⟨V2, hV2⟩ : ∃ V2, V.putObj (w.heap.size + 1) (L .busy none) = V2 := ⟨_, rfl⟩
    have hl2 : V2.heap[w.heap.size + 1]? = some (L .busy none) := by rw [← hV2]; exact World.putObj_heap_same hlt
    have hd2 : V2.heap[w.heap.size]? = some D := by rw [← hV2]; exact (World.putObj_heap_other (by omega)).trans hd
    have hk2 : Kp V0 V2 := by rw [← hV2]; exact hKt hkp0 (hKb _ _ _ _ (by omega) hl rfl rfl)
    have hi2 : I pre V2 := by rw [← hV2]; exact hI.put hOk hi _ hl rfl (by omega)
    have hra2 : Ra x a' V2 := by rw [← hV2]; exact hRa _ _ _ _ _ _ (by omega) hl rfl hra
    show Code.wpIn _ _ _ _ _ _ (V.putObj (w.heap.size + 1) (L .busy none))
    rw [hV2]
    clear hV2 hl hd hi hlt
    refine wpIn_mono (hbody _ pre x a' V2 hi2 hlen hra2) ?_
    have fin : ∀ (jump : Option Code) (V3 : World), KeepsFrom w.heap.size V2 V3 → V3.heap[w.heap.size + 1]? = some (L .busy none) ∧ ∃ V4, V4 = V3.putObj (w.heap.size + 1) (L (if jump.isNone then .ready else .done) jump) ∧
        (Instr.endRound (w.heap.size + 1) jump).run P V3 = .ok (.bool jump.isNone) V4 ∧ V4.heap[w.heap.size + 1]? = some (L (if jump.isNone then .ready else .done) jump) ∧ V4.heap[w.heap.size]? = some D := fun jump V3 hk => by
      have h1 := hk.same _ _ (by omega) hl2 rfl
      exact ⟨h1, _, rfl, run_endRound (P := P) jump h1, World.putObj_heap_same (Array.getElem?_eq_some_iff.1 h1).1, (World.putObj_heap_other (by omega)).trans (hk.same _ _ (Nat.le_refl _) hd2 rfl)⟩
    have out : ∀ (c : Code) (V3 : World), KeepsFrom w.heap.size V2 V3 → Ix c (pre ++ [x]) V3 → ∃ r V4, (Instr.endRound (w.heap.size + 1) (some c)).run P V3 = .ok r V4 ∧ (Ending.returned r = .returned (.bool false) ∧ ∃ c, Ix c (pre ++ [x]) V4 ∧ V4.heap[w.heap.size + 1]? = some (L .done (some c)) ∧ V4.heap[w.heap.size]? = some D) := fun c V3 hk hi => by
      obtain ⟨h3, V4, rfl, hr, h4, h5⟩ := fin (some c) V3 hk
      exact ⟨_, _, hr, rfl, c, (hIx c).put hOk hi _ h3 rfl (by omega), h4, h5⟩
    rintro e a3 V3 hp
    cases e with
    | normal =>
      obtain ⟨hk, hkp, hi⟩ := hp
      obtain ⟨h3, V4, rfl, hr, h4, h5⟩ := fin none V3 hk
      exact ⟨_, _, hr, .inl ⟨rfl, ⟨hI.put hOk hi _ h3 rfl (by omega), h4, h5⟩, hKt (hKt hk2 hkp) (hKb _ _ _ _ (by omega) h3 rfl rfl)⟩⟩
    | ret => obtain ⟨r, V4, hr, h⟩ := out .ret V3 hp.1 hp.2; exact ⟨r, V4, hr, .inr h⟩
    | exit id => obtain ⟨r, V4, hr, h⟩ := out (.exit id) V3 hp.1 hp.2; exact ⟨r, V4, hr, .inr h⟩
    | goto t => obtain ⟨r, V4, hr, h⟩ := out (.goto t) V3 hp.1 hp.2; exact ⟨r, V4, hr, .inr h⟩
    | panic ch => exact hp.elim
    | outgrown => exact hp.elim
  · -- behind the iterator
    rintro e W2 ⟨⟨v, rfl⟩, ⟨xs, hS, hi, hl, hd⟩ | ⟨pre, hSp, c, hi, hl, hd⟩⟩
    · exact ⟨none, _, run_endLoop (P := P) hl (by simp), hdone _ xs _ (Nat.le_refl _) hS (hI.put hOk hi _ hl rfl (by omega)) ((World.putObj_heap_other (by omega)).trans hd)⟩
    · exact ⟨some c, _, run_endLoop (P := P) hl (by simp), hstop _ c pre _ (Nat.le_refl _) hSp ((hIx c).put hOk hi _ hl rfl (by omega)) ((World.putObj_heap_other (by omega)).trans hd)⟩
end Go.Proofs.YtiblklcfjakjmaaGreat

namespace Go.Proofs.YtiblklcfjakjmaaGreat
open Go.RowKit Go.Shelf
attribute [local go_sem] Oper.semAt_some

namespace Tm
mutual
def pre : Tm → Nat → Nat → List (Nat × Nat × Tm)
  | .mk b k i a, s, d => (s + b.length, d, .mk b k i a) :: pres a (s + b.length) (d + 1)
def pres : List Tm → Nat → Nat → List (Nat × Nat × Tm)
  | [], _, _ => []
  | t :: l, s, d => pre t s d ++ pres l s d
end
theorem pre_eq (b : List Ty) (k i : Int) (a : List Tm) (s d : Nat) : pre (.mk b k i a) s d = (s + b.length, d, .mk b k i a) :: pres a (s + b.length) (d + 1) := by rw [pre]
theorem pres_append (l r : List Tm) (s d : Nat) : pres (l ++ r) s d = pres l s d ++ pres r s d := by
  induction l with
  | nil => simp [pres]
  | cons t l ih => simp [pres, ih]
theorem pres_take (l : List Tm) (i s d : Nat) (h : i < l.length) : pres (l.take (i + 1)) s d = pres (l.take i) s d ++ pre l[i] s d := by
  rw [List.take_succ_eq_append_getElem h, pres_append]; simp [pres]
theorem pres_take_le (l : List Tm) (i s d : Nat) : pres (l.take i) s d <+: pres l s d := by
  conv => rhs; rw [← List.take_append_drop i l]
  rw [pres_append]; exact List.prefix_append _ _
theorem pres_length_of {l : List Tm} (h : ∀ t ∈ l, ∀ s d, (pre t s d).length = t.size) : ∀ s d, (pres l s d).length = sizes l := by
  induction l with
  | nil => intro s d; simp [pres, sizes]
  | cons t l ih => intro s d; simp [pres, sizes, h t (by simp) s d, ih (fun u hu => h u (by simp [hu])) s d]
theorem pre_length (t : Tm) : ∀ s d, (pre t s d).length = t.size := by
  induction t using Tm.ind with
  | h b k i a ih => intro s d; simp [pre_eq, size_eq, pres_length_of ih]
theorem pres_length (l : List Tm) (s d : Nat) : (pres l s d).length = sizes l := pres_length_of (fun t _ => pre_length t) s d
end Tm

structure Hit6 (F : Nat → Prop) (w : World) where
  s : Nat
  d : Nat
  pb : Option Addr
  cb : Nat
  pa : Option Addr
  ca : Nat
  t : Tm
  ok : IsTm F w (.slice pb t.binds.length cb) (.int .i64 t.kind) (.int .i64 t.index) (.slice pa t.args.length ca) t
def Hit6.key {F : Nat → Prop} {w : World} (x : Hit6 F w) : Nat × Nat × Tm := (x.s, x.d, x.t)
def Hit6.enc {F : Nat → Prop} {w : World} (x : Hit6 F w) : Array Value := #[.agg #[.int .i64 x.s, .int .i64 x.d], .agg #[.slice x.pb x.t.binds.length x.cb, .int .i64 x.t.kind, .int .i64 x.t.index, .slice x.pa x.t.args.length x.ca]]

def DownPost6 {F : Nat → Prop} {w0 : World} (G : Nat → TypeId → Prop) (J Jx : List (Hit6 F w0) → World → Prop) (pre : List (Hit6 F w0)) (l : List (Nat × Nat × Tm)) (W : World) (e : Ending) (W' : World) : Prop :=
  (e = .returned (.bool true) ∧ KeepC G W W' ∧ ∃ xs, xs.map Hit6.key = l ∧ J (pre ++ xs) W') ∨ (e = .returned (.bool false) ∧ ∃ xs, xs.map Hit6.key <+: l ∧ Jx (pre ++ xs) W')

def SpotOk (o : Obj) : Prop := o.isCells = false ∨ ∃ cs fr, o = .cells cs 173 fr
theorem KeepC.setNew {G : Nat → TypeId → Prop} {A B : World} (h : KeepC G A B) (p : Addr) (u : Value) (hp : A.heap.size ≤ p.block) : KeepC G A (B.setCell p u) :=
  ⟨by simpa using h.size, fun k cs t fr hk hc => by
    have hlt : k < A.heap.size := (Array.getElem?_eq_some_iff.1 hc).1
    exact (Below.heap_setCell _ _ _ _ (fun e => by omega)).trans (h.cells k cs t fr hk hc)⟩
theorem Mild.setSpot {β : Type} {B : Nat} {J : β → World → Prop} (h : Mild SpotOk B J) {s : β} {W : World} (hs : J s W) {n i : Nat} {cs : Array Value} (u : Value) (hb : Blk W n cs 173) (hB : B ≤ n) : J s (W.setCell ⟨n, i, none⟩ u) :=
  h s W _ (some n) hs ⟨rfl, rfl, rfl, by simp, fun k _ hk => Below.heap_setCell _ _ _ _ (fun e => hk (by rw [e]))⟩ (fun r e => by cases e; exact ⟨hB, _, hb, .inr ⟨_, _, rfl⟩⟩)

set_option maxRecDepth 100000 in
set_option maxHeartbeats 1000000 in
theorem down6_k {F : Nat → Prop} {w0 : World} (G : Nat → TypeId → Prop) (hGF : ∀ k t, F k → k < w0.heap.size → G k t) (l N B0 : Nat) (hN0 : N ≤ 1000000) (J Jx : List (Hit6 F w0) → World → Prop) (hJ : Mild SpotOk B0 J)
    (hY : ∀ m pre x W, J pre W → pre.length < N → YieldAt Fence.wide m Tryz.prog l (Hit6.enc x) W fun e W' =>
      (e = .returned (.bool true) ∧ J (pre ++ [x]) W' ∧ KeepC G W W') ∨ (e = .returned (.bool false) ∧ Jx (pre ++ [x]) W')) :
    ∀ t : Tm, ∀ {b k i a : Value} (_ : IsTm F w0 b k i a t) (n s d : Nat) (si di : Int) (pre : List (Hit6 F w0)) (W : World), si = s → di = d → (∀ k t, W.heap.size ≤ k → t ≠ 3 → G k t) → B0 ≤ W.heap.size → Keep F w0 W → J pre W → pre.length + t.size ≤ N → d + t.depth ≤ 1000000 → s + t.full ≤ 1000000 →
      CallsIn Fence.wide n Tryz.prog 125 #[.agg #[b, k, i, a], .agg #[.int .i64 si, .int .i64 di], .func (.yield l) #[] #[]] W (DownPost6 G J Jx pre (t.pre s d) W) := Tm.ind fun binds k0 i0 args ih => by
  intro b k i a ht nn s d si di pre W hsi hdi hG hB0 hw hJ0 hN hd hs
  subst hsi hdi
  obtain ⟨pa, pc, qa, qc, rfl, rfl, rfl, rfl⟩ := ht.shape
  simp only [Tm.binds, Tm.kind, Tm.index, Tm.args] at ht ⊢
  obtain ⟨_, _, _, hsl⟩ := ht.inv
  simp only [Tm.args] at hsl
  obtain ⟨_, hm, bl, off, PA, A, PN, PC, N', C, Kd, Ix, ha, h1, h2, h3, h4, h5⟩ := sl_cells6 hsl
  have hdd : ∀ k : Nat, (Fence.wide.depth.isSome = true → 1 ≤ k) := fun k h => by cases h
  have hlen : args.length ≤ 1000000 := by have := Tm.len_sizes args; rw [Tm.size_eq] at hN; omega
  have hbl : s + binds.length ≤ 1000000 := by have := Ty.le_sizes binds; rw [Tm.full_eq] at hs; omega
  have hq1 : IntKind.i64.wrap ((s : Int) + (binds.length : Int)) = (s : Int) + (binds.length : Int) := IntWalk.i64_in _ (by omega)
  have hdb : (d : Int) ≤ 1000000 := by omega
  have hq2 : IntKind.i64.wrap ((d : Int) + 1) = (d : Int) + 1 := IntWalk.i64_in _ (by omega)
  obtain ⟨W1, hW1⟩ : ∃ W1, (W.alloc (.cells #[.slice pa binds.length pc, .int .i64 k0, .int .i64 i0, .slice qa args.length qc] 52)).alloc (.cells #[.int .i64 ((s : Int) + (binds.length : Int)), .int .i64 d] 173) = W1 := ⟨_, rfl⟩
  have hJ1 : J pre W1 := by rw [← hW1]; exact hJ.alloc (hJ.alloc hJ0 _) _
  have xt : Blk W1 W.heap.size #[.slice pa binds.length pc, .int .i64 k0, .int .i64 i0, .slice qa args.length qc] 52 := by rw [← hW1]; exact (Blk.new _ _ _ rfl).alloc _
  have xs : Blk W1 (W.heap.size + 1) #[.int .i64 ((s : Int) + (binds.length : Int)), .int .i64 d] 173 := by rw [← hW1]; exact Blk.new _ _ _ (by simp)
  have hz1 : W1.heap.size = W.heap.size + 2 := by rw [← hW1]; simp
  have hk0 : KeepC G W W1 := by rw [← hW1]; exact ((KeepC.refl G W).alloc _).alloc _
  obtain ⟨X, hX⟩ : ∃ X : Hit6 F w0, X = ⟨s + binds.length, d, pa, pc, qa, qc, .mk binds k0 i0 args, ht⟩ := ⟨_, rfl⟩
  have hkey : X.key = (s + binds.length, d, .mk binds k0 i0 args) := by rw [hX]; rfl
  obtain ⟨fn, tmps, assign, body, hy, hR⟩ := hY (nn - 1) pre X W1 hJ1 (by have := Tm.size_pos (.mk binds k0 i0 args); omega)
  have henc : X.enc = #[.agg #[.int .i64 ((s : Int) + (binds.length : Int)), .int .i64 d], .agg #[.slice pa binds.length pc, .int .i64 k0, .int .i64 i0, .slice qa args.length qc]] := by rw [hX]; simp [Hit6.enc, Tm.binds, Tm.kind, Tm.index, Tm.args]
  rw [henc] at hy
  clear hX henc ht hsl
  refine callsIn_of_wp Tryz.func125 rfl trivial ?_ rfl
  simp only [Tryz.ntmps125, List.size_toArray, List.length_cons, List.length_nil, Nat.reduceAdd, Nat.reduceSub, Array.replicate_succ, Array.replicate_zero, List.push_toArray, List.append_toArray, List.nil_append, List.cons_append]
  have c0 : W1.cell? ⟨W.heap.size, 0, none⟩ = some (.slice pa binds.length pc) := xt.cell rfl
  have c1 : W1.cell? ⟨W.heap.size, 1, none⟩ = some (.int .i64 k0) := xt.cell rfl
  have c2 : W1.cell? ⟨W.heap.size, 2, none⟩ = some (.int .i64 i0) := xt.cell rfl
  have c3 : W1.cell? ⟨W.heap.size, 3, none⟩ = some (.slice qa args.length qc) := xt.cell rfl
  have s0 : W1.cell? ⟨W.heap.size + 1, 0, none⟩ = some (.int .i64 ((s : Int) + (binds.length : Int))) := xs.cell rfl
  have s1 : W1.cell? ⟨W.heap.size + 1, 1, none⟩ = some (.int .i64 d) := xs.cell rfl
  gi_wp2_with fail
  clear hW1
  refine ⟨hdd _, hR.mono ?_⟩
  clear c0 c1 c2 c3 s0 s1
  rintro e W2 (⟨rfl, hJ2, hk1⟩ | ⟨rfl, hx1⟩)
  rotate_left
  · gi_wp2_with fail
    go_ret
    exact .inr ⟨rfl, [X], ⟨Tm.pres args (s + binds.length) (d + 1), by simp [hkey, Tm.pre_eq]⟩, hx1⟩
  have yt : Blk W2 W.heap.size _ _ := hk1.blk xt (hG _ _ (Nat.le_refl _) (by decide))
  have ys : Blk W2 (W.heap.size + 1) _ _ := hk1.blk xs (hG _ _ (by omega) (by decide))
  have c0 : W2.cell? ⟨W.heap.size, 0, none⟩ = some (.slice pa binds.length pc) := yt.cell rfl
  have c1 : W2.cell? ⟨W.heap.size, 1, none⟩ = some (.int .i64 k0) := yt.cell rfl
  have c2 : W2.cell? ⟨W.heap.size, 2, none⟩ = some (.int .i64 i0) := yt.cell rfl
  have c3 : W2.cell? ⟨W.heap.size, 3, none⟩ = some (.slice qa args.length qc) := yt.cell rfl
  have s1 : W2.cell? ⟨W.heap.size + 1, 1, none⟩ = some (.int .i64 d) := ys.cell rfl
  have f1 := ys.free 1
  gi_wp2_with fail
  obtain ⟨W3, hW3⟩ : ∃ W3, W2.setCell ⟨W.heap.size + 1, 1, none⟩ (.int .i64 ((d : Int) + 1)) = W3 := ⟨_, rfl⟩
  have hJ3 : J (pre ++ [X]) W3 := by rw [← hW3]; exact hJ.setSpot hJ2 _ ys (by omega)
  have hk3 : KeepC G W W3 := by rw [← hW3]; exact (hk0.trans hk1).setNew _ _ (by simp)
  have xt3 : Blk W3 W.heap.size #[.slice pa binds.length pc, .int .i64 k0, .int .i64 i0, .slice qa args.length qc] 52 := by rw [← hW3]; exact yt.far _ _ (by simp)
  have xs3 : Blk W3 (W.heap.size + 1) #[.int .i64 ((s : Int) + (binds.length : Int)), .int .i64 ((d : Int) + 1)] 173 := by rw [← hW3]; exact ys.set 1 _
  try rw [hW3]
  clear hW3 c0 c1 c2 c3 s1 f1 hJ2 hk1 yt ys hk0 xt xs hJ1 hR hy hY hz1
  have Hih := Lib.hid ih; clear ih
  have HG := Lib.hid hG; clear hG
  have HN := Lib.hid hN; clear hN
  have Hd := Lib.hid hd; clear hd
  have Hs := Lib.hid hs; clear hs
  gi_loopw [8, 28] (fun _ i wr => ∃ (k : Nat) (xs : List (Hit6 F w0)), i = .int .i64 k ∧ k ≤ args.length ∧ Hid (xs.map Hit6.key = Tm.pres (args.take k) (s + binds.length) (d + 1)) ∧ J (pre ++ [X] ++ xs) wr ∧ KeepC G W wr ∧
      Blk wr W.heap.size #[.slice pa binds.length pc, .int .i64 k0, .int .i64 i0, .slice qa args.length qc] 52 ∧ Blk wr (W.heap.size + 1) #[.int .i64 ((s : Int) + (binds.length : Int)), .int .i64 ((d : Int) + 1)] 173) (fun _ i _ => args.length - (intOf i).toNat)
  case atStart => exact ⟨0, [], rfl, by omega, by simp [Hid, Tm.pres], by simpa using hJ3, hk3, xt3, xs3⟩
  case round =>
    clear hJ3 hk3 xt3 xs3
    obtain ⟨k, xs, rfl, hk, hxs, hJr, hkr, hbt, hbs⟩ := hrel
    have Hkr := Lib.hid hkr
    have HJr := Lib.hid hJr; clear hJr
    have hsz := hkr.size
    have hsb := hbs.lt
    have s0 : wr.cell? ⟨W.heap.size + 1, 0, none⟩ = some (.int .i64 ((s : Int) + (binds.length : Int))) := hbs.cell rfl
    have s1 : wr.cell? ⟨W.heap.size + 1, 1, none⟩ = some (.int .i64 ((d : Int) + 1)) := hbs.cell rfl
    by_cases hlt : k < args.length
    · obtain ⟨rfl, hF⟩ := ha (by omega)
      have hKp : Keep F w0 wr := hkr.keep' hw hGF
      have e1 := hKp _ _ _ hF (h1 k hlt)
      have e2 := hKp _ _ _ hF (h2 k hlt)
      have e3 := hKp _ _ _ hF (h3 k hlt)
      have e4 := hKp _ _ _ hF (h4 k hlt)
      have hs1 := Lib.hid (Tm.sizes_take args k hlt)
      have hs2 := Lib.hid (Tm.sizes_take_le args (k + 1))
      have hl : Hid (xs.length = Tm.sizes (args.take k)) := by
        show _ = _
        have := congrArg List.length hxs.out
        rw [List.length_map] at this
        rw [this, Tm.pres_length]
      have hz : pre.length + 1 + xs.length + args[k].size ≤ N := by have := HN.out; have := hl.out; have := hs1.out; have := hs2.out; rw [Tm.size_eq] at *; omega
      gi_wp2_with fail
      refine ⟨trivial, hdd _, (Hih.out args[k] (List.getElem_mem hlt) (h5 k hlt) (nn - 1) (s + binds.length) (d + 1) ((s : Int) + (binds.length : Int)) ((d : Int) + 1) (pre ++ [X] ++ xs) _ (by omega) (by omega) (fun q t hq ht => HG.out q t (by simp at hq; omega) ht) (by simp; omega) (hKp.alloc _) (hJ.alloc HJr.out _) (by simp; omega) ?_ ?_).mono ?_⟩
      · have := Hd.out; have := Tm.depth_mem (List.getElem_mem hlt); rw [Tm.depth_eq] at *; omega
      · have := Hs.out; have := Tm.full_mem (List.getElem_mem hlt); have := Ty.le_sizes binds; rw [Tm.full_eq] at *; omega
      rintro e W2 (⟨rfl, hk2, ys, hys, hJ2⟩ | ⟨rfl, ys, hys, hx2⟩)
      · have HJ2 := Lib.hid hJ2; clear hJ2
        have Hys := Lib.hid hys; clear hys
        have hbt2 := hk2.blk (hbt.alloc _) (HG.out _ _ (Nat.le_refl _) (by decide))
        have hbs2 := hk2.blk (hbs.alloc _) (HG.out _ _ (by omega) (by decide))
        gi_wp2_with fail
        go_roundw
        case rel => exact ⟨k + 1, xs ++ ys, by go_num, by omega, by show _ = _; rw [List.map_append, hxs.out, Hys.out, Tm.pres_take _ _ _ _ hlt], by rw [← List.append_assoc]; exact HJ2.out, (Hkr.out.alloc _).trans hk2, hbt2, hbs2⟩
        case measure => simp [intOf]; omega
      · have Hys := Lib.hid hys; clear hys
        have Hx2 := Lib.hid hx2; clear hx2
        gi_wp2_with fail
        go_ret
        refine .inr ⟨rfl, X :: (xs ++ ys), ?_, by simpa using Hx2.out⟩
        obtain ⟨r, hr⟩ := Hys.out
        have hp := Tm.pres_take args k (s + binds.length) (d + 1) hlt
        rw [← hr] at hp
        obtain ⟨q, hq⟩ := Tm.pres_take_le args (k + 1) (s + binds.length) (d + 1)
        refine ⟨r ++ q, ?_⟩
        simp only [Tm.pre_eq, List.map_cons, List.map_append, hkey, List.cons_append]
        rw [← hq, hp, ← hxs.out]
        simp
    · gi_wp2_with fail
      go_ret
      refine .inl ⟨rfl, Hkr.out, X :: xs, ?_, by simpa using HJr.out⟩
      have h := hxs.out
      rw [List.take_of_length_le (by omega)] at h
      simp [Tm.pre_eq, hkey, ← h]

theorem each61_k {F : Nat → Prop} {w0 : World} (G : Nat → TypeId → Prop) (hGF : ∀ k t, F k → k < w0.heap.size → G k t) (l : Nat) (J Jx : List (Hit6 F w0) → World → Prop)
    {b k i a : Value} {t : Tm} (ht : IsTm F w0 b k i a t) (hsz : t.full ≤ 500000) (n : Nat) (W : World) (hJ : Mild SpotOk W.heap.size J)
    (hY : ∀ pre x V, J pre V → pre.length < t.size → YieldAt Fence.wide (n - 1) Tryz.prog l (Hit6.enc x) V fun e W' =>
      (e = .returned (.bool true) ∧ J (pre ++ [x]) W' ∧ KeepC G V W') ∨ (e = .returned (.bool false) ∧ Jx (pre ++ [x]) W'))
    (hG : ∀ k t, W.heap.size ≤ k → t ≠ 3 → G k t) (hw : Keep F w0 W) (Bt : Nat) (c0 : W.cell? ⟨Bt, 0, none⟩ = some b) (c1 : W.cell? ⟨Bt, 1, none⟩ = some k) (c2 : W.cell? ⟨Bt, 2, none⟩ = some i) (c3 : W.cell? ⟨Bt, 3, none⟩ = some a) (h0 : J [] W) :
    CallsIn Fence.wide n Tryz.prog 124 #[.func (.yield l) #[] #[], .pointer (some ⟨Bt, 0, none⟩)] W fun e W' => (∃ v, e = .returned v) ∧
      ((∃ ys, List.map Hit6.key ys = t.pre 0 1 ∧ J ys W') ∨ (∃ pre, List.map Hit6.key pre <+: t.pre 0 1 ∧ Jx pre W')) := by
  have hdd : ∀ k : Nat, (Fence.wide.depth.isSome = true → 1 ≤ k) := fun k h => by cases h
  have hf := Tm.size_le_full t
  have hp := Lib.hid (down6_k G hGF l t.size W.heap.size (by omega) J Jx hJ (fun m pre x V hj hl => yield_any rfl m (hY pre x V hj hl)) t ht (n - 1) 0 1 0 1 [] W rfl rfl hG (Nat.le_refl _) hw h0 (by simp) (by have := Tm.depth_le_size t; omega) (by omega))
  clear hG hY
  obtain ⟨pa, pc, qa, qc, rfl, rfl, rfl, rfl⟩ := ht.shape
  refine callsIn_of_wp Tryz.func124 rfl trivial ?_ rfl
  simp only [Tryz.ntmps124, List.size_toArray, List.length_cons, List.length_nil, Nat.reduceAdd, Nat.reduceSub, Array.replicate_succ, Array.replicate_zero, List.push_toArray, List.append_toArray, List.nil_append, List.cons_append]
  gi_wp2_with fail
  refine ⟨trivial, hdd _, hp.out.mono ?_⟩
  rintro e W1 (⟨rfl, hk, ys, hys, hJ1⟩ | ⟨rfl, ys, hys, hx⟩)
  · have A1 := Lib.hid hys; clear hys
    gi_wp2_with fail
    go_end0
    exact ⟨⟨_, rfl⟩, .inl ⟨ys, A1.out, by simpa using hJ1⟩⟩
  · have A1 := Lib.hid hys; clear hys
    gi_wp2_with fail
    go_end0
    exact ⟨⟨_, rfl⟩, .inr ⟨ys, A1.out, by simpa using hx⟩⟩

theorem each6_soft {F : Nat → Prop} {w0 : World} (G : Nat → TypeId → Prop) (hGF : ∀ k t, F k → k < w0.heap.size → G k t) {b k i a : Value} {t : Tm} (ht : IsTm F w0 b k i a t) (hsz : t.full ≤ 500000) (n : Nat)
    (w : World) (hG : ∀ k t, w.heap.size ≤ k → t ≠ 3 → G k t) (hw : Keep F w0 w) (Bt : Nat) (hB : Blk w Bt #[b, k, i, a] 52) :
    SeqSoft SpotOk Fence.wide n Tryz.prog 124 #[.pointer (some ⟨Bt, 0, none⟩)] (Hit6.enc (F := F) (w := w0)) (KeepC G) (fun ys => ys.map Hit6.key = t.pre 0 1) (fun p => p.map Hit6.key <+: t.pre 0 1) t.size w :=
  fun l J Jx W hW hJ _ hY h0 => by
    have hB' := hB.below hW
    exact each61_k G hGF l J Jx ht hsz n W hJ hY (fun k t hk ht => hG k t (Nat.le_trans hW.size hk) ht) (hw.below hW) Bt (hB'.cell rfl) (hB'.cell rfl) (hB'.cell rfl) (hB'.cell rfl) h0

theorem each6_k (b k i a : Value) (n : Nat) (w : World) (hs : ∃ p m c, b = .slice p m c) (hk : ∃ x, k = .int .i64 x) (hi : ∃ x, i = .int .i64 x) (ha : ∃ p m c, a = .slice p m c) :
    CallsIn Fence.wide n Tryz.prog 94 #[.agg #[b, k, i, a]] w fun e w' => e = .returned (.func (.func 124) #[] #[.pointer (some ⟨w.heap.size, 0, none⟩)]) ∧ w' = w.alloc (.cells #[b, k, i, a] 52) := by
  obtain ⟨pb, mb, cb, rfl⟩ := hs
  obtain ⟨kx, rfl⟩ := hk
  obtain ⟨ix, rfl⟩ := hi
  obtain ⟨pa, ma, ca, rfl⟩ := ha
  refine callsIn_of_wp Tryz.func94 rfl trivial ?_ rfl
  simp only [Tryz.ntmps94, List.size_toArray, List.length_cons, List.length_nil, Nat.reduceAdd, Nat.reduceSub, Array.replicate_succ, Array.replicate_zero, List.push_toArray, List.append_toArray, List.nil_append, List.cons_append]
  gi_wp2_with fail
  go_ret
  exact ⟨rfl, rfl⟩
end Go.Proofs.YtiblklcfjakjmaaGreat

namespace Go.Proofs.YtiblklcfjakjmaaGreat
open Go.RowKit Go.Shelf
attribute [local go_sem] Oper.semAt_some

theorem spot_int {W : World} {n : Nat} {cs : Array Value} {T : TypeId} (hT : T ≠ 173) {W' : World} {B : Nat} {row : Option Nat} (h : Blk W n cs T) (hg : W.grownBy W' row) (hr : ∀ r, row = some r → B ≤ r ∧ ∃ o : Obj, W.heap[r]? = some o ∧ SpotOk o) : Blk W' n cs T :=
  h.grown hg fun e => by
    obtain ⟨_, o, ho, h'⟩ := hr _ e
    have hb : W.heap[n]? = _ := h
    rw [hb] at ho; cases ho
    rcases h' with h' | ⟨cs', fr, h'⟩
    · simp [Obj.isCells] at h'
    · cases h'; exact hT rfl
theorem mild_blk {β : Type} {n B : Nat} {T : TypeId} (hT : T ≠ 173) (f : β → Array Value) : Mild SpotOk B (fun s W => Blk W n (f s) T) := fun _ _ _ _ hs hg hr => spot_int hT hs hg hr

end Go.Proofs.YtiblklcfjakjmaaGreat

namespace Go.Proofs.YtiblklcfjakjmaaGreat
open Go.RowKit Go.Shelf
attribute [local go_sem] Oper.semAt_some

namespace Tm
theorem pres_depth_of {l : List Tm} (h : ∀ t ∈ l, ∀ s d m, (∀ p ∈ pre t s d, p.2.1 ≤ m) ↔ d + t.depth ≤ m + 1) : ∀ s d m, d ≤ m + 1 → ((∀ p ∈ pres l s d, p.2.1 ≤ m) ↔ d + depths l ≤ m + 1) := by
  intro s d m hd
  induction l with
  | nil => simp [pres, depths, hd]
  | cons t l ih =>
    have h1 := h t (by simp) s d m
    have h2 := ih (fun u hu => h u (by simp [hu]))
    simp only [pres, depths, List.mem_append]
    constructor
    · intro h3
      have a := h1.1 fun p hp => h3 p (.inl hp)
      have b := h2.1 fun p hp => h3 p (.inr hp)
      omega
    · intro h3 p hp
      rcases hp with hp | hp
      · exact h1.2 (by omega) p hp
      · exact h2.2 (by omega) p hp
theorem pre_depth (t : Tm) : ∀ s d m, (∀ p ∈ pre t s d, p.2.1 ≤ m) ↔ d + t.depth ≤ m + 1 := by
  induction t using Tm.ind with
  | h b k i a ih =>
    intro s d m
    have h := pres_depth_of ih (s + b.length) (d + 1) m
    rw [pre_eq, depth_eq]
    simp only [List.mem_cons, forall_eq_or_imp]
    constructor
    · rintro ⟨h1, h2⟩
      have := (h (by omega)).1 h2
      omega
    · intro h1
      exact ⟨by omega, (h (by omega)).2 (by omega)⟩
end Tm

set_option maxRecDepth 100000 in
set_option maxHeartbeats 2000000 in
theorem right6_k {F : Nat → Prop} {w : World} {b k i a : Value} {t : Tm} (ht : IsTm F w b k i a t) (hsz : t.full ≤ 500000) : Calls Tryz.prog 82 #[.agg #[b, k, i, a]] w (RetB (t.size ≤ 5000 ∧ t.depth ≤ 60) w) := by
  refine (callsIn_wide (n := 9)).1 ?_
  have Ht := Lib.hid (ht.weaken (F' := fun _ => True) fun _ _ _ => trivial)
  obtain ⟨pa, pc, qa, qc, rfl, rfl, rfl, rfl⟩ := ht.shape
  clear ht
  obtain ⟨x1, hx1⟩ : ∃ x, t.binds.length = x := ⟨_, rfl⟩
  obtain ⟨x2, hx2⟩ : ∃ x, t.args.length = x := ⟨_, rfl⟩
  obtain ⟨x3, hx3⟩ : ∃ x, t.kind = x := ⟨_, rfl⟩
  obtain ⟨x4, hx4⟩ : ∃ x, t.index = x := ⟨_, rfl⟩
  rw [hx1, hx2, hx3, hx4] at Ht ⊢
  clear hx1 hx2 hx3 hx4
  refine callsIn_of_wp_marks Tryz.func82 rfl trivial ?_ rfl
  simp only [Tryz.ntmps82, List.size_toArray, List.length_cons, List.length_nil, Nat.reduceAdd, Nat.reduceSub, Array.replicate_succ, Array.replicate_zero, List.push_toArray, List.append_toArray, List.nil_append, List.cons_append]
  gi_wp2_with fail
  refine ⟨trivial, (each6_k _ _ _ _ _ _ ⟨_, _, _, rfl⟩ ⟨_, rfl⟩ ⟨_, rfl⟩ ⟨_, _, _, rfl⟩).mono ?_⟩
  rintro e w' ⟨rfl, rfl⟩
  gi_wp2_with fail
  have hsz' := Lib.hid hsz
  have hfl := Tm.size_le_full t
  obtain ⟨w5, hw5⟩ : ∃ w5, (((w.alloc (.cells #[.slice pa x1 pc, .int .i64 x3, .int .i64 x4, .slice qa x2 qc] 52)).alloc (.cells #[.bool false] 4)).alloc (.cells #[.int .i64 0] 3)).alloc (.cells #[.slice pa x1 pc, .int .i64 x3, .int .i64 x4, .slice qa x2 qc] 52) = w5 := ⟨_, rfl⟩
  have hB0 : Below w.heap.size w w5 := by rw [← hw5]; exact ((((Below.refl _ w).alloc (Nat.le_refl _) _).alloc (by simp) _).alloc (by simp; omega) _).alloc (by simp; omega) _
  have hz : w5.heap.size = w.heap.size + 4 := by rw [← hw5]; simp
  have y1 : Blk w5 (w.heap.size + 1) #[.bool false] 4 := by rw [← hw5]; exact ((Blk.new _ _ _ (by simp)).alloc _).alloc _
  have y2 : Blk w5 (w.heap.size + 2) #[.int .i64 0] 3 := by rw [← hw5]; exact (Blk.new _ _ _ (by simp)).alloc _
  have y3 : Blk w5 (w.heap.size + 1 + 1 + 1) #[.slice pa x1 pc, .int .i64 x3, .int .i64 x4, .slice qa x2 qc] 52 := by rw [← hw5]; exact Blk.new _ _ _ (by simp)
  rw [hw5]
  clear hw5
  refine range_softA (Ok := SpotOk) (fun o h => .inl h) rfl (by omega) (gf := 124) (lb := #[.pointer (some ⟨w.heap.size + 1 + 1 + 1, 0, none⟩)]) rfl trivial (enters_of Tryz.func124 (by kernel_rfl) rfl)
    (each6_soft (But w.heap.size (w.heap.size + 3)) (fun k _ _ hk => .inl hk) Ht.out hsz (9 - 1) w5 (fun k _ hk _ => .inr (by omega)) ((Keep.refl _ _).below hB0) (w.heap.size + 1 + 1 + 1) y3)
    (fun h h' => h.trans h') (fun W l o o' _ hl ho _ => KeepC.putObj _ W l o o' hl ho) (Below.refl _ _) (fun _ => rfl)
    (fun pre W => (Blk W (w.heap.size + 1) #[.bool false] 4 ∧ Blk W (w.heap.size + 2) #[.int .i64 (pre.length : Int)] 3) ∧ (Hid (pre.length ≤ 5000 ∧ ∀ x ∈ pre, x.d ≤ 60) ∧ Below w.heap.size w W))
    (fun c pre W => (Blk W (w.heap.size + 1) #[.bool false] 4 ∧ Below w.heap.size w W) ∧ (c = .ret ∧ Hid (5000 < pre.length ∨ ∃ x ∈ pre, ¬ x.d ≤ 60)))
    (Mild.and (Mild.and (mild_blk (by decide) (fun (_ : List (Hit6 (fun _ => True) w)) => #[.bool false])) (mild_blk (by decide) (fun (pre : List (Hit6 (fun _ => True) w)) => #[.int .i64 (pre.length : Int)]))) (Mild.and (fun _ _ _ _ h _ _ => h) (mild_below (Nat.le_refl _) (by omega))))
    (fun c => Mild.and (Mild.and (mild_blk (by decide) (fun (_ : List (Hit6 (fun _ => True) w)) => #[.bool false])) (mild_below (Nat.le_refl _) (by omega))) (fun _ _ _ _ h _ _ => h))
    ⟨⟨y1, y2⟩, ⟨by simp, by simp⟩, hB0⟩
    (fun x a' W => ∃ Bx, w.heap.size + 2 < Bx ∧ Blk W Bx #[.int .i64 x.s, .int .i64 x.d] 173 ∧ a' = { tmps := #[.agg #[.slice pa x1 pc, .int .i64 x3, .int .i64 x4, .slice qa x2 qc], .pointer (some ⟨w.heap.size, 0, none⟩), .pointer (some ⟨w.heap.size + 1, 0, none⟩), .pointer (some ⟨w.heap.size + 1 + 1, 0, none⟩), .pointer (some ⟨Bx, 0, none⟩), .agg #[.slice pa x1 pc, .int .i64 x3, .int .i64 x4, .slice qa x2 qc], .func (.func 124) #[] #[.pointer (some ⟨w.heap.size + 1 + 1 + 1, 0, none⟩)], .agg #[.int .i64 x.s, .int .i64 x.d], .agg #[.slice x.pb x.t.binds.length x.cb, .int .i64 x.t.kind, .int .i64 x.t.index, .slice x.pa x.t.args.length x.ca], undef, undef, undef, undef, undef, undef, undef, undef, undef], defers := [] })
    (fun x a' W l o o' hl ho hoc => by
      rintro ⟨Bx, h1, h2, h3⟩
      refine ⟨Bx, h1, ?_, h3⟩
      have hne : l ≠ Bx := fun e => by
        subst e
        have hb : W.heap[l]? = _ := h2
        rw [hb] at ho; cases ho; simp [Obj.isCells] at hoc
      exact (World.putObj_heap_other (Ne.symm hne)).trans h2) ?assign ?body ?done ?stop
  case assign =>
    rintro l pre x W K ⟨⟨z1, z2⟩, hp, hB⟩ hK
    have HK := Lib.hid hK; clear hK
    have Hp := Lib.hid hp; clear hp
    simp only [Hit6.enc] at *
    gi_wp2
    have hs := hB.size
    exact HK.out _ _ ((KeepsOthers.alloc _ _).from _) ((KeepC.refl _ W).alloc _) ⟨⟨z1.alloc _, z2.alloc _⟩, Hp.out, hB.alloc hs _⟩ ⟨W.heap.size, z2.lt, Blk.new _ _ _ rfl, rfl⟩
  case body =>
    rintro l pre x a' W ⟨⟨z1, z2⟩, hp, hB⟩ hlt ⟨Bx, hBx, bX, rfl⟩
    have c1 : W.cell? ⟨w.heap.size + 1, 0, none⟩ = some (.bool false) := z1.cell rfl
    have f1 := z1.free 0
    have c2 : W.cell? ⟨w.heap.size + 1 + 1, 0, none⟩ = some (.int .i64 (pre.length : Int)) := z2.cell rfl
    have f2 := z2.free 0
    have cx : W.cell? ⟨Bx, 1, none⟩ = some (.int .i64 x.d) := bX.cell rfl
    have hlt2 : (pre.length : Int) ≤ 1000000 := by omega
    have hBn : ¬ (Bx = w.heap.size + 1 + 1) := by omega
    have Hp := Lib.hid hp.out; clear hp
    have hbd : Hid (Below w.heap.size w ((W.setCell ⟨w.heap.size + 1 + 1, 0, none⟩ (.int .i64 ((pre.length : Int) + 1))).setCell ⟨w.heap.size + 1, 0, none⟩ (.bool false))) := (hB.setCell (by simp; omega) _).setCell (by simp) _
    by_cases h2 : (5000 : Int) < (pre.length : Int) + 1
    · gi_wp2
      first
      | exact ⟨((KeepsOthers.setCell W _ _).trans (KeepsOthers.setCell _ _ _)).from _, ⟨(z1.far ⟨w.heap.size + 1 + 1, 0, none⟩ _ (by simp)).set 0 _, hbd.out⟩, rfl, .inl (by simp; omega)⟩
      | exact ⟨(KeepsOthers.setCell W _ _).from _, ⟨z1.far ⟨w.heap.size + 1 + 1, 0, none⟩ _ (by simp), hB.setCell (by simp; omega) _⟩, rfl, .inl (by simp; omega)⟩
    by_cases h1 : 60 < x.d
    · have h1' : (60 : Int) < (x.d : Int) := by omega
      gi_wp2
      first
      | exact ⟨((KeepsOthers.setCell W _ _).trans (KeepsOthers.setCell _ _ _)).from _, ⟨(z1.far ⟨w.heap.size + 1 + 1, 0, none⟩ _ (by simp)).set 0 _, hbd.out⟩, rfl, .inr ⟨x, by simp, by omega⟩⟩
      | exact ⟨(KeepsOthers.setCell W _ _).from _, ⟨z1.far ⟨w.heap.size + 1 + 1, 0, none⟩ _ (by simp), hB.setCell (by simp; omega) _⟩, rfl, .inr ⟨x, by simp, by omega⟩⟩
    have h1' : ¬ (60 : Int) < (x.d : Int) := by omega
    gi_wp2
    refine ⟨(KeepsOthers.setCell W _ _).from _, (KeepC.refl _ W).setCell _ _ (by simp [But]; omega), ⟨z1.far _ _ (by simp), ?_⟩, ⟨by have := Hp.out.1; simp; omega, fun y hy => ?_⟩, hB.setCell (by simp; omega) _⟩
    · have := z2.set 0 (.int .i64 ((pre.length : Int) + 1))
      simpa using this
    · rcases List.mem_append.1 hy with hy | hy
      · exact Hp.out.2 y hy
      · simp at hy; subst hy; omega
  case done =>
    rintro D ys W hD hys ⟨⟨z1, z2⟩, hp, hB⟩ hK
    have c1 : W.cell? ⟨w.heap.size + 1, 0, none⟩ = some (.bool false) := z1.cell rfl
    have f1 := z1.free 0
    have Hys := Lib.hid hys; clear hys
    have Hp := Lib.hid hp.out; clear hp
    gi_wp2
    have hK' := (KeepsOthers.setCell W ⟨w.heap.size + 1, 0, none⟩ (.bool true)).same D _ hK rfl
    refine ⟨by simp, .inl ⟨_, _, rfl, run_takeDeferred hK', ?_⟩⟩
    have hc5 := cell_kept ((z1.set 0 (.bool true)).cell (i := 0) (v := .bool true) rfl) (grownBy_putObj' _ D (.deferred none)) (fun r e => by cases e; exact ⟨_, hK', rfl⟩)
    refine ⟨.bool true, ?_, ⟨true, ?_, rfl, ?_⟩⟩
    · simp [results, Tryz.results82, go_sem, hc5]
    · have hl : ys.length = t.size := by rw [← Tm.pre_length t 0 1, ← Hys.out, List.length_map]
      have hd := (Tm.pre_depth t 0 1 60).1 (fun p hp' => by
        rw [← Hys.out] at hp'
        obtain ⟨y, hy, he⟩ := List.mem_map.1 hp'
        rw [← he]; exact Hp.out.2 y hy)
      have := Hp.out.1
      simp; omega
    · exact (hB.setCell (p := ⟨w.heap.size + 1, 0, none⟩) (by simp) _).trans (belowK_b (w := w) (Nat.le_refl _) _ D _ _ (by omega) hK' rfl rfl)
  case stop =>
    rintro D c pre W hD hpre ⟨⟨z1, hB⟩, rfl, hbad⟩ hK
    gi_wp2
    refine ⟨by simp, .inl ⟨_, _, rfl, run_takeDeferred hK, ?_⟩⟩
    have hc5 := cell_kept (z1.cell (i := 0) (v := .bool false) rfl) (grownBy_putObj' _ D (.deferred none)) (fun r e => by cases e; exact ⟨_, hK, rfl⟩)
    refine ⟨.bool false, ?_, ⟨false, ?_, rfl, ?_⟩⟩
    · simp [results, Tryz.results82, go_sem, hc5]
    · simp only [Bool.false_eq_true, false_iff, not_and]
      intro h1 h2
      rcases hbad.out with h | ⟨y, hy, h⟩
      · have := hpre.length_le
        rw [List.length_map, Tm.pre_length] at this; omega
      · exact h ((Tm.pre_depth t 0 1 60).2 (by omega) y.key (hpre.subset (List.mem_map.2 ⟨y, hy, rfl⟩)))
    · exact hB.trans (belowK_b (w := w) (Nat.le_refl _) W D _ _ (by omega) hK rfl rfl)
end Go.Proofs.YtiblklcfjakjmaaGreat

namespace Go.Proofs.YtiblklcfjakjmaaGreat
open Go.RowKit

def EqT (t : Tm) : Prop := ∀ (F : Nat → Prop) (w0 : World) (b k i a : Value), IsTm F w0 b k i a t → ∀ (F' : Nat → Prop) (w0' : World) (b' k' i' a' : Value) (u : Tm), IsTm F' w0' b' k' i' a' u → ∀ w : World, Keep F w0 w → Keep F' w0' w →
    Calls Tryz.prog 43 #[.agg #[b, k, i, a], .agg #[b', k', i', a']] w (RetB (t = u) w)

set_option maxRecDepth 100000 in
set_option maxHeartbeats 1600000 in
theorem equalFunc6_k {F F' : Nat → Prop} {w0 w0' : World} {v v' : Value} {l l' : List Tm} (h : IsSl rpTm F w0 v l) (h' : IsSl rpTm F' w0' v' l') (heq : ∀ t ∈ l, EqT t) (w : World) (hw : Keep F w0 w) (hw' : Keep F' w0' w) :
    Calls Tryz.prog 89 #[v, v', .func (.func 43) #[] #[]] w (RetB (l = l') w) := by
  obtain ⟨a, c, rfl⟩ := sl_shape' h
  obtain ⟨a', c', rfl⟩ := sl_shape' h'
  obtain ⟨_, hm, bl, off, PA, A, PN, PC, N, C, Kd, Ix, ha, h1, h2, h3, h4, h5⟩ := sl_cells6 h
  obtain ⟨_, hm', bl', off', PA', A', PN', PC', N', C', Kd', Ix', ha', h1', h2', h3', h4', h5'⟩ := sl_cells6 h'
  clear h h'
  unfold maxLen at hm hm'
  have H3 : Hid (∀ i (h : i < l.length) (h' : i < l'.length) (w : World), Keep F w0 w → Keep F' w0' w → Calls Tryz.prog 43 #[.agg #[.slice (PA i) (PN i) (PC i), .int .i64 (Kd i), .int .i64 (Ix i), .slice (A i) (N i) (C i)], .agg #[.slice (PA' i) (PN' i) (PC' i), .int .i64 (Kd' i), .int .i64 (Ix' i), .slice (A' i) (N' i) (C' i)]] w (RetB (l[i] = l'[i]) w)) :=
    fun i h h' w hw hw' => heq _ (List.getElem_mem h) _ _ _ _ _ _ (h5 i h) _ _ _ _ _ _ _ (h5' i h') w hw hw'
  clear h5 h5' heq
  by_cases hll : l.length = l'.length
  rotate_left
  · have hg : ((l.length : Int) == (l'.length : Int)) = false := by simpa using by omega
    have hg' : ((l.length : Int) != (l'.length : Int)) = true := by simpa using by omega
    go_enter Tryz.func89, Tryz.ntmps89
    go_wp2_with fail
    go_ret
    refine ⟨false, ?_, rfl, Below.refl _ _⟩
    simp; intro h; rw [h] at hll; exact hll rfl
  have Hll := Lib.hid hll
  have hg : ((l.length : Int) == (l'.length : Int)) = true := by simpa using by omega
  have hg' : ((l.length : Int) != (l'.length : Int)) = false := by simpa using by omega
  clear hll
  go_enter Tryz.func89, Tryz.ntmps89
  go_wp2_with fail
  go_loopw [17] (fun i wr => ∃ k : Nat, i = .int .i64 k ∧ k ≤ l.length ∧ Hid (l.take k = l'.take k) ∧ Below w.heap.size w wr) (fun i _ => l.length - (intOf i).toNat)
  case atStart => exact ⟨0, rfl, by omega, rfl, Below.refl _ _⟩
  case round =>
    obtain ⟨k, rfl, hk, hall, hb⟩ := hrel
    have hsz := hb.size
    by_cases hlt : k < l.length
    · have hlt' : k < l'.length := by rw [← Hll.out]; exact hlt
      obtain ⟨rfl, hF⟩ := ha (by omega)
      obtain ⟨rfl, hF'⟩ := ha' (by omega)
      have e1 := (hw.below hb) _ _ _ hF (h1 k hlt)
      have e2 := (hw.below hb) _ _ _ hF (h2 k hlt)
      have e3 := (hw.below hb) _ _ _ hF (h3 k hlt)
      have e4 := (hw.below hb) _ _ _ hF (h4 k hlt)
      have e1' := (hw'.below hb) _ _ _ hF' (h1' k hlt')
      have e2' := (hw'.below hb) _ _ _ hF' (h2' k hlt')
      have e3' := (hw'.below hb) _ _ _ hF' (h3' k hlt')
      have e4' := (hw'.below hb) _ _ _ hF' (h4' k hlt')
      have i0 : (0 : Int) ≤ (k : Int) := Int.natCast_nonneg _
      have i1 : (k : Int) < (l.length : Int) := by omega
      have i2 : (k : Int) < (l'.length : Int) := by omega
      have q1 : bl < wr.heap.size := Keep.lt e1
      have q1' : bl' < wr.heap.size := Keep.lt e1'
      go_wp2_with fail
      have hB2 := (hb.alloc hb.size (.cells #[.slice (PA k) (PN k) (PC k), .int .i64 (Kd k), .int .i64 (Ix k), .slice (A k) (N k) (C k)] 52)).alloc (by simp; omega) (.cells #[.slice (PA' k) (PN' k) (PC' k), .int .i64 (Kd' k), .int .i64 (Ix' k), .slice (A' k) (N' k) (C' k)] 52)
      refine (H3.out k hlt hlt' _ (hw.below hB2) (hw'.below hB2)).mono ?_
      rintro e w1 ⟨r, hr, rfl, hb1⟩
      have hB := hB2.trans (hb1.mono (by simp; omega))
      cases r
      · have Hr := Lib.hid (no_of hr); clear hr
        go_wp2_with fail
        go_ret
        refine ⟨false, ?_, rfl, hB⟩
        simp
        intro h
        subst h
        exact Hr.out rfl
      · have Hr := Lib.hid (yes_of hr); clear hr
        go_wp2_with fail
        go_roundw
        case rel => exact ⟨k + 1, by go_num, by omega, take_eq_succ hlt hlt' hall.out Hr.out, hB⟩
        case measure => simp [intOf]; omega
    · go_wp2_with fail
      go_ret
      refine ⟨true, ?_, rfl, hb⟩
      have h := hall.out
      rw [List.take_of_length_le (by omega), List.take_of_length_le (by rw [← Hll.out]; omega)] at h
      simp [h]

set_option maxRecDepth 100000 in
set_option maxHeartbeats 1600000 in
theorem equal6_k : ∀ t : Tm, EqT t := Tm.ind fun binds k i1 args ih => by
  intro F w0 b k0 i0 a ht F' w0' b' k0' i0' a' u hu w hw hw'
  obtain ⟨binds', k', i', args'⟩ := u
  obtain ⟨rfl, rfl, hb, hs⟩ := ht.inv
  obtain ⟨rfl, rfl, hb', hs'⟩ := hu.inv
  have Hty := Lib.hid fun (w : World) (hw : Keep F w0 w) (hw' : Keep F' w0' w) => equalFunc_k hb hb' (fun t _ => equal_k t) w hw hw'
  have Hts := Lib.hid fun (w : World) (hw : Keep F w0 w) (hw' : Keep F' w0' w) => equalFunc6_k hs hs' ih w hw hw'
  obtain ⟨pa, pc, rfl⟩ := hb.shape
  obtain ⟨pa', pc', rfl⟩ := hb'.shape
  obtain ⟨a, c, rfl⟩ := hs.shape
  obtain ⟨a', c', rfl⟩ := hs'.shape
  clear hb hb' hs hs' ht hu ih
  simp only [Tm.binds, Tm.kind, Tm.index, Tm.args] at *
  obtain ⟨pr, hpr⟩ : ∃ pr : Prop, (Tm.mk binds k i1 args = Tm.mk binds' k' i' args') = pr := ⟨_, rfl⟩
  have Ht : Hid (pr ↔ binds = binds' ∧ k = k' ∧ i1 = i' ∧ args = args') := by rw [← hpr]; exact tm_eq
  rw [hpr]
  clear hpr
  obtain ⟨l, hl⟩ : ∃ l, args.length = l := ⟨_, rfl⟩
  obtain ⟨l', hl'⟩ : ∃ l, args'.length = l := ⟨_, rfl⟩
  obtain ⟨m, hm⟩ : ∃ l, binds.length = l := ⟨_, rfl⟩
  obtain ⟨m', hm'⟩ : ∃ l, binds'.length = l := ⟨_, rfl⟩
  rw [hm, hm'] at Hty
  rw [hl, hl'] at Hts
  rw [hl, hl', hm, hm']
  clear hl hl' hm hm'
  by_cases hk : k = k'
  rotate_left
  · have hg : (k == k') = false := by simpa using hk
    go_enter Tryz.func43, Tryz.ntmps43
    go_wp2_with fail
    go_ret
    exact ⟨false, by rw [Ht.out]; simp [hk], rfl, ((Below.refl _ _).alloc (Nat.le_refl _) _).alloc (by simp) _⟩
  subst hk
  by_cases hi : i1 = i'
  rotate_left
  · have hg : (i1 == i') = false := by simpa using hi
    go_enter Tryz.func43, Tryz.ntmps43
    go_wp2_with fail
    go_ret
    exact ⟨false, by rw [Ht.out]; simp [hi], rfl, ((Below.refl _ _).alloc (Nat.le_refl _) _).alloc (by simp) _⟩
  subst hi
  go_enter Tryz.func43, Tryz.ntmps43
  go_wp2_with fail
  have B2 := ((Below.refl w.heap.size w).alloc (Nat.le_refl _) (.cells #[.slice pa m pc, .int .i64 k, .int .i64 i1, .slice a l c] 52)).alloc (by simp) (.cells #[.slice pa' m' pc', .int .i64 k, .int .i64 i1, .slice a' l' c'] 52)
  have X0 := (Blk.new w #[.slice pa m pc, .int .i64 k, .int .i64 i1, .slice a l c] 52 rfl).alloc (.cells #[.slice pa' m' pc', .int .i64 k, .int .i64 i1, .slice a' l' c'] 52)
  have X1 := Blk.new (w.alloc (.cells #[.slice pa m pc, .int .i64 k, .int .i64 i1, .slice a l c] 52)) #[.slice pa' m' pc', .int .i64 k, .int .i64 i1, .slice a' l' c'] 52 (n := w.heap.size + 1) (by simp)
  refine (Hty.out _ (hw.below B2) (hw'.below B2)).mono ?_
  rintro e w3 ⟨r, hr, rfl, hb3⟩
  have B3 := B2.trans (hb3.mono (by simp; omega))
  have x0 := X0.below hb3
  have x1 := X1.below hb3
  have c0 : w3.cell? ⟨w.heap.size, 3, none⟩ = some (.slice a l c) := x0.cell rfl
  have c1 : w3.cell? ⟨w.heap.size + 1, 3, none⟩ = some (.slice a' l' c') := x1.cell rfl
  cases r
  · have Hr := Lib.hid (no_of hr); clear hr
    go_wp2_with fail
    go_ret
    exact ⟨false, by rw [Ht.out]; simp; intro h; exact absurd h Hr.out, rfl, B3⟩
  · have Hr := Lib.hid (yes_of hr); clear hr
    go_wp2_with fail
    refine (Hts.out _ (hw.below B3) (hw'.below B3)).mono ?_
    rintro e w4 ⟨r, hr, rfl, hb4⟩
    have Hr2 := Lib.hid hr; clear hr
    go_wp2_with fail
    go_ret
    exact ⟨r, by rw [Ht.out]; simp [Hr.out]; exact Hr2.out, rfl, B3.trans (hb4.mono B3.size)⟩
end Go.Proofs.YtiblklcfjakjmaaGreat

namespace Go.Proofs.YtiblklcfjakjmaaGreat
open Go.RowKit

theorem right_d (t : Tm) (hsz : t.full ≤ 500000) : PureC Tryz.prog 82 [.ag (eTm t)] (.v (.bool (decide (t.size ≤ 5000 ∧ t.depth ≤ 60)))) := by
  refine pure_below (by kernel_rfl) fun m Im w vs hv => ?_
  match vs, hv with
  | [x], hv =>
    obtain ⟨b, k, i, a, rfl, ht⟩ := agTm hv.1
    refine (right6_k ht hsz).mono ?_
    rintro e w' ⟨b, hb, rfl, h2⟩
    have : b = decide (t.size ≤ 5000 ∧ t.depth ≤ 60) := by
      by_cases hp : t.size ≤ 5000 ∧ t.depth ≤ 60
      · rw [hb.2 hp]; simp [hp]
      · have : b = false := by
          cases b with
          | false => rfl
          | true => exact absurd (hb.1 rfl) hp
        rw [this]; simp [hp]
    subst this
    exact ⟨_, rfl, h2, fun Im' _ hI => .v _⟩
theorem eTm_ren (ρ : Nat → Nat) (t : Tm) : D.rens ρ (eTm t) = eTm t := D.rens_id (f := fun _ => false) (g := fun _ => false) (fun _ h => by cases h) _ (eTm_ok _ _ t)
theorem eTms_ren (ρ : Nat → Nat) (l : List Tm) : D.renss ρ (eTms l) = eTms l := D.renss_id (f := fun _ => false) (g := fun _ => false) (fun _ h => by cases h) _ (eTms_ok _ _ l)
end Go.Proofs.YtiblklcfjakjmaaGreat

namespace Go.Proofs.YtiblklcfjakjmaaGreat
open Go.RowKit

def m00 : Mp := ⟨fun _ => none, fun _ => none, fun _ => none⟩
theorem calls_of_pure {P : Program} {f : FuncId} {ds : List D} {V : D} (h : PureC P f ds V) {Im : Nat → Nat → Prop} {w : World} {vs : List Value} (hi : ∀ b o, Im b o → ∃ v, w.cell? ⟨b, o, none⟩ = some v) (hv : RelL m00 Im w vs ds) :
    Calls P f vs.toArray w fun e w' => ∃ v Im', e = .returned v ∧ Below w.heap.size w w' ∧ Rel m00 Im' w' v V ∧ (∀ b o, Im' b o → Im b o ∨ w.heap.size ≤ b) := by
  let cx : Cx := { w0 := w, C := fun _ => False, Im0 := Im, m0 := m00, nt := 0, n0 := 0, h0 := (fun k b hk => by cases hk), h0o := (fun k b hk => by cases hk) }
  have hm : MemOk cx (fun _ => False) m00 Im w := {
    off := Off.refl _ _, im := hi, imb := fun b o h => .inl h, im0 := fun b o h => h
    own := fun k b hk => by cases hk
    lt := fun k b hk => by cases hk
    free := fun k b o hk => by cases hk
    nim := fun k b o hk => by cases hk
    inj := fun k k' b hk => by cases hk
    row := fun g R hg => by cases hg
    k0 := KeepI.refl _ _
    rown := fun g R b hg => by cases hg
    m0r := fun g R hg => by cases hg
    rIm := fun g R b o hg => by cases hg
    rblk := fun g R b k hg => by cases hg
    rinj := fun g g' R R' b hg => by cases hg
    fr := fun k hk => hk.elim
    m0 := fun k b hk => by cases hk
    m0o := fun k b hk => by cases hk
    oown := fun k b hk => by cases hk
    olt := fun k b hk => by cases hk
    onim := fun k b o hk => by cases hk
    oinj := fun k k' b hk => by cases hk
    oblk := fun k k' b hk => by cases hk
    orow := fun k g R b hk => by cases hk
    dis := fun k b hk => by cases hk }
  refine (h.2 cx _ m00 Im w vs hm hv nofun).mono ?_
  rintro e w' ⟨v, Im', rfl, q1, q2, q3, q4, q5, q6, q7⟩
  refine ⟨v, Im', rfl, ⟨q1.os, q1.tape, q1.output, q1.size, fun b hb => q1.block b hb fun ht => ?_⟩, q6, q3⟩
  rcases ht with ⟨k, off, d, hm, _⟩ | ⟨X, J, hm, _⟩ | ⟨k, d, hm, _⟩ <;> cases hm
def cellI (F : Nat → Prop) (w : World) : Nat → Nat → Prop := fun b o => F b ∧ ∃ v, w.cell? ⟨b, o, none⟩ = some v
theorem cellI_ok {F : Nat → Prop} {w : World} : ∀ b o, cellI F w b o → ∃ v, w.cell? ⟨b, o, none⟩ = some v := fun _ _ h => h.2
theorem cellI_of {F : Nat → Prop} {w : World} : ∀ b o v, F b → w.cell? ⟨b, o, none⟩ = some v → cellI F w b o := fun _ _ v h hv => ⟨h, v, hv⟩
end Go.Proofs.YtiblklcfjakjmaaGreat

namespace Go.Proofs.YtiblklcfjakjmaaGreat
open Go.RowKit

def thE (s : Nm.St) (xs : List Tm) (n : Nat) (bs : List Ty) (k i : Int) (a : List Tm) (ins : Int) : List (Key × D) :=
  [(.t 2, .v (.int .i64 ins)), (.t 3, .p 2 0), (.t 4, .p 3 0), (.t 6, .p 4 0), (.t 7, .p 20 0), (.c 2 0, .p 0 0), (.c 2 1, .sl 4 (eTms xs) none), (.c 2 2, .v (.int .i64 n)), (.c 3 0, .sl 2 (eTys bs) none), (.c 3 1, .v (.int .i64 k)), (.c 3 2, .v (.int .i64 i)), (.c 3 3, .sl 4 (eTms a) none),
   (.c 4 0, .v (.slice none 0 0)), (.c 4 1, .v (.int .i64 0)), (.c 4 2, .v (.int .i64 0)), (.c 4 3, .v (.slice none 0 0)), (.c 20 0, .sl 2 (eTys bs) none), (.c 20 1, .v (.int .i64 k)), (.c 20 2, .v (.int .i64 i)),
   (.c 0 0, .o 1), (.c 0 1, .v (.int .i64 s.count)), (.c 0 2, .v (.int .i64 s.e)), (.o 1, .ob (BudJ s.left s.dry))]

set_option maxHeartbeats 4000000 in
theorem thr_step {f : Nat} (s : Nm.St) (ih : (Nm.unit s).1 = true → ThrD f) (xs : List Tm) (n : Nat) (t : Tm) (ins : Int) (hs : WkOk s) (hf : s.e = 0 → 100001 - s.count ≤ (f + 1 : Nat)) (ht : Wide t) (hx : ∀ a ∈ xs, Wide a) (hn : xs.length ≤ n) (hn2 : n ≤ 100000) :
    CallC Tryz.prog 186 [.ag [.p 0 0, .sl 4 (eTms xs) none, .v (.int .i64 n)], .ag (eTm t), .v (.int .i64 ins)] (wkE s) (wkE (Nm.through (f + 1) xs n t ins s).2) (.ag (eTm (Nm.through (f + 1) xs n t ins s).1)) := by
  obtain ⟨bs, k, i, a⟩ := t
  obtain ⟨w1, w2, w3⟩ := ht.inv
  obtain ⟨p, hp⟩ : ∃ p, Nm.through (f + 1) xs n (.mk bs k i a) ins s = p := ⟨_, rfl⟩
  have hun := unit_d s hs
  obtain ⟨hc1, hc2⟩ := Nm.unit_count s
  have hs1 := unit_wk hs
  obtain ⟨u, hu⟩ : ∃ u, Nm.unit s = u := ⟨_, rfl⟩
  have hp' : p = if u.1 = true then Nm.hit (Nm.through f) xs n (.mk bs k i a) (IntKind.i64.wrap (ins + (bs.length : Int))) (Nm.seqM (fun a s => Nm.through f xs n a (IntKind.i64.wrap (ins + (bs.length : Int))) s) a u.2).1 (Nm.seqM (fun a s => Nm.through f xs n a (IntKind.i64.wrap (ins + (bs.length : Int))) s) a u.2).2 else (Nm.tz, u.2) := by
    rw [← hp, ← hu, ← wr_wrap]; rfl
  rw [hu] at hun hc1 hc2 hs1 ih
  rw [hp, eTm_eq]
  clear hp hu
  obtain ⟨b, s1⟩ := u
  dsimp only at hun hc1 hc2 hs1 hp' ih
  refine call_of_dw 2 125 [ResultVar.cell 6 52] TN2_ok (by kernel_rfl) Tryz.func186 rfl Tryz.ntmps186 rfl (by simp) ?dwords ?dbody
  case dwords => simp [wordsOk, wkE, D.ok, D.oks, rnames, inN, ckey, eTm_ok, eTms_ok, eTys_ok]
  case dbody =>
    intro cx hnt hn0
    dsimp only [Tm.binds, Tm.kind, Tm.index, Tm.args]
    refine dw_seq ?_
    refine dw_k [] TN2_ok (by kernel_rfl) hnt (by kernel_rfl) (by simp; rfl) ?_
    intro K hK
    refine hK _ _ ?_
    clear hK K
    cases b with
    | false =>
      rw [if_neg (by simp)] at hp'
      refine dw_seq (dw_seq ?_)
      refine dw_k [] TN2_ok (by kernel_rfl) hnt (by kernel_rfl) (by simp; rfl) ?_
      intro K hK
      refine ⟨_, _, _, Or.inl (hun), by repeat first | exact trivial | refine And.intro ⟨rfl, rfl⟩ ?_, ?_⟩
      refine hK _ _ ?_
      clear hK K
      refine dw_cond (t := true) rfl ?_
      rw [if_pos rfl]
      refine dw_seq ?_
      refine dw_k [] TN2_ok (by kernel_rfl) hnt (by kernel_rfl) (by simp; rfl) ?_
      intro K hK
      refine hK _ _ ?_
      clear hK K
      refine dw_ret ?_
      rw [hp', tz_eq]
      exact retv (N := 0) (.inr rfl) rfl (by repeat first | exact VLe.refl _ | exact VLe.nil _ | exact VLe.untag _ _ _ | refine VLe.ag ?_ | refine VLe.tu ?_ | refine VLeL.cons ?_ ?_ | exact VLeL.nil) (by repeat first | exact trivial | refine And.intro rfl ?_)
    | true =>
      rw [if_pos rfl] at hp'
      obtain ⟨hc2, he, he1⟩ := hc2 rfl
      have ih := ih rfl
      have hf1 := hf he
      clear hf hs
      refine dw_seq (dw_seq ?_)
      refine dw_k [] TN2_ok (by kernel_rfl) hnt (by kernel_rfl) (by simp; rfl) ?_
      intro K hK
      refine ⟨_, _, _, Or.inl (hun), by repeat first | exact trivial | refine And.intro ⟨rfl, rfl⟩ ?_, ?_⟩
      refine hK _ _ ?_
      clear hK K
      refine dw_cond (t := false) rfl ?_
      rw [if_neg (by simp)]
      refine dw_skip ?_
      obtain ⟨m, hm⟩ : ∃ m, IntKind.i64.wrap (ins + (bs.length : Int)) = m := ⟨_, rfl⟩
      rw [hm] at hp'
      obtain ⟨g, hg⟩ : ∃ g : Tm → Nm.St → Tm × Nm.St, (fun a s => Nm.through f xs n a m s) = g := ⟨_, rfl⟩
      rw [hg] at hp'
      refine dw_seq ?_
      refine dw_k [(23, .v (.int .i64 m))] TN2_ok (by kernel_rfl) hnt (by kernel_rfl) (by simp; rfl) ?_
      intro K hK
      refine And.intro (VLe.of_eq (by rw [eTys_len, hm])) ?_
      refine hK _ _ ?_
      clear hK K
      refine dw_cut (τ := (.c 20 3, .v (.slice none 0 0)) :: thE s1 xs n bs k i a m) (N1 := 21) ?_ ?_
      · skip
        refine dw_k [] TN2_ok (by kernel_rfl) hnt (by kernel_rfl) (by simp; rfl) ?_
        intro K hK
        refine hK _ _ ?_
        clear hK K
        exact cut_ok (VS.toK (by first | omega | simp [hn0]) (by repeat first | exact trivial | refine And.intro (And.intro (by first | rfl | simp [D.ok, D.oks, D.okss, D.okm, eTm_ok, eTy_ok, eTys_ok, eTms_ok, upto, keyOk]) (by first | exact Or.inl rfl | exact Or.inr ⟨_, rfl, (by repeat first | exact VLe.refl _ | exact VLe.nil _ | exact VLe.untag _ _ _ | refine VLe.ag ?_ | refine VLe.tu ?_ | refine VLeL.cons ?_ ?_ | exact VLeL.nil), trivial⟩ | simp [get, Key.eq])) ?_))
      · dsimp only [thE]
        refine dw_seq ?_
        refine dw_seq ?_
        refine dw_k [(31, .v (.int .i64 a.length))] TN2_ok (by kernel_rfl) hnt (by kernel_rfl) (by simp; rfl) ?_
        intro K hK
        refine And.intro (dintE (by rw [eTms_len])) ?_
        refine hK _ _ ?_
        clear hK K
        refine dw_block ?_
        refine dw_loop (ι := Nat) (fun j => (.t 30, .sl 4 (eTms a) none) :: (.t 31, .v (.int .i64 a.length)) :: (.t 32, .v (.int .i64 j)) :: (.c 20 3, .sl 4 (eTms (Nm.seqM g (a.take j) s1).1) (some 25)) :: (.r 25, .rw 52 4 j) :: thE (Nm.seqM g (a.take j) s1).2 xs n bs k i a m) 26 (fun j => a.length - j) 0 (VS.trans (VS.row (k := 20) (off := 3) 52 4 rfl) (VS.toK (by first | omega | simp [hn0]) (by repeat first | exact trivial | refine And.intro (And.intro (by first | rfl | simp [D.ok, D.oks, D.okss, D.okm, eTm_ok, eTy_ok, eTys_ok, eTms_ok, upto, keyOk]) (by first | exact Or.inl rfl | exact Or.inr ⟨_, rfl, (by repeat first | exact VLe.refl _ | exact VLe.nil _ | exact VLe.untag _ _ _ | refine VLe.ag ?_ | refine VLe.tu ?_ | refine VLeL.cons ?_ ?_ | exact VLeL.nil), trivial⟩ | simp [get, Key.eq])) ?_))) fun j => ?_
        dsimp only [thE]
        have hst : WkOk (Nm.seqM g (a.take j) s1).2 := seqM_wk (fun t s h => by rw [← hg]; exact through_wk f _ _ _ _ _ h) _ _ hs1
        have hsc : s1.count ≤ (Nm.seqM g (a.take j) s1).2.count := Nm.seqM_count (fun t s => by rw [← hg]; exact Nm.through_count f _ _ _ _ _) _ _
        have hwd : ∀ t ∈ (Nm.seqM g (a.take j) s1).1, Wide t := Nm.seqM_wide (fun t s h => by rw [← hg]; exact Nm.through_wide f _ _ _ _ _ h hx) _ (fun t h => w3 t (List.mem_of_mem_take h)) _
        have hll : (Nm.seqM g (a.take j) s1).1.length = (a.take j).length := Nm.seqM_length ..
        refine dw_seq ?_
        by_cases hlt : j < a.length
        · have hcon := ih (Nm.seqM g (a.take j) s1).2 xs n a[j] m hst (fun _ => by omega) (w3 _ (List.getElem_mem hlt)) hx hn hn2
          have hg2 : Nm.through f xs n a[j] m (Nm.seqM g (a.take j) s1).2 = g a[j] (Nm.seqM g (a.take j) s1).2 := by rw [← hg]
          rw [hg2] at hcon
          have hsq := Nm.seqM_take g a j hlt s1
          rw [eTm_eq, eTm_eq] at hcon
          refine dw_k [(33, .v (.bool true))] TN2_ok (by kernel_rfl) hnt (by kernel_rfl) (by simp; rfl) ?_
          intro K hK
          refine And.intro (dtrue (by omega)) ?_
          refine hK _ _ ?_
          clear hK K
          refine dw_seq (dw_cond (t := true) rfl ?_)
          rw [if_pos rfl]
          refine dw_skip (dw_seq (dw_block (dw_seq ?_)))
          refine dw_k [(34, .q [.sl 2 (eTys a[j].binds) none, .v (.int .i64 a[j].kind), .v (.int .i64 a[j].index), .sl 4 (eTms a[j].args) none])] TN2_ok (by kernel_rfl) hnt (by kernel_rfl) (by simp; rfl) ?_
          intro K hK
          refine And.intro (⟨by omega, by rw [eTms_len]; omega⟩) ?_
          refine And.intro (VLe.of_eq (by rw [Int.toNat_natCast, eTms_getD a j hlt, eTm_eq])) ?_
          refine hK _ _ ?_
          clear hK K
          refine dw_kD [(43, .sl 4 (eTms (Nm.seqM g (a.take (j + 1)) s1).1) (some 25))] TN2_ok (by kernel_rfl) hnt (by kernel_rfl) (by simp; rfl) ?_
          intro K hK
          refine ⟨_, _, _, Or.inl (hcon), by repeat first | exact trivial | refine And.intro ⟨rfl, rfl⟩ ?_, ?_⟩
          refine And.intro (⟨by rw [eTms_len, hll, List.length_take]; omega, by rw [eTms_len, hll, List.length_take]; simp; omega⟩) ?_
          refine And.intro (VLe.of_eq (by rw [hsq, eTms_append, eTms, eTms, eTm_eq (g a[j] _).1])) ?_
          refine hK _ _ (by kernel_rfl) ?_
          clear hK K
          refine dw_k [(45, .v (.int .i64 ((j + 1 : Nat) : Int)))] TN2_ok (by kernel_rfl) hnt (by kernel_rfl) (by simp; rfl) ?_
          intro K hK
          refine And.intro (dintE (by rw [IntWalk.i64_in _ (by omega)]; omega)) ?_
          refine hK _ _ ?_
          clear hK K
          refine ⟨j + 1, by omega, ?_⟩
          have hl2 : (eTms (Nm.seqM g (a.take j) s1).1).length = j := by rw [eTms_len, hll, List.length_take]; omega
          rw [hsq]
          exact (VS.toK (by first | omega | simp [hn0]) (by repeat first | exact trivial | refine And.intro (And.intro (by first | rfl | simp [D.ok, D.oks, D.okss, D.okm, eTm_ok, eTy_ok, eTys_ok, eTms_ok, upto, keyOk, hl2]) (by first | exact Or.inl rfl | exact Or.inr ⟨_, rfl, (by repeat first | exact VLe.refl _ | exact VLe.nil _ | exact VLe.untag _ _ _ | refine VLe.ag ?_ | refine VLe.tu ?_ | refine VLeL.cons ?_ ?_ | exact VLeL.nil), trivial⟩ | simp [get, Key.eq, hl2])) ?_))
        · rw [List.take_of_length_le (by omega)] at hst hsc hwd hll ⊢
          obtain ⟨q, hq⟩ : ∃ q, Nm.seqM g a s1 = q := ⟨_, rfl⟩
          rw [hq] at hst hsc hwd hll hp' ⊢
          clear hq
          obtain ⟨as', s2⟩ := q
          dsimp only at hst hsc hwd hll hp' ⊢
          have hen := eTms_len as'
          obtain ⟨left, dry, count, er⟩ := s2
          dsimp only at hsc hst hp' ⊢
          refine dw_k [(33, .v (.bool false))] TN2_ok (by kernel_rfl) hnt (by kernel_rfl) (by simp; rfl) ?_
          intro K hK
          refine And.intro (dfalse (by omega)) ?_
          refine hK _ _ ?_
          clear hK K
          refine dw_seq (dw_cond (t := false) rfl ?_)
          rw [if_neg (by simp)]
          refine dw_exit ?_
          refine dw_seq ?_
          refine dw_seq ?_
          by_cases hk : k ≠ 0
          · have hp2 : p = (.mk bs k i as', ⟨left, dry, count, er⟩) := by
              rw [hp']; unfold Nm.hit; exact if_pos (.inl hk)
            refine dw_k [(49, .v (.bool true))] TN2_ok (by kernel_rfl) hnt (by kernel_rfl) (by simp; rfl) ?_
            intro K hK
            refine And.intro (VLe.of_eq (by simp [hk])) ?_
            refine hK _ _ ?_
            clear hK K
            refine dw_cond (t := true) rfl ?_
            rw [if_pos rfl]
            refine dw_seq ?_
            refine dw_k [] TN2_ok (by kernel_rfl) hnt (by kernel_rfl) (by simp; rfl) ?_
            intro K hK
            refine hK _ _ ?_
            clear hK K
            refine dw_ret ?_
            rw [hp2, eTm_eq]
            exact retv (N := 0) (.inr rfl) rfl (by repeat first | exact VLe.refl _ | exact VLe.nil _ | exact VLe.untag _ _ _ | refine VLe.ag ?_ | refine VLe.tu ?_ | refine VLeL.cons ?_ ?_ | exact VLeL.nil) (by repeat first | exact trivial | refine And.intro rfl ?_)
          · have hk : k = 0 := by simpa using hk
            by_cases hi : i < m
            · have hp2 : p = (.mk bs k i as', ⟨left, dry, count, er⟩) := by
                rw [hp']; unfold Nm.hit; exact if_pos (.inr hi)
              refine dw_k [(49, .v (.bool false)), (55, .v (.bool true))] TN2_ok (by kernel_rfl) hnt (by kernel_rfl) (by simp; rfl) ?_
              intro K hK
              refine And.intro (VLe.of_eq (by simp [hk])) ?_
              refine And.intro (dtrue hi) ?_
              refine hK _ _ ?_
              clear hK K
              refine dw_cond (t := true) rfl ?_
              rw [if_pos rfl]
              refine dw_seq ?_
              refine dw_k [] TN2_ok (by kernel_rfl) hnt (by kernel_rfl) (by simp; rfl) ?_
              intro K hK
              refine hK _ _ ?_
              clear hK K
              refine dw_ret ?_
              rw [hp2, eTm_eq]
              exact retv (N := 0) (.inr rfl) rfl (by repeat first | exact VLe.refl _ | exact VLe.nil _ | exact VLe.untag _ _ _ | refine VLe.ag ?_ | refine VLe.tu ?_ | refine VLeL.cons ?_ ?_ | exact VLeL.nil) (by repeat first | exact trivial | refine And.intro rfl ?_)
            · skip
              refine dw_k [(49, .v (.bool false)), (55, .v (.bool false))] TN2_ok (by kernel_rfl) hnt (by kernel_rfl) (by simp; rfl) ?_
              intro K hK
              refine And.intro (VLe.of_eq (by simp [hk])) ?_
              refine And.intro (dfalse hi) ?_
              refine hK _ _ ?_
              clear hK K
              refine dw_cond (t := false) rfl ?_
              rw [if_neg (by simp)]
              refine dw_skip ?_
              obtain ⟨d, hd⟩ : ∃ d, IntKind.i64.wrap (i - m) = d := ⟨_, rfl⟩
              have hp2 : p = if d < (n : Int) - xs.length then (.mk bs k i as', ⟨left, dry, count, er⟩) else if (n : Int) ≤ d then (.mk bs k (IntKind.i64.wrap (i - xs.length)) as', ⟨left, dry, count, er⟩) else
                  let u := Nm.grown (xs.getD ((n : Int) - 1 - d).toNat Nm.tz) (IntKind.i64.wrap (IntKind.i64.wrap (m + n) - xs.length))
                  if u.binds.length ≠ as'.length then (Nm.tz, Nm.fail ⟨left, dry, count, er⟩ 1) else let r := Nm.putW (Nm.through f) u as' ⟨left, dry, count, er⟩; (.mk bs r.1.kind r.1.index r.1.args, r.2) := by
                rw [hp', ← hd, ← wr_wrap, ← wr_wrap, ← wr_wrap, ← wr_wrap]
                unfold Nm.hit
                exact if_neg (fun h => h.elim (fun h => h hk) hi)
              clear hp'
              refine dw_seq ?_
              refine dw_k [(60, .v (.int .i64 xs.length))] TN2_ok (by kernel_rfl) hnt (by kernel_rfl) (by simp; rfl) ?_
              intro K hK
              refine And.intro (dintE (by rw [eTms_len])) ?_
              refine hK _ _ ?_
              clear hK K
              refine dw_seq (dw_seq ?_)
              refine dw_k [(65, .v (.int .i64 d))] TN2_ok (by kernel_rfl) hnt (by kernel_rfl) (by simp; rfl) ?_
              intro K hK
              refine And.intro (dintE hd) ?_
              refine hK _ _ ?_
              clear hK K
              refine dw_block (dw_seq ?_)
              by_cases h1 : d < (n : Int) - xs.length
              · rw [if_pos h1] at hp2
                refine dw_k [(110, .v (.int .i64 ((n : Int) - xs.length))), (111, .v (.bool true))] TN2_ok (by kernel_rfl) hnt (by kernel_rfl) (by simp; rfl) ?_
                intro K hK
                refine And.intro (dintE (IntWalk.i64_in _ (by omega))) ?_
                refine And.intro (dtrue h1) ?_
                refine hK _ _ ?_
                clear hK K
                refine dw_cond (t := true) rfl ?_
                rw [if_pos rfl]
                refine dw_skip ?_
                refine dw_seq ?_
                refine dw_k [] TN2_ok (by kernel_rfl) hnt (by kernel_rfl) (by simp; rfl) ?_
                intro K hK
                refine hK _ _ ?_
                clear hK K
                refine dw_ret ?_
                rw [hp2, eTm_eq]
                exact retv (N := 0) (.inr rfl) rfl (by repeat first | exact VLe.refl _ | exact VLe.nil _ | exact VLe.untag _ _ _ | refine VLe.ag ?_ | refine VLe.tu ?_ | refine VLeL.cons ?_ ?_ | exact VLeL.nil) (by repeat first | exact trivial | refine And.intro rfl ?_)
              · rw [if_neg h1] at hp2
                refine dw_k [(110, .v (.int .i64 ((n : Int) - xs.length))), (111, .v (.bool false))] TN2_ok (by kernel_rfl) hnt (by kernel_rfl) (by simp; rfl) ?_
                intro K hK
                refine And.intro (dintE (IntWalk.i64_in _ (by omega))) ?_
                refine And.intro (dfalse h1) ?_
                refine hK _ _ ?_
                clear hK K
                refine dw_cond (t := false) rfl ?_
                rw [if_neg (by simp)]
                refine dw_seq ?_
                by_cases h2 : (n : Int) ≤ d
                · rw [if_pos h2] at hp2
                  refine dw_k [(116, .v (.bool true))] TN2_ok (by kernel_rfl) hnt (by kernel_rfl) (by simp; rfl) ?_
                  intro K hK
                  refine And.intro (dtrue h2) ?_
                  refine hK _ _ ?_
                  clear hK K
                  refine dw_cond (t := true) rfl ?_
                  rw [if_pos rfl]
                  refine dw_k [] TN2_ok (by kernel_rfl) hnt (by kernel_rfl) (by simp; rfl) ?_
                  intro K hK
                  refine hK _ _ ?_
                  clear hK K
                  refine dw_seq ?_
                  refine dw_k [] TN2_ok (by kernel_rfl) hnt (by kernel_rfl) (by simp; rfl) ?_
                  intro K hK
                  refine hK _ _ ?_
                  clear hK K
                  refine dw_ret ?_
                  rw [hp2, eTm_eq]
                  exact retv (N := 0) (.inr rfl) rfl (by repeat first | exact VLe.refl _ | exact VLe.nil _ | exact VLe.untag _ _ _ | refine VLe.ag ?_ | refine VLe.tu ?_ | refine VLeL.cons ?_ ?_ | exact VLeL.nil) (by repeat first | exact trivial | refine And.intro rfl ?_)
                · rw [if_neg h2] at hp2
                  refine dw_k [(116, .v (.bool false))] TN2_ok (by kernel_rfl) hnt (by kernel_rfl) (by simp; rfl) ?_
                  intro K hK
                  refine And.intro (dfalse h2) ?_
                  refine hK _ _ ?_
                  clear hK K
                  refine dw_cond (t := false) rfl ?_
                  rw [if_neg (by simp)]
                  have hdx : ((n : Int) - 1 - d).toNat < xs.length := by omega
                  obtain ⟨x0, hx0⟩ : ∃ x0, xs[((n : Int) - 1 - d).toNat] = x0 := ⟨_, rfl⟩
                  have hx1 : (eTms xs).getD ((n : Int) - 1 - d).toNat [] = eTm x0 := by rw [eTms_getD xs _ hdx, hx0]
                  have hx2 : xs.getD ((n : Int) - 1 - d).toNat Nm.tz = x0 := by rw [List.getD_eq_getElem?_getD, List.getElem?_eq_getElem hdx, ← hx0]; rfl
                  have hxw : Wide x0 := hx _ (hx0 ▸ List.getElem_mem hdx)
                  obtain ⟨y, hy⟩ : ∃ y, IntKind.i64.wrap (IntKind.i64.wrap (m + n) - xs.length) = y := ⟨_, rfl⟩
                  have hgr := grown_nd x0 hxw y
                  have huw := Nm.grown_wide hxw y
                  rw [hx2, hy] at hp2
                  obtain ⟨v, hv⟩ : ∃ v, Nm.grown x0 y = v := ⟨_, rfl⟩
                  rw [hv] at hp2 hgr huw
                  dsimp only at hp2
                  rw [eTm_eq, eTm_eq] at hgr
                  refine dw_seq ?_
                  refine dw_kD [(70, .v (.int .i64 ((n : Int) - 1))), (72, .v (.int .i64 ((n : Int) - 1 - d))), (73, .q [.sl 2 (eTys x0.binds) none, .v (.int .i64 x0.kind), .v (.int .i64 x0.index), .sl 4 (eTms x0.args) none]), (80, .v (.int .i64 y))] TN2_ok (by kernel_rfl) hnt (by kernel_rfl) (by simp; rfl) ?_
                  intro K hK
                  refine And.intro (dintE (IntWalk.i64_in _ (by omega))) ?_
                  refine And.intro (dintE (IntWalk.i64_in _ (by omega))) ?_
                  refine And.intro (⟨by omega, by rw [eTms_len]; omega⟩) ?_
                  refine And.intro (VLe.of_eq (by rw [hx1, eTm_eq])) ?_
                  refine And.intro (dintE hy) ?_
                  refine ⟨_, _, _, Or.inl (hgr), by repeat first | exact trivial | refine And.intro ⟨rfl, rfl⟩ ?_, ?_⟩
                  refine hK _ _ (by kernel_rfl) ?_
                  clear hK K
                  refine dw_seq (dw_seq ?_)
                  by_cases hbl : v.binds.length = as'.length
                  · rw [if_neg (by simp [hbl])] at hp2
                    have hput := put_dd ih ⟨left, dry, count, er⟩ hst (fun _ => by dsimp only; omega) v as' huw hwd
                    obtain ⟨r, hr⟩ : ∃ r, Nm.put f v as' ⟨left, dry, count, er⟩ = r := ⟨_, rfl⟩
                    have hp3 : p = (.mk bs r.1.kind r.1.index r.1.args, r.2) := by rw [hp2, ← hr]; rfl
                    rw [hr, eTm_eq, eTm_eq] at hput
                    refine dw_k [(88, .v (.bool false))] TN2_ok (by kernel_rfl) hnt (by kernel_rfl) (by simp; rfl) ?_
                    intro K hK
                    refine And.intro (VLe.of_eq (by simp [eTys_len, eTms_len, hbl])) ?_
                    refine hK _ _ ?_
                    clear hK K
                    refine dw_cond (t := false) rfl ?_
                    rw [if_neg (by simp)]
                    refine dw_skip ?_
                    refine dw_seq ?_
                    refine dw_k [(97, .sl 4 (eTms as') none)] TN2_ok (by kernel_rfl) hnt (by kernel_rfl) (by simp; rfl) ?_
                    intro K hK
                    refine And.intro (VLe.untag _ _ _) ?_
                    refine ⟨_, _, _, Or.inl (hput), by repeat first | exact trivial | refine And.intro ⟨rfl, rfl⟩ ?_, ?_⟩
                    refine hK _ _ ?_
                    clear hK K
                    refine dw_kD [] TN2_ok (by kernel_rfl) hnt (by kernel_rfl) (by simp; rfl) ?_
                    intro K hK
                    refine hK _ _ (by kernel_rfl) ?_
                    clear hK K
                    refine dw_seq ?_
                    refine dw_k [] TN2_ok (by kernel_rfl) hnt (by kernel_rfl) (by simp; rfl) ?_
                    intro K hK
                    refine hK _ _ ?_
                    clear hK K
                    refine dw_ret ?_
                    rw [hp3, eTm_eq]
                    exact retv (N := 0) (.inr rfl) rfl (by repeat first | exact VLe.refl _ | exact VLe.nil _ | exact VLe.untag _ _ _ | refine VLe.ag ?_ | refine VLe.tu ?_ | refine VLeL.cons ?_ ?_ | exact VLeL.nil) (by repeat first | exact trivial | refine And.intro rfl ?_)
                  · rw [if_pos hbl] at hp2
                    refine dw_k [(88, .v (.bool true))] TN2_ok (by kernel_rfl) hnt (by kernel_rfl) (by simp; rfl) ?_
                    intro K hK
                    refine And.intro (VLe.of_eq (by simp [eTys_len, eTms_len]; omega)) ?_
                    refine hK _ _ ?_
                    clear hK K
                    refine dw_cond (t := true) rfl ?_
                    rw [if_pos rfl]
                    refine dw_seq ?_
                    refine dw_k [] TN2_ok (by kernel_rfl) hnt (by kernel_rfl) (by simp; rfl) ?_
                    intro K hK
                    refine ⟨_, _, _, Or.inl (fail_d ⟨left, dry, count, er⟩ 1), by repeat first | exact trivial | refine And.intro ⟨rfl, rfl⟩ ?_, ?_⟩
                    refine hK _ _ ?_
                    clear hK K
                    refine dw_seq ?_
                    refine dw_k [] TN2_ok (by kernel_rfl) hnt (by kernel_rfl) (by simp; rfl) ?_
                    intro K hK
                    refine hK _ _ ?_
                    clear hK K
                    refine dw_ret ?_
                    rw [hp2, tz_eq]
                    exact retv (N := 0) (.inr rfl) rfl (by repeat first | exact VLe.refl _ | exact VLe.nil _ | exact VLe.untag _ _ _ | refine VLe.ag ?_ | refine VLe.tu ?_ | refine VLeL.cons ?_ ?_ | exact VLeL.nil) (by repeat first | exact trivial | refine And.intro rfl ?_)
theorem thr_all (f : Nat) : ThrD f := by
  induction f with
  | zero =>
    intro s xs n t ins hs hf ht hx hn hn2
    have he : s.e ≠ 0 := fun h => by have := hf h; have := hs.e0 h; omega
    have hu : Nm.unit s = (false, s) := by unfold Nm.unit; exact if_pos he
    have h := thr_step (f := 0) s (fun h => by rw [hu] at h; cases h) xs n t ins hs (fun h => absurd h he) ht hx hn hn2
    have e : Nm.through (0 + 1) xs n t ins s = Nm.through 0 xs n t ins s := by
      unfold Nm.through; dsimp only; rw [hu]; simp
    rw [e] at h; exact h
  | succ f ih => exact fun s xs n t ins hs hf ht hx hn hn2 => thr_step s (fun _ => ih) xs n t ins hs hf ht hx hn hn2
theorem put_d (s : Nm.St) (hs : WkOk s) (t : Tm) (xs : List Tm) (ht : Wide t) (hx : ∀ a ∈ xs, Wide a) :
    CallC Tryz.prog 167 [.p 0 0, .ag (eTm t), .sl 4 (eTms xs) none] (wkE s) (wkE (Nm.put 100001 t xs s).2) (.ag (eTm (Nm.put 100001 t xs s).1)) :=
  put_dd (thr_all 100001) s hs (fun _ => by have := hs.count; omega) t xs ht hx
end Go.Proofs.YtiblklcfjakjmaaGreat

namespace Go.Proofs.YtiblklcfjakjmaaGreat
open Go.RowKit
def TN3_52 : TI := ⟨4, true, [Value.slice none 0 0, Value.int IntKind.i64 0, Value.int IntKind.i64 0, Value.slice none 0 0], [(0, 1, false), (1, 2, true), (3, 1, false)], none, 64, 6, none, false⟩
theorem TN3_52_ok : TypOk Tryz.prog 52 TN3_52 := ⟨by kernel_rfl, by kernel_rfl, by kernel_rfl, by kernel_rfl, by kernel_rfl⟩
def TN3_32 : TI := ⟨1, false, [Value.int IntKind.i64 0], [], none, 8, 2, none, false⟩
theorem TN3_32_ok : TypOk Tryz.prog 32 TN3_32 := ⟨by kernel_rfl, by kernel_rfl, by kernel_rfl, by kernel_rfl, by kernel_rfl⟩
def TN3_253 : TI := ⟨3, true, [Value.pointer none, Value.int IntKind.i64 0, Value.int IntKind.i64 0], [(0, 1, false), (1, 1, false), (2, 1, false)], none, 24, 6, none, false⟩
theorem TN3_253_ok : TypOk Tryz.prog 253 TN3_253 := ⟨by kernel_rfl, by kernel_rfl, by kernel_rfl, by kernel_rfl, by kernel_rfl⟩
def TN3_251 : TI := ⟨1, false, [Value.pointer none], [], none, 8, 4, none, false⟩
theorem TN3_251_ok : TypOk Tryz.prog 251 TN3_251 := ⟨by kernel_rfl, by kernel_rfl, by kernel_rfl, by kernel_rfl, by kernel_rfl⟩
def TN3_85 : TI := ⟨1, false, [Value.pointer none], [], none, 8, 4, none, false⟩
theorem TN3_85_ok : TypOk Tryz.prog 85 TN3_85 := ⟨by kernel_rfl, by kernel_rfl, by kernel_rfl, by kernel_rfl, by kernel_rfl⟩
def TN3_50 : TI := ⟨1, false, [Value.slice none 0 0], [], some 52, 24, 5, none, false⟩
theorem TN3_50_ok : TypOk Tryz.prog 50 TN3_50 := ⟨by kernel_rfl, by kernel_rfl, by kernel_rfl, by kernel_rfl, by kernel_rfl⟩
def TN3 : List (Nat × TI) := [(52, TN3_52), (32, TN3_32), (253, TN3_253), (251, TN3_251), (85, TN3_85), (50, TN3_50)]
theorem TN3_ok : TabOk Tryz.prog TN3 := (((((((TabOk.nil _).cons TN3_50_ok).cons TN3_85_ok).cons TN3_251_ok).cons TN3_253_ok).cons TN3_32_ok).cons TN3_52_ok)

structure DoneOk (t : Tm) : Prop where
  right : t.full ≤ 500000
  copy : t.size ≤ 5000 ∧ t.depth ≤ 60 → t.full ≤ 80000 ∧ t.Fit

theorem done_1 {t : Tm} (h : t.size ≤ 5000 ∧ t.depth ≤ 60) (l : Int) (d : Bool) (c : Int) : Nm.done (t, ⟨l, d, c, 0⟩) = (t, ⟨l, d, c, 0⟩) := by
  have : ¬ ((0 : Int) = 0 ∧ ¬ (t.size ≤ 5000 ∧ t.depth ≤ 60)) := fun h' => h'.2 h
  unfold Nm.done; dsimp only; rw [if_neg this]; simp
theorem done_2 {t : Tm} (h : ¬ (t.size ≤ 5000 ∧ t.depth ≤ 60)) (l : Int) (d : Bool) (c : Int) : Nm.done (t, ⟨l, d, c, 0⟩) = (Nm.tz, ⟨l, d, c, 2⟩) := by
  have : (0 : Int) = 0 ∧ ¬ (t.size ≤ 5000 ∧ t.depth ≤ 60) := ⟨rfl, h⟩
  unfold Nm.done; dsimp only; rw [if_pos this]; rfl
theorem done_3 {t : Tm} {e : Int} (h : e ≠ 0) (l : Int) (d : Bool) (c : Int) : Nm.done (t, ⟨l, d, c, e⟩) = (Nm.tz, ⟨l, d, c, e⟩) := by
  have : ¬ (e = 0 ∧ ¬ (t.size ≤ 5000 ∧ t.depth ≤ 60)) := fun h' => h h'.1
  unfold Nm.done; dsimp only; rw [if_neg this]; exact if_pos h
theorem done_d (s : Nm.St) (t : Tm) (ho : s.e = 0 → DoneOk t) : CallC Tryz.prog 166 [.p 0 0, .ag (eTm t)] (wkE s) (wkE (Nm.done (t, s)).2) (.tu [.ag (eTm (Nm.done (t, s)).1), .v (.int .i64 (Nm.done (t, s)).2.e)]) := by
  obtain ⟨left, dry, count, er⟩ := s
  obtain ⟨p, hp⟩ : ∃ p, Nm.done (t, ⟨left, dry, count, er⟩) = p := ⟨_, rfl⟩
  rw [hp]
  have hpd := hp.symm
  clear hp
  dsimp only at ho
  have hrt : er = 0 → PureC Tryz.prog 82 [.ag (eTm t)] (.v (.bool (decide (t.size ≤ 5000 ∧ t.depth ≤ 60)))) := fun h => right_d t (ho h).right
  have hcp : er = 0 → (t.size ≤ 5000 ∧ t.depth ≤ 60) → PureC Tryz.prog 61 [.ag (eTm t)] (.ag (eTm t)) := fun h h' => copy_d t ((ho h).copy h').1 ((ho h).copy h').2
  obtain ⟨bs, k, i, a⟩ := t
  refine call_of_dw 2 30 [ResultVar.cell 4 52, ResultVar.tmp 5] TN3_ok (by kernel_rfl) Tryz.func166 rfl Tryz.ntmps166 rfl (by simp) ?dwords ?dbody
  case dwords => simp [wordsOk, wkE, D.ok, D.oks, rnames, inN, ckey, eTm_ok, eTms_ok, eTys_ok]
  case dbody =>
    intro cx hnt hn0
    refine dw_seq ?_
    refine dw_k [] TN3_ok (by kernel_rfl) hnt (by kernel_rfl) (by simp; rfl) ?_
    intro K hK
    refine hK _ _ ?_
    clear hK K
    refine dw_seq (dw_seq ?_)
    by_cases he : er = 0
    · subst he
      have hrt := hrt rfl
      have hcp := hcp rfl
      by_cases hR : (Tm.mk bs k i a).size ≤ 5000 ∧ (Tm.mk bs k i a).depth ≤ 60
      · have hcp := hcp hR
        rw [done_1 hR] at hpd
        subst hpd
        simp only [hR, and_self, decide_true] at hrt
        refine dw_k [(10, .v (.bool true))] TN3_ok (by kernel_rfl) hnt (by kernel_rfl) (by simp; rfl) ?_
        intro K hK
        refine And.intro (VLe.refl _) ?_
        refine ⟨_, _, _, Or.inl (hrt), by repeat first | exact trivial | refine And.intro ⟨rfl, rfl⟩ ?_, ?_⟩
        refine hK _ _ ?_
        clear hK K
        refine dw_cond (t := false) rfl ?_
        rw [if_neg (by simp)]
        refine dw_skip ?_
        refine dw_seq (dw_seq ?_)
        refine dw_k [(22, .v (.bool false))] TN3_ok (by kernel_rfl) hnt (by kernel_rfl) (by simp; rfl) ?_
        intro K hK
        refine And.intro (VLe.refl _) ?_
        refine hK _ _ ?_
        clear hK K
        refine dw_cond (t := false) rfl ?_
        rw [if_neg (by simp)]
        refine dw_skip ?_
        refine dw_seq ?_
        refine dw_k [] TN3_ok (by kernel_rfl) hnt (by kernel_rfl) (by simp; rfl) ?_
        intro K hK
        refine ⟨_, _, _, Or.inl (hcp), by repeat first | exact trivial | refine And.intro ⟨rfl, rfl⟩ ?_, ?_⟩
        refine hK _ _ ?_
        clear hK K
        refine dw_ret ?_
        exact retv (N := 0) (.inr rfl) rfl (by repeat first | exact VLe.refl _ | exact VLe.nil _ | exact VLe.untag _ _ _ | refine VLe.ag ?_ | refine VLe.tu ?_ | refine VLeL.cons ?_ ?_ | exact VLeL.nil) (by repeat first | exact trivial | refine And.intro rfl ?_)
      · rw [done_2 hR] at hpd
        subst hpd
        have hd : decide ((Tm.mk bs k i a).size ≤ 5000 ∧ (Tm.mk bs k i a).depth ≤ 60) = false := decide_eq_false hR
        rw [hd] at hrt
        have hf : CallC _ _ _ _ (wkE ⟨left, dry, count, 2⟩) _ := fail_d ⟨left, dry, count, 0⟩ 2
        refine dw_k [(10, .v (.bool true))] TN3_ok (by kernel_rfl) hnt (by kernel_rfl) (by simp; rfl) ?_
        intro K hK
        refine And.intro (VLe.refl _) ?_
        refine ⟨_, _, _, Or.inl (hrt), by repeat first | exact trivial | refine And.intro ⟨rfl, rfl⟩ ?_, ?_⟩
        refine hK _ _ ?_
        clear hK K
        refine dw_cond (t := true) rfl ?_
        rw [if_pos rfl]
        refine dw_k [] TN3_ok (by kernel_rfl) hnt (by kernel_rfl) (by simp; rfl) ?_
        intro K hK
        refine ⟨_, _, _, Or.inl (hf), by repeat first | exact trivial | refine And.intro ⟨rfl, rfl⟩ ?_, ?_⟩
        refine hK _ _ ?_
        clear hK K
        refine dw_seq (dw_seq ?_)
        refine dw_k [(22, .v (.bool true))] TN3_ok (by kernel_rfl) hnt (by kernel_rfl) (by simp; rfl) ?_
        intro K hK
        refine And.intro (VLe.refl _) ?_
        refine hK _ _ ?_
        clear hK K
        refine dw_cond (t := true) rfl ?_
        rw [if_pos rfl]
        refine dw_seq ?_
        refine dw_kD [] TN3_ok (by kernel_rfl) hnt (by kernel_rfl) (by simp; rfl) ?_
        intro K hK
        refine hK _ _ (by kernel_rfl) ?_
        clear hK K
        refine dw_ret ?_
        rw [tz_eq]
        exact retv (N := 0) (.inr rfl) rfl (by repeat first | exact VLe.refl _ | exact VLe.nil _ | exact VLe.untag _ _ _ | refine VLe.ag ?_ | refine VLe.tu ?_ | refine VLeL.cons ?_ ?_ | exact VLeL.nil) (by repeat first | exact trivial | refine And.intro rfl ?_)
    · rw [done_3 he] at hpd
      subst hpd
      refine dw_k [(10, .v (.bool false))] TN3_ok (by kernel_rfl) hnt (by kernel_rfl) (by simp; rfl) ?_
      intro K hK
      refine And.intro (dfalse he) ?_
      refine hK _ _ ?_
      clear hK K
      refine dw_cond (t := false) rfl ?_
      rw [if_neg (by simp)]
      refine dw_skip ?_
      refine dw_seq (dw_seq ?_)
      refine dw_k [(22, .v (.bool true))] TN3_ok (by kernel_rfl) hnt (by kernel_rfl) (by simp; rfl) ?_
      intro K hK
      refine And.intro (VLe.of_eq (by simp [he])) ?_
      refine hK _ _ ?_
      clear hK K
      refine dw_cond (t := true) rfl ?_
      rw [if_pos rfl]
      refine dw_seq ?_
      refine dw_kD [] TN3_ok (by kernel_rfl) hnt (by kernel_rfl) (by simp; rfl) ?_
      intro K hK
      refine hK _ _ (by kernel_rfl) ?_
      clear hK K
      refine dw_ret ?_
      rw [tz_eq]
      exact retv (N := 0) (.inr rfl) rfl (by repeat first | exact VLe.refl _ | exact VLe.nil _ | exact VLe.untag _ _ _ | refine VLe.ag ?_ | refine VLe.tu ?_ | refine VLeL.cons ?_ ?_ | exact VLeL.nil) (by repeat first | exact trivial | refine And.intro rfl ?_)

def wkR (kw kb : Nat) (s : Nm.St) : List (Key × D) := [(.c kw 0, .o kb), (.c kw 1, .v (.int .i64 s.count)), (.c kw 2, .v (.int .i64 s.e)), (.o kb, .ob (BudJ s.left s.dry))]
def ren2 (kw kb : Nat) : Nat → Nat := fun k => if k = 0 then kw else kb
theorem put_at (kw kb : Nat) (hk : kw ≠ kb) (s : Nm.St) (hs : WkOk s) (t : Tm) (xs : List Tm) (ht : Wide t) (hx : ∀ a ∈ xs, Wide a) :
    CallC Tryz.prog 167 [.p kw 0, .ag (eTm t), .sl 4 (eTms xs) none] (wkR kw kb s) (wkR kw kb (Nm.put 100001 t xs s).2) (.ag (eTm (Nm.put 100001 t xs s).1)) := by
  have h := (put_d s hs t xs ht hx).ren (ren2 kw kb) (by simp [renOk, wkE, D.ok, D.oks, rnames, inN, ckey, eTm_ok, eTms_ok, eTys_ok]) (by
    intro k h1 k' h2
    simp [rnames, wkE] at h1 h2
    rcases h1 with rfl | rfl <;> rcases h2 with rfl | rfl <;> simp [ren2, hk, hk.symm])
  simpa [D.ren, eTm_ren, eTms_ren, wkE, wkR, renE, Key.ren, ren2] using h
theorem done_at (kw kb : Nat) (hk : kw ≠ kb) (s : Nm.St) (t : Tm) (ho : s.e = 0 → DoneOk t) : CallC Tryz.prog 166 [.p kw 0, .ag (eTm t)] (wkR kw kb s) (wkR kw kb (Nm.done (t, s)).2) (.tu [.ag (eTm (Nm.done (t, s)).1), .v (.int .i64 (Nm.done (t, s)).2.e)]) := by
  have h := (done_d s t ho).ren (ren2 kw kb) (by simp [renOk, wkE, D.ok, D.oks, rnames, inN, ckey, eTm_ok, eTms_ok, eTys_ok]) (by
    intro k h1 k' h2
    simp [rnames, wkE] at h1 h2
    rcases h1 with rfl | rfl <;> rcases h2 with rfl | rfl <;> simp [ren2, hk, hk.symm])
  simpa [D.ren, D.rens, eTm_ren, eTms_ren, wkE, wkR, renE, Key.ren, ren2] using h
theorem Put_d (t : Tm) (xs : List Tm) (left : Int) (dry : Bool) (h0 : 0 ≤ left) (h1 : left ≤ 1000000000) (ht : Wide t) (hx : ∀ a ∈ xs, Wide a) (ho : (Nm.put 100001 t xs ⟨left, dry, 0, 0⟩).2.e = 0 → DoneOk (Nm.put 100001 t xs ⟨left, dry, 0, 0⟩).1) :
    CallC Tryz.prog 141 [.ag (eTm t), .o 1, .sl 4 (eTms xs) none] [(.o 1, .ob (BudJ left dry))] [(.o 1, .ob (BudJ (Nm.Put t xs left dry).2.left (Nm.Put t xs left dry).2.dry))] (.tu [.ag (eTm (Nm.Put t xs left dry).1), .v (.int .i64 (Nm.Put t xs left dry).2.e)]) := by
  have hput := put_at 9 1 (by decide) ⟨left, dry, 0, 0⟩ ⟨⟨h0, h1⟩, ⟨Int.le_refl 0, (by decide : (0 : Int) ≤ 100001)⟩, fun _ => (by decide : (0 : Int) ≤ 100000)⟩ t xs ht hx
  obtain ⟨q, hq⟩ : ∃ q, Nm.put 100001 t xs ⟨left, dry, 0, 0⟩ = q := ⟨_, rfl⟩
  have hP : Nm.Put t xs left dry = Nm.done (q.1, q.2) := by rw [← hq]; rfl
  rw [hq] at hput ho
  rw [hP]
  have hdone := done_at 9 1 (by decide) q.2 q.1 ho
  clear hP hq
  obtain ⟨qt, qs⟩ := q
  dsimp only at hput hdone ⊢
  obtain ⟨r, hr⟩ : ∃ r, Nm.done (qt, qs) = r := ⟨_, rfl⟩
  rw [hr] at hdone ⊢
  clear hr ho
  obtain ⟨rt, rs⟩ := r
  dsimp only at hdone ⊢
  rw [eTm_eq] at hput
  rw [eTm_eq, eTm_eq rt] at hdone
  rw [eTm_eq rt]
  rw [eTm_eq] at hput
  rw [eTm_eq]
  refine call_of_dw 2 23 [ResultVar.cell 6 52, ResultVar.tmp 7] TN3_ok (by kernel_rfl) Tryz.func141 rfl Tryz.ntmps141 rfl (by simp) ?dwords ?dbody
  case dwords => simp [wordsOk, D.ok, D.oks, rnames, inN, ckey, eTm_ok, eTms_ok, eTys_ok]
  case dbody =>
    intro cx hnt hn0
    refine dw_seq ?_
    refine dw_k [] TN3_ok (by kernel_rfl) hnt (by kernel_rfl) (by simp; rfl) ?_
    intro K hK
    refine hK _ _ ?_
    clear hK K
    refine dw_seq (dw_seq ?_)
    refine dw_k [] TN3_ok (by kernel_rfl) hnt (by kernel_rfl) (by simp; rfl) ?_
    intro K hK
    refine hK _ _ ?_
    clear hK K
    refine dw_cond (t := false) rfl ?_
    rw [if_neg (by simp)]
    refine dw_skip ?_
    refine dw_seq ?_
    refine dw_k [] TN3_ok (by kernel_rfl) hnt (by kernel_rfl) (by simp; rfl) ?_
    intro K hK
    refine hK _ _ ?_
    clear hK K
    refine dw_seq ?_
    refine dw_k [] TN3_ok (by kernel_rfl) hnt (by kernel_rfl) (by simp; rfl) ?_
    intro K hK
    refine ⟨_, _, _, Or.inl (hput), by repeat first | exact trivial | refine And.intro ⟨rfl, rfl⟩ ?_, ?_⟩
    refine ⟨_, _, _, Or.inl (hdone), by repeat first | exact trivial | refine And.intro ⟨rfl, rfl⟩ ?_, ?_⟩
    refine hK _ _ ?_
    clear hK K
    refine dw_ret ?_
    exact retv (N := 0) (.inr rfl) rfl (by repeat first | exact VLe.refl _ | exact VLe.nil _ | exact VLe.untag _ _ _ | refine VLe.ag ?_ | refine VLe.tu ?_ | refine VLeL.cons ?_ ?_ | exact VLeL.nil) (by repeat first | exact trivial | refine And.intro rfl ?_)
end Go.Proofs.YtiblklcfjakjmaaGreat

namespace Go.Proofs.YtiblklcfjakjmaaGreat
open Go.RowKit
def TS1_3 : TI := ⟨1, false, [Value.int IntKind.i64 0], [], none, 8, 2, none, false⟩
theorem TS1_3_ok : TypOk Tryz.prog 3 TS1_3 := ⟨by kernel_rfl, by kernel_rfl, by kernel_rfl, by kernel_rfl, by kernel_rfl⟩
def TS1_99 : TI := ⟨5, true, [Value.int IntKind.i64 0, Value.slice none 0 0, Value.int IntKind.i64 0, Value.int IntKind.i64 0, Value.slice none 0 0], [(0, 1, false), (1, 4, true)], none, 72, 6, none, false⟩
theorem TS1_99_ok : TypOk Tryz.prog 99 TS1_99 := ⟨by kernel_rfl, by kernel_rfl, by kernel_rfl, by kernel_rfl, by kernel_rfl⟩
def TS1_30 : TI := ⟨1, false, [Value.slice none 0 0], [], some 99, 24, 5, none, false⟩
theorem TS1_30_ok : TypOk Tryz.prog 30 TS1_30 := ⟨by kernel_rfl, by kernel_rfl, by kernel_rfl, by kernel_rfl, by kernel_rfl⟩
def TS1_121 : TI := ⟨1, false, [Value.nilFunc], [], none, 8, 8, none, false⟩
theorem TS1_121_ok : TypOk Tryz.prog 121 TS1_121 := ⟨by kernel_rfl, by kernel_rfl, by kernel_rfl, by kernel_rfl, by kernel_rfl⟩
def TS1 : List (Nat × TI) := [(3, TS1_3), (99, TS1_99), (30, TS1_30), (121, TS1_121)]
theorem TS1_ok : TabOk Tryz.prog TS1 := (((((TabOk.nil _).cons TS1_121_ok).cons TS1_30_ok).cons TS1_99_ok).cons TS1_3_ok)

def ePair (p : Int × Tm) : List D := .v (.int .i64 p.1) :: eTm p.2
def ePairs (l : List (Int × Tm)) : List (List D) := l.map ePair
theorem ePair_eq (p : Int × Tm) : ePair p = [.v (.int .i64 p.1), .sl 2 (eTys p.2.binds) none, .v (.int .i64 p.2.kind), .v (.int .i64 p.2.index), .sl 4 (eTms p.2.args) none] := by unfold ePair; rw [eTm_eq]
theorem ePairs_len (l : List (Int × Tm)) : (ePairs l).length = l.length := List.length_map ..
theorem ePairs_getD (l : List (Int × Tm)) (i : Nat) (h : i < l.length) : (ePairs l).getD i [] = ePair l[i] := by
  rw [ePairs, List.getD_eq_getElem?_getD, List.getElem?_map, List.getElem?_eq_getElem h]; rfl
theorem ePair_ok (f g : Nat → Bool) (p : Int × Tm) : D.oks f g (ePair p) = true := by simp [ePair, D.oks, D.ok, eTm_ok]
theorem ePairs_ok (f g : Nat → Bool) (l : List (Int × Tm)) : D.okss f g (ePairs l) = true := D.okss_map ePair l fun p _ => ePair_ok f g p
theorem ePairs_ren (ρ : Nat → Nat) (l : List (Int × Tm)) : D.renss ρ (ePairs l) = ePairs l := D.renss_id (f := fun _ => false) (g := fun _ => false) (fun _ h => by cases h) _ (ePairs_ok _ _ l)
def cmpI (a b : Int) : Int := if a < b then -1 else if b < a then 1 else 0

theorem isNaN_d (a : Int) : PureC Tryz.prog 132 [.v (.int .i64 a)] (.v (.bool false)) := by
  refine call_of_dw 0 6 [ResultVar.tmp 2] TS1_ok (by kernel_rfl) Tryz.func132 rfl Tryz.ntmps132 rfl (by simp) ?dwords ?dbody
  case dwords => simp [wordsOk, D.ok, D.oks, rnames]
  case dbody =>
    intro cx hnt hn0
    refine dw_seq ?_
    refine dw_k [] TS1_ok (by kernel_rfl) hnt (by kernel_rfl) (by simp; rfl) ?_
    intro K hK
    refine hK _ _ ?_
    clear hK K
    refine dw_seq ?_
    refine dw_k [(5, .v (.bool false))] TS1_ok (by kernel_rfl) hnt (by kernel_rfl) (by simp; rfl) ?_
    intro K hK
    refine And.intro (VLe.of_eq (by simp)) ?_
    refine hK _ _ ?_
    clear hK K
    refine dw_ret ?_
    exact retv (N := 0) (.inr rfl) rfl (VLe.refl _) trivial
theorem compare_d (a b : Int) : PureC Tryz.prog 107 [.v (.int .i64 a), .v (.int .i64 b)] (.v (.int .i64 (cmpI a b))) := by
  refine call_of_dw 0 20 [ResultVar.tmp 4] TS1_ok (by kernel_rfl) Tryz.func107 rfl Tryz.ntmps107 rfl (by simp) ?dwords ?dbody
  case dwords => simp [wordsOk, D.ok, D.oks, rnames]
  case dbody =>
    intro cx hnt hn0
    refine dw_seq ?_
    refine dw_k [] TS1_ok (by kernel_rfl) hnt (by kernel_rfl) (by simp; rfl) ?_
    intro K hK
    refine hK _ _ ?_
    clear hK K
    refine dw_seq ?_
    refine dw_k [] TS1_ok (by kernel_rfl) hnt (by kernel_rfl) (by simp; rfl) ?_
    intro K hK
    refine ⟨_, _, _, Or.inl (isNaN_d a), by repeat first | exact trivial | refine And.intro ⟨rfl, rfl⟩ ?_, ?_⟩
    refine hK _ _ ?_
    clear hK K
    refine dw_seq ?_
    refine dw_k [] TS1_ok (by kernel_rfl) hnt (by kernel_rfl) (by simp; rfl) ?_
    intro K hK
    refine ⟨_, _, _, Or.inl (isNaN_d b), by repeat first | exact trivial | refine And.intro ⟨rfl, rfl⟩ ?_, ?_⟩
    refine hK _ _ ?_
    clear hK K
    refine dw_seq (dw_seq ?_)
    refine dw_k [] TS1_ok (by kernel_rfl) hnt (by kernel_rfl) (by simp; rfl) ?_
    intro K hK
    refine hK _ _ ?_
    clear hK K
    refine dw_cond (t := false) rfl ?_
    rw [if_neg (by simp)]
    refine dw_skip ?_
    refine dw_seq (dw_seq ?_)
    refine dw_k [] TS1_ok (by kernel_rfl) hnt (by kernel_rfl) (by simp; rfl) ?_
    intro K hK
    refine hK _ _ ?_
    clear hK K
    refine dw_cond (t := false) rfl ?_
    rw [if_neg (by simp)]
    refine dw_skip ?_
    refine dw_seq (dw_seq ?_)
    by_cases h1 : a < b
    · have hc : cmpI a b = -1 := if_pos h1
      rw [hc]
      refine dw_k [(16, .v (.bool true))] TS1_ok (by kernel_rfl) hnt (by kernel_rfl) (by simp; rfl) ?_
      intro K hK
      refine And.intro (dtrue h1) ?_
      refine hK _ _ ?_
      clear hK K
      refine dw_cond (t := true) rfl ?_
      rw [if_pos rfl]
      refine dw_seq ?_
      refine dw_k [] TS1_ok (by kernel_rfl) hnt (by kernel_rfl) (by simp; rfl) ?_
      intro K hK
      refine hK _ _ ?_
      clear hK K
      refine dw_ret ?_
      exact retv (N := 0) (.inr rfl) rfl (VLe.refl _) trivial
    · skip
      refine dw_k [(16, .v (.bool false))] TS1_ok (by kernel_rfl) hnt (by kernel_rfl) (by simp; rfl) ?_
      intro K hK
      refine And.intro (dfalse h1) ?_
      refine hK _ _ ?_
      clear hK K
      refine dw_cond (t := false) rfl ?_
      rw [if_neg (by simp)]
      refine dw_skip ?_
      refine dw_seq (dw_seq ?_)
      by_cases h2 : b < a
      · have hc : cmpI a b = 1 := by unfold cmpI; rw [if_neg h1, if_pos h2]
        rw [hc]
        refine dw_k [(19, .v (.bool true))] TS1_ok (by kernel_rfl) hnt (by kernel_rfl) (by simp; rfl) ?_
        intro K hK
        refine And.intro (dtrue h2) ?_
        refine hK _ _ ?_
        clear hK K
        refine dw_cond (t := true) rfl ?_
        rw [if_pos rfl]
        refine dw_seq ?_
        refine dw_k [] TS1_ok (by kernel_rfl) hnt (by kernel_rfl) (by simp; rfl) ?_
        intro K hK
        refine hK _ _ ?_
        clear hK K
        refine dw_ret ?_
        exact retv (N := 0) (.inr rfl) rfl (VLe.refl _) trivial
      · have hc : cmpI a b = 0 := by unfold cmpI; rw [if_neg h1, if_neg h2]
        rw [hc]
        refine dw_k [(19, .v (.bool false))] TS1_ok (by kernel_rfl) hnt (by kernel_rfl) (by simp; rfl) ?_
        intro K hK
        refine And.intro (dfalse h2) ?_
        refine hK _ _ ?_
        clear hK K
        refine dw_cond (t := false) rfl ?_
        rw [if_neg (by simp)]
        refine dw_skip ?_
        refine dw_seq ?_
        refine dw_k [] TS1_ok (by kernel_rfl) hnt (by kernel_rfl) (by simp; rfl) ?_
        intro K hK
        refine hK _ _ ?_
        clear hK K
        refine dw_ret ?_
        exact retv (N := 0) (.inr rfl) rfl (VLe.refl _) trivial
theorem sorder_d (p q : Int × Tm) : PureC Tryz.prog 63 [.ag (ePair p), .ag (ePair q)] (.v (.int .i64 (cmpI p.1 q.1))) := by
  rw [ePair_eq, ePair_eq]
  refine call_of_dw 0 10 [ResultVar.tmp 4] TS1_ok (by kernel_rfl) Tryz.func63 rfl Tryz.ntmps63 rfl (by simp) ?dwords ?dbody
  case dwords => simp [wordsOk, D.ok, D.oks, rnames, eTms_ok, eTys_ok]
  case dbody =>
    intro cx hnt hn0
    refine dw_seq ?_
    refine dw_k [] TS1_ok (by kernel_rfl) hnt (by kernel_rfl) (by simp; rfl) ?_
    intro K hK
    refine hK _ _ ?_
    clear hK K
    refine dw_seq ?_
    refine dw_k [] TS1_ok (by kernel_rfl) hnt (by kernel_rfl) (by simp; rfl) ?_
    intro K hK
    refine ⟨_, _, _, Or.inl (compare_d p.1 q.1), by repeat first | exact trivial | refine And.intro ⟨rfl, rfl⟩ ?_, ?_⟩
    refine hK _ _ ?_
    clear hK K
    refine dw_ret ?_
    exact retv (N := 0) (.inr rfl) rfl (VLe.refl _) trivial
theorem cmpI_ge {a b : Int} : 0 ≤ cmpI a b ↔ ¬ a < b := by
  unfold cmpI
  split
  · rename_i h; simp [h]
  · rename_i h; split <;> simp [h]
theorem right_of {l : List (Int × Tm)} (h : ∀ i (_ : 0 < i) (h2 : i < l.length), (l[i - 1]'(by omega)).1 < l[i].1) : Sb.right l = true := by
  unfold Sb.right
  rw [decide_eq_true_eq, List.pairwise_iff_getElem]
  intro i j hi hj hij
  have key : ∀ d, ∀ i j (hi : i < l.length) (hj : j < l.length), j = i + d + 1 → l[i].1 < l[j].1 := by
    intro d
    induction d with
    | zero => intro i j hi hj e; subst e; have := h (i + 0 + 1) (by omega) hj; simpa using this
    | succ d ih =>
      intro i j hi hj e
      have h1 := ih i (j - 1) hi (by omega) (by omega)
      have h2 := h j (by omega) hj
      omega
  exact key (j - i - 1) i j hi hj (by omega)
theorem not_right {l : List (Int × Tm)} {i : Nat} (h1 : 0 < i) (h2 : i < l.length) (h : ¬ (l[i - 1]'(by omega)).1 < l[i].1) : Sb.right l = false := by
  unfold Sb.right
  rw [decide_eq_false_iff_not, List.pairwise_iff_getElem]
  exact fun hp => h (hp (i - 1) i (by omega) h2 (by omega))
set_option maxHeartbeats 1000000 in
theorem sright_d (l : List (Int × Tm)) (hl : l.length ≤ 1000000) : PureC Tryz.prog 25 [.sl 5 (ePairs l) none] (.v (.bool (Sb.right l))) := by
  refine call_of_dw 0 21 [ResultVar.tmp 2] TS1_ok (by kernel_rfl) Tryz.func25 rfl Tryz.ntmps25 rfl (by simp) ?dwords ?dbody
  case dwords => simp [wordsOk, D.ok, D.oks, rnames, ePairs_ok]
  case dbody =>
    intro cx hnt hn0
    refine dw_seq ?_
    refine dw_k [] TS1_ok (by kernel_rfl) hnt (by kernel_rfl) (by simp; rfl) ?_
    intro K hK
    refine hK _ _ ?_
    clear hK K
    refine dw_seq (dw_seq ?_)
    refine dw_k [] TS1_ok (by kernel_rfl) hnt (by kernel_rfl) (by simp; rfl) ?_
    intro K hK
    refine hK _ _ ?_
    clear hK K
    refine dw_block ?_
    refine dw_loop (ι := { j : Nat // ∀ i (_ : 0 < i) (h2 : i < l.length), i < j + 1 → (l[i - 1]'(by omega)).1 < l[i].1 }) (fun j => [(.t 0, .sl 5 (ePairs l) none), (.t 3, .v (.int .i64 ((j.1 : Int) + 1)))]) 2 (fun j => l.length - j.1) ⟨0, fun i h1 h2 h3 => by omega⟩ (VS.toK (by first | omega | simp [hn0]) (by repeat first | exact trivial | refine And.intro (And.intro (by first | rfl | simp [D.ok, D.oks, D.okss, D.okm, eTm_ok, eTy_ok, eTys_ok, eTms_ok, upto, keyOk, ePairs_ok]) (by first | exact Or.inl rfl | exact Or.inr ⟨_, rfl, (by repeat first | exact VLe.refl _ | exact VLe.nil _ | exact VLe.untag _ _ _ | refine VLe.ag ?_ | refine VLe.tu ?_ | refine VLeL.cons ?_ ?_ | exact VLeL.nil), trivial⟩ | simp [get, Key.eq, ePairs_ok])) ?_)) fun j => ?_
    obtain ⟨j, hj⟩ := j
    dsimp only
    refine dw_seq (dw_seq ?_)
    by_cases hlt : j + 1 < l.length
    · have ho := sorder_d l[j] l[j + 1]
      rw [ePair_eq, ePair_eq] at ho
      refine dw_k [(7, .v (.bool true))] TS1_ok (by kernel_rfl) hnt (by kernel_rfl) (by simp; rfl) ?_
      intro K hK
      refine And.intro (dtrue (by rw [ePairs_len]; omega)) ?_
      refine hK _ _ ?_
      clear hK K
      refine dw_cond (t := true) rfl ?_
      rw [if_pos rfl]
      refine dw_skip ?_
      refine dw_seq (dw_block (dw_seq ?_))
      by_cases hc : l[j].1 < l[j + 1].1
      · skip
        refine dw_kD [(12, .v (.int .i64 (j : Int))), (13, .q [.v (.int .i64 l[j].1), .sl 2 (eTys l[j].2.binds) none, .v (.int .i64 l[j].2.kind), .v (.int .i64 l[j].2.index), .sl 4 (eTms l[j].2.args) none]), (17, .q [.v (.int .i64 l[j + 1].1), .sl 2 (eTys l[j + 1].2.binds) none, .v (.int .i64 l[j + 1].2.kind), .v (.int .i64 l[j + 1].2.index), .sl 4 (eTms l[j + 1].2.args) none]), (20, .v (.bool false))] TS1_ok (by kernel_rfl) hnt (by kernel_rfl) (by simp; rfl) ?_
        intro K hK
        refine And.intro (dintE (by rw [IntWalk.i64_in _ (by omega)]; omega)) ?_
        refine And.intro (⟨by omega, by rw [ePairs_len]; omega⟩) ?_
        refine And.intro (VLe.of_eq (by rw [Int.toNat_natCast, ePairs_getD l j (by omega), ePair_eq])) ?_
        refine And.intro (⟨by omega, by rw [ePairs_len]; omega⟩) ?_
        refine And.intro (VLe.of_eq (by rw [show ((j : Int) + 1).toNat = j + 1 by omega, ePairs_getD l (j + 1) hlt, ePair_eq])) ?_
        refine ⟨_, _, _, Or.inl (ho), by repeat first | exact trivial | refine And.intro ⟨rfl, rfl⟩ ?_, ?_⟩
        refine And.intro (VLe.of_eq (by simp [cmpI_ge, hc])) ?_
        refine hK _ _ (by kernel_rfl) ?_
        clear hK K
        refine dw_cond (t := false) rfl ?_
        rw [if_neg (by simp)]
        refine dw_skip ?_
        refine dw_k [(9, .v (.int .i64 (((j + 1 : Nat) : Int) + 1)))] TS1_ok (by kernel_rfl) hnt (by kernel_rfl) (by simp; rfl) ?_
        intro K hK
        refine And.intro (dintE (by rw [IntWalk.i64_in _ (by omega)]; omega)) ?_
        refine hK _ _ ?_
        clear hK K
        refine ⟨⟨j + 1, fun i h1 h2 h3 => ?_⟩, by dsimp only; omega, (VS.toK (by first | omega | simp [hn0]) (by repeat first | exact trivial | refine And.intro (And.intro (by first | rfl | simp [D.ok, D.oks, D.okss, D.okm, eTm_ok, eTy_ok, eTys_ok, eTms_ok, upto, keyOk, ePairs_ok]) (by first | exact Or.inl rfl | exact Or.inr ⟨_, rfl, (by repeat first | exact VLe.refl _ | exact VLe.nil _ | exact VLe.untag _ _ _ | refine VLe.ag ?_ | refine VLe.tu ?_ | refine VLeL.cons ?_ ?_ | exact VLeL.nil), trivial⟩ | simp [get, Key.eq, ePairs_ok])) ?_))⟩
        by_cases he : i = j + 1
        · subst he; simpa using hc
        · exact hj i h1 h2 (by omega)
      · have hr : Sb.right l = false := not_right (i := j + 1) (by omega) hlt (by simpa using hc)
        rw [hr]
        refine dw_kD [(12, .v (.int .i64 (j : Int))), (13, .q [.v (.int .i64 l[j].1), .sl 2 (eTys l[j].2.binds) none, .v (.int .i64 l[j].2.kind), .v (.int .i64 l[j].2.index), .sl 4 (eTms l[j].2.args) none]), (17, .q [.v (.int .i64 l[j + 1].1), .sl 2 (eTys l[j + 1].2.binds) none, .v (.int .i64 l[j + 1].2.kind), .v (.int .i64 l[j + 1].2.index), .sl 4 (eTms l[j + 1].2.args) none]), (20, .v (.bool true))] TS1_ok (by kernel_rfl) hnt (by kernel_rfl) (by simp; rfl) ?_
        intro K hK
        refine And.intro (dintE (by rw [IntWalk.i64_in _ (by omega)]; omega)) ?_
        refine And.intro (⟨by omega, by rw [ePairs_len]; omega⟩) ?_
        refine And.intro (VLe.of_eq (by rw [Int.toNat_natCast, ePairs_getD l j (by omega), ePair_eq])) ?_
        refine And.intro (⟨by omega, by rw [ePairs_len]; omega⟩) ?_
        refine And.intro (VLe.of_eq (by rw [show ((j : Int) + 1).toNat = j + 1 by omega, ePairs_getD l (j + 1) hlt, ePair_eq])) ?_
        refine ⟨_, _, _, Or.inl (ho), by repeat first | exact trivial | refine And.intro ⟨rfl, rfl⟩ ?_, ?_⟩
        refine And.intro (VLe.of_eq (by simp [cmpI_ge, hc])) ?_
        refine hK _ _ (by kernel_rfl) ?_
        clear hK K
        refine dw_cond (t := true) rfl ?_
        rw [if_pos rfl]
        refine dw_seq ?_
        refine dw_k [] TS1_ok (by kernel_rfl) hnt (by kernel_rfl) (by simp; rfl) ?_
        intro K hK
        refine hK _ _ ?_
        clear hK K
        refine dw_ret ?_
        exact retv (N := 0) (.inr rfl) rfl (VLe.refl _) trivial
    · have hr : Sb.right l = true := right_of fun i h1 h2 => hj i h1 h2 (by omega)
      rw [hr]
      refine dw_k [(7, .v (.bool false))] TS1_ok (by kernel_rfl) hnt (by kernel_rfl) (by simp; rfl) ?_
      intro K hK
      refine And.intro (dfalse (by rw [ePairs_len]; omega)) ?_
      refine hK _ _ ?_
      clear hK K
      refine dw_cond (t := false) rfl ?_
      rw [if_neg (by simp)]
      refine dw_exit ?_
      refine dw_seq ?_
      refine dw_k [] TS1_ok (by kernel_rfl) hnt (by kernel_rfl) (by simp; rfl) ?_
      intro K hK
      refine hK _ _ ?_
      clear hK K
      refine dw_ret ?_
      exact retv (N := 0) (.inr rfl) rfl (VLe.refl _) trivial

/-! to find a pair -/
theorem find1_d (p : Int × Tm) (m : Int) : CallC Tryz.prog 103 [.ag (ePair p), .p 0 0] [(.c 0 0, .v (.int .i64 m))] [(.c 0 0, .v (.int .i64 m))] (.v (.bool (decide (p.1 = m)))) := by
  rw [ePair_eq]
  refine call_of_dw 1 8 [ResultVar.tmp 3] TS1_ok (by kernel_rfl) Tryz.func103 rfl Tryz.ntmps103 rfl (by simp) ?dwords ?dbody
  case dwords => simp [wordsOk, D.ok, D.oks, rnames, inN, ckey, eTms_ok, eTys_ok]
  case dbody =>
    intro cx hnt hn0
    refine dw_seq ?_
    refine dw_k [] TS1_ok (by kernel_rfl) hnt (by kernel_rfl) (by simp; rfl) ?_
    intro K hK
    refine hK _ _ ?_
    clear hK K
    refine dw_seq ?_
    refine dw_k [(7, .v (.bool (decide (p.1 = m))))] TS1_ok (by kernel_rfl) hnt (by kernel_rfl) (by simp; rfl) ?_
    intro K hK
    refine And.intro (VLe.refl _) ?_
    refine hK _ _ ?_
    clear hK K
    refine dw_ret ?_
    exact retv (N := 0) (.inr rfl) rfl (VLe.refl _) (by repeat first | exact trivial | refine And.intro rfl ?_)
def idxOf (m : Int) : List (Int × Tm) → Option Nat
  | [] => none
  | p :: l => if p.1 = m then some 0 else (idxOf m l).map (· + 1)
theorem idxOf_some {m : Int} : ∀ {l : List (Int × Tm)} {i : Nat} (h : i < l.length), l[i].1 = m → (∀ j (h' : j < i), (l[j]'(by omega)).1 ≠ m) → idxOf m l = some i
  | p :: l, 0, h, h1, _ => by simp at h1; simp [idxOf, h1]
  | p :: l, i + 1, h, h1, h2 => by
    have h0 := h2 0 (by omega)
    simp at h0 h1
    rw [idxOf, if_neg h0, idxOf_some (i := i) (by simpa using h) h1 fun j h' => by simpa using h2 (j + 1) (by omega)]; rfl
theorem idxOf_none {m : Int} : ∀ {l : List (Int × Tm)}, (∀ j (h : j < l.length), l[j].1 ≠ m) → idxOf m l = none
  | [], _ => rfl
  | p :: l, h => by
    have h0 := h 0 (by simp)
    simp at h0
    rw [idxOf, if_neg h0, idxOf_none (l := l) fun j h' => h (j + 1) (by simpa using h')]; rfl
theorem idxOf_lt {m : Int} : ∀ {l : List (Int × Tm)} {i : Nat}, idxOf m l = some i → i < l.length
  | [], i, h => by cases h
  | p :: l, i, h => by
    rw [idxOf] at h
    split at h
    · cases h; simp
    · cases hx : idxOf m l with
      | none => rw [hx] at h; cases h
      | some j => rw [hx] at h; cases h; have := idxOf_lt hx; simpa using this
theorem find_idx (m : Int) : ∀ (l : List (Int × Tm)), Sb.find l m = (idxOf m l).bind fun i => (l[i]?).map (·.2)
  | [] => rfl
  | p :: l => by
    have ih := find_idx m l
    unfold Sb.find at ih ⊢
    rw [List.find?_cons, idxOf]
    by_cases h : p.1 = m
    · simp [h]
    · rw [if_neg h]
      simp only [beq_eq_false_iff_ne.2 h, ih]
      cases idxOf m l <;> simp
set_option maxHeartbeats 1000000 in
theorem indexFunc_d (l : List (Int × Tm)) (hl : l.length ≤ 1000000) (m : Int) : CallC Tryz.prog 102 [.sl 5 (ePairs l) none, .fn 103 [.p 0 0]] [(.c 0 0, .v (.int .i64 m))] [(.c 0 0, .v (.int .i64 m))] (.v (.int .i64 (match idxOf m l with | some i => (i : Int) | none => -1))) := by
  refine call_of_dw 1 19 [ResultVar.tmp 4] TS1_ok (by kernel_rfl) Tryz.func102 rfl Tryz.ntmps102 rfl (by simp) ?dwords ?dbody
  case dwords => simp [wordsOk, D.ok, D.oks, rnames, inN, ckey, ePairs_ok]
  case dbody =>
    intro cx hnt hn0
    refine dw_seq ?_
    refine dw_k [] TS1_ok (by kernel_rfl) hnt (by kernel_rfl) (by simp; rfl) ?_
    intro K hK
    refine hK _ _ ?_
    clear hK K
    refine dw_seq (dw_seq ?_)
    refine dw_k [(7, .v (.int .i64 l.length))] TS1_ok (by kernel_rfl) hnt (by kernel_rfl) (by simp; rfl) ?_
    intro K hK
    refine And.intro (dintE (by rw [ePairs_len])) ?_
    refine hK _ _ ?_
    clear hK K
    refine dw_block ?_
    refine dw_loop (ι := { j : Nat // ∀ i (h : i < l.length), i < j → l[i].1 ≠ m }) (fun j => [(.t 0, .sl 5 (ePairs l) none), (.t 1, .fn 103 [.p 0 0]), (.t 7, .v (.int .i64 l.length)), (.t 8, .v (.int .i64 (j.1 : Int))), (.c 0 0, .v (.int .i64 m))]) 2 (fun j => l.length - j.1) ⟨0, fun i h1 h2 => by omega⟩ (VS.toK (by first | omega | simp [hn0]) (by repeat first | exact trivial | refine And.intro (And.intro (by first | rfl | simp [D.ok, D.oks, D.okss, D.okm, eTm_ok, eTy_ok, eTys_ok, eTms_ok, upto, keyOk, ePairs_ok]) (by first | exact Or.inl rfl | exact Or.inr ⟨_, rfl, (by repeat first | exact VLe.refl _ | exact VLe.nil _ | exact VLe.untag _ _ _ | refine VLe.ag ?_ | refine VLe.tu ?_ | refine VLeL.cons ?_ ?_ | exact VLeL.nil), trivial⟩ | simp [get, Key.eq, ePairs_ok])) ?_)) fun j => ?_
    obtain ⟨j, hj⟩ := j
    dsimp only
    refine dw_seq ?_
    by_cases hlt : j < l.length
    · have hf := find1_d l[j] m
      rw [ePair_eq] at hf
      refine dw_k [(9, .v (.bool true))] TS1_ok (by kernel_rfl) hnt (by kernel_rfl) (by simp; rfl) ?_
      intro K hK
      refine And.intro (dtrue (by omega)) ?_
      refine hK _ _ ?_
      clear hK K
      refine dw_seq (dw_cond (t := true) rfl ?_)
      rw [if_pos rfl]
      refine dw_skip (dw_seq (dw_block (dw_seq ?_)))
      refine dw_k [] TS1_ok (by kernel_rfl) hnt (by kernel_rfl) (by simp; rfl) ?_
      intro K hK
      refine hK _ _ ?_
      clear hK K
      refine dw_seq ?_
      by_cases he : l[j].1 = m
      · have hi : idxOf m l = some j := idxOf_some hlt he fun i h => hj i (by omega) h
        rw [hi]
        refine dw_k [(14, .q [.v (.int .i64 l[j].1), .sl 2 (eTys l[j].2.binds) none, .v (.int .i64 l[j].2.kind), .v (.int .i64 l[j].2.index), .sl 4 (eTms l[j].2.args) none]), (16, .v (.bool true))] TS1_ok (by kernel_rfl) hnt (by kernel_rfl) (by simp; rfl) ?_
        intro K hK
        refine And.intro (⟨by omega, by rw [ePairs_len]; omega⟩) ?_
        refine And.intro (VLe.of_eq (by rw [Int.toNat_natCast, ePairs_getD l j (by omega), ePair_eq])) ?_
        refine ⟨_, _, _, Or.inl (hf), by repeat first | exact trivial | refine And.intro ⟨rfl, rfl⟩ ?_, ?_⟩
        refine And.intro (dtrue he) ?_
        refine hK _ _ ?_
        clear hK K
        refine dw_cond (t := true) rfl ?_
        rw [if_pos rfl]
        refine dw_seq ?_
        refine dw_k [] TS1_ok (by kernel_rfl) hnt (by kernel_rfl) (by simp; rfl) ?_
        intro K hK
        refine hK _ _ ?_
        clear hK K
        refine dw_ret ?_
        exact retv (N := 0) (.inr rfl) rfl (VLe.refl _) (by repeat first | exact trivial | refine And.intro rfl ?_)
      · skip
        refine dw_k [(14, .q [.v (.int .i64 l[j].1), .sl 2 (eTys l[j].2.binds) none, .v (.int .i64 l[j].2.kind), .v (.int .i64 l[j].2.index), .sl 4 (eTms l[j].2.args) none]), (16, .v (.bool false))] TS1_ok (by kernel_rfl) hnt (by kernel_rfl) (by simp; rfl) ?_
        intro K hK
        refine And.intro (⟨by omega, by rw [ePairs_len]; omega⟩) ?_
        refine And.intro (VLe.of_eq (by rw [Int.toNat_natCast, ePairs_getD l j (by omega), ePair_eq])) ?_
        refine ⟨_, _, _, Or.inl (hf), by repeat first | exact trivial | refine And.intro ⟨rfl, rfl⟩ ?_, ?_⟩
        refine And.intro (dfalse he) ?_
        refine hK _ _ ?_
        clear hK K
        refine dw_cond (t := false) rfl ?_
        rw [if_neg (by simp)]
        refine dw_skip ?_
        refine dw_k [(18, .v (.int .i64 ((j + 1 : Nat) : Int)))] TS1_ok (by kernel_rfl) hnt (by kernel_rfl) (by simp; rfl) ?_
        intro K hK
        refine And.intro (dintE (by rw [IntWalk.i64_in _ (by omega)]; omega)) ?_
        refine hK _ _ ?_
        clear hK K
        refine ⟨⟨j + 1, fun i h1 h3 => ?_⟩, by dsimp only; omega, (VS.toK (by first | omega | simp [hn0]) (by repeat first | exact trivial | refine And.intro (And.intro (by first | rfl | simp [D.ok, D.oks, D.okss, D.okm, eTm_ok, eTy_ok, eTys_ok, eTms_ok, upto, keyOk, ePairs_ok]) (by first | exact Or.inl rfl | exact Or.inr ⟨_, rfl, (by repeat first | exact VLe.refl _ | exact VLe.nil _ | exact VLe.untag _ _ _ | refine VLe.ag ?_ | refine VLe.tu ?_ | refine VLeL.cons ?_ ?_ | exact VLeL.nil), trivial⟩ | simp [get, Key.eq, ePairs_ok])) ?_))⟩
        by_cases he2 : i = j
        · subst he2; exact he
        · exact hj i h1 (by omega)
    · have hi : idxOf m l = none := idxOf_none fun i h => hj i h (by omega)
      rw [hi]
      refine dw_k [(9, .v (.bool false))] TS1_ok (by kernel_rfl) hnt (by kernel_rfl) (by simp; rfl) ?_
      intro K hK
      refine And.intro (dfalse (by omega)) ?_
      refine hK _ _ ?_
      clear hK K
      refine dw_seq (dw_cond (t := false) rfl ?_)
      rw [if_neg (by simp)]
      refine dw_exit ?_
      refine dw_seq ?_
      refine dw_k [] TS1_ok (by kernel_rfl) hnt (by kernel_rfl) (by simp; rfl) ?_
      intro K hK
      refine hK _ _ ?_
      clear hK K
      refine dw_ret ?_
      exact retv (N := 0) (.inr rfl) rfl (VLe.refl _) (by repeat first | exact trivial | refine And.intro rfl ?_)
theorem indexFunc_at (k : Nat) (l : List (Int × Tm)) (hl : l.length ≤ 1000000) (m : Int) : CallC Tryz.prog 102 [.sl 5 (ePairs l) none, .fn 103 [.p k 0]] [(.c k 0, .v (.int .i64 m))] [(.c k 0, .v (.int .i64 m))] (.v (.int .i64 (match idxOf m l with | some i => (i : Int) | none => -1))) := by
  have h := (indexFunc_d l hl m).ren (fun _ => k) (by simp [renOk, D.ok, D.oks, rnames, inN, ckey, ePairs_ok]) (by
    intro k h1 k' h2 _
    simp [rnames] at h1 h2
    rw [h1, h2])
  simpa [D.ren, D.rens, ePairs_ren, renE, Key.ren] using h
theorem sfind_d (l : List (Int × Tm)) (hl : l.length ≤ 1000000) (m : Int) : PureC Tryz.prog 60 [.sl 5 (ePairs l) none, .v (.int .i64 m)] (match (idxOf m l).bind fun i => l[i]? with | some p => .q (ePair p) | none => .v (.pointer none)) := by
  have hi := indexFunc_at 0 l hl m
  refine call_of_dw 0 14 [ResultVar.tmp 4] TS1_ok (by kernel_rfl) Tryz.func60 rfl Tryz.ntmps60 rfl (by simp) ?dwords ?dbody
  case dwords => (cases (idxOf m l).bind fun i => l[i]?) <;> simp [wordsOk, D.ok, D.oks, rnames, inN, ckey, ePairs_ok, ePair_ok]
  case dbody =>
    intro cx hnt hn0
    refine dw_seq ?_
    refine dw_k [] TS1_ok (by kernel_rfl) hnt (by kernel_rfl) (by simp; rfl) ?_
    intro K hK
    refine hK _ _ ?_
    clear hK K
    refine dw_seq ?_
    refine dw_k [] TS1_ok (by kernel_rfl) hnt (by kernel_rfl) (by simp; rfl) ?_
    intro K hK
    refine ⟨_, _, _, Or.inl (hi), by repeat first | exact trivial | refine And.intro ⟨rfl, rfl⟩ ?_, ?_⟩
    refine hK _ _ ?_
    clear hK K
    refine dw_seq (dw_seq ?_)
    cases hx : idxOf m l with
    | none =>
      refine dw_k [(10, .v (.bool true))] TS1_ok (by kernel_rfl) hnt (by kernel_rfl) (by simp; rfl) ?_
      intro K hK
      refine And.intro (VLe.of_eq (by rfl)) ?_
      refine hK _ _ ?_
      clear hK K
      refine dw_cond (t := true) rfl ?_
      rw [if_pos rfl]
      refine dw_seq ?_
      refine dw_k [] TS1_ok (by kernel_rfl) hnt (by kernel_rfl) (by simp; rfl) ?_
      intro K hK
      refine hK _ _ ?_
      clear hK K
      refine dw_ret ?_
      exact retv (N := 0) (.inr rfl) rfl (VLe.refl _) trivial
    | some i =>
      have hlt : i < l.length := idxOf_lt hx
      simp only [Option.bind_some, List.getElem?_eq_getElem hlt]
      refine dw_k [(10, .v (.bool false))] TS1_ok (by kernel_rfl) hnt (by kernel_rfl) (by simp; rfl) ?_
      intro K hK
      refine And.intro (dfalse (by omega)) ?_
      refine hK _ _ ?_
      clear hK K
      refine dw_cond (t := false) rfl ?_
      rw [if_neg (by simp)]
      refine dw_skip ?_
      refine dw_seq ?_
      refine dw_k [(13, .q (ePair l[i]))] TS1_ok (by kernel_rfl) hnt (by kernel_rfl) (by simp; rfl) ?_
      intro K hK
      refine And.intro (⟨by omega, by rw [ePairs_len]; omega⟩) ?_
      refine And.intro (VLe.of_eq (by rw [Int.toNat_natCast, ePairs_getD l i hlt])) ?_
      refine hK _ _ ?_
      clear hK K
      refine dw_ret ?_
      exact retv (N := 0) (.inr rfl) rfl (VLe.refl _) trivial
end Go.Proofs.YtiblklcfjakjmaaGreat

namespace Go.Proofs.YtiblklcfjakjmaaGreat
open Go.RowKit Go.ChangeShapes Go.WideShapes Go.ChangeAt

def rpPr : Rp (Int × Tm) where
  n := 5
  R := fun F w x p => ∃ b k i a, x = [.int .i64 p.1, b, k, i, a] ∧ IsTm F w b k i a p.2
  len := fun ⟨_, _, _, _, e, _⟩ => by rw [e]; rfl
  one := fun ⟨b, k, i, a, e, h⟩ v hv => by
    have h1 := rpTm.one (F := _) (w := _) (x := [b, k, i, a]) (a := _) ⟨b, k, i, a, rfl, h⟩
    rw [e] at hv
    rcases List.mem_cons.1 hv with rfl | hv
    · rfl
    · exact h1 v hv
  keep := fun ⟨b, k, i, a, e, h⟩ hk => ⟨b, k, i, a, e, h.keep hk⟩
  weaken := fun ⟨b, k, i, a, e, h⟩ hf => ⟨b, k, i, a, e, h.weaken hf⟩
theorem cellsPair : Tryz.prog.cellsOf 63 = 5 := by kernel_rfl
theorem five_of {α : Type} {cs : List α} (h : cs.length = 5) : ∃ a b c d e, cs = [a, b, c, d, e] := by
  match cs, h with
  | [a, b, c, d, e], _ => exact ⟨a, b, c, d, e, rfl⟩
theorem rdPr {H : Type} (enc : TypeId × Value → H) (W : World) (base : Nat) (sp : Nat → Bool) (hd : Bool) : ∀ n, Rd enc W base sp hd 63 rpPr (fun _ p => p.2.Fit ∧ -9223372036854775808 ≤ p.1 ∧ p.1 ≤ 9223372036854775807) n := by
  intro n cs x h
  obtain ⟨xs, m, rfl, rfl, hl, hlen, hf⟩ := DataW.trod_struct Tryz.underlying63 h
  rw [cellsPair] at hl
  obtain ⟨v0, v1, v2, v3, v4, rfl⟩ := five_of hl
  have h0 : DataW.trod enc Tryz.prog W base sp hd m 3 ([v0, v1, v2, v3, v4].take (Tryz.prog.cellsOf 3)) = xs[0]? := hf 0 _ rfl
  have h1 : DataW.trod enc Tryz.prog W base sp hd m 47 ([v1, v2, v3, v4].take (Tryz.prog.cellsOf 47)) = xs[1]? := hf 1 _ rfl
  rw [cellsInt] at h0
  rw [cellsTerm] at h1
  have hlen : xs.length = 2 := hlen
  rw [List.getElem?_eq_getElem (by omega)] at h0 h1
  obtain ⟨i, hi, _, hw⟩ := DataW.trod_int Tryz.underlying3 h0
  have e0 : [v0] = [.int .i64 i] := hi
  simp only [List.cons.injEq, and_true] at e0
  subst e0
  obtain ⟨t, ⟨b, k, j, a, hx, ht⟩, hfit⟩ := rdM enc W base sp hd m _ _ h1
  have e1 : [v1, v2, v3, v4] = [b, k, j, a] := hx
  simp only [List.cons.injEq, and_true] at e1
  obtain ⟨rfl, rfl, rfl, rfl⟩ := e1
  exact ⟨(i, t), ⟨_, _, _, _, rfl, ht⟩, hfit, wf_i64 hw⟩
theorem mem_of_idx {α H : Type} {l : List α} {d : DataW H} {Q : α → Prop} (h : ∀ i (h : i < l.length), ∃ x es spare, d = .slice es spare ∧ x ∈ es ∧ Q l[i]) : ∀ p ∈ l, Q p := fun p hp => by
  obtain ⟨i, hi, rfl⟩ := List.getElem_of_mem hp
  obtain ⟨_, _, _, _, _, h⟩ := h i hi
  exact h
theorem IsSl.len1 {α : Type} {r : Rp α} {F : Nat → Prop} {w : World} {v : Value} {l : List α} (h : IsSl r F w v l) : l.length ≤ 9223372036854775807 := by
  obtain ⟨a, c, bl, off, X, _, h1, _⟩ := h
  have : maxLen = 9223372036854775807 := rfl
  omega
section
variable {m : Mp} {w : World} {F : Nat → Prop}
theorem relPairs {v : Value} {l : List (Int × Tm)} (h : IsSl rpPr F w v l) : Rel m (cellI F w) w v (.sl 5 (ePairs l) none) :=
  rel_of_sl (r := rpPr) (e := ePair) cellI_of (fun p => by rw [ePair_eq]; rfl) (fun x p hx => by
    obtain ⟨b, k, i, a, rfl, ht⟩ := hx
    exact ⟨.v _, rel_of_tm cellI_of p.2 ht⟩) h
theorem relTmA {b k i a : Value} {t : Tm} (h : IsTm F w b k i a t) : Rel m (cellI F w) w (.agg #[b, k, i, a]) (.ag (eTm t)) := rel_ag.2 ⟨[b, k, i, a], rfl, rel_of_tm cellI_of t h⟩
end
theorem row_of_pure {f : FuncId} {ds : List D} (h : PureC Tryz.prog f ds (.v (.bool true))) {w : World} {vs : List Value} (hv : RelL m00 (cellI (fun _ => True) w) w vs ds) :
    Calls Tryz.prog f vs.toArray w fun e w' => e = .returned (.bool true) ∧ Below w.heap.size w w' := by
  refine (calls_of_pure h cellI_ok hv).mono ?_
  rintro e w' ⟨v, Im', rfl, h1, h2, _⟩
  have := rel_v.1 h2; subst this
  exact ⟨rfl, h1⟩
end Go.Proofs.YtiblklcfjakjmaaGreat

namespace Go.Proofs.YtiblklcfjakjmaaGreat
open Go.RowKit Go.ChangeShapes Go.WideShapes Go.ChangeAt
section
variable {H : Type} {enc : TypeId × Value → H} {P : Program} {w : World} {base : Nat} {spare : Nat → Bool} {held : Bool}
theorem trodAll_five {t0 t1 t2 t3 t4 : TypeId} {args : Array Value} {ds : List (DataW H)} {ps : List MemPlace} (h : DataW.TrodAll enc P w base spare held [t0, t1, t2, t3, t4] args.toList ds ps) :
    ∃ v0 v1 v2 v3 v4 d0 d1 d2 d3 d4 p0 p1 p2 p3 p4, args = #[v0, v1, v2, v3, v4] ∧ ds = [d0, d1, d2, d3, d4] ∧ ps = p0 ++ p1 ++ p2 ++ p3 ++ p4 ∧ DataW.Trod enc P w base spare held t0 v0 d0 p0 ∧ DataW.Trod enc P w base spare held t1 v1 d1 p1 ∧
      DataW.Trod enc P w base spare held t2 v2 d2 p2 ∧ DataW.Trod enc P w base spare held t3 v3 d3 p3 ∧ DataW.Trod enc P w base spare held t4 v4 d4 p4 := by
  obtain ⟨v0, a0, d0, e0, p0, q0, hargs, rfl, rfl, g0, h⟩ := trodAll_cons h
  obtain ⟨v1, a1, d1, e1, p1, q1, rfl, rfl, rfl, g1, h⟩ := trodAll_cons h
  obtain ⟨v2, a2, d2, e2, p2, q2, rfl, rfl, rfl, g2, h⟩ := trodAll_cons h
  obtain ⟨v3, a3, d3, e3, p3, q3, rfl, rfl, rfl, g3, h⟩ := trodAll_cons h
  obtain ⟨v4, a4, d4, e4, p4, q4, rfl, rfl, rfl, g4, h⟩ := trodAll_cons h
  obtain ⟨rfl, rfl, rfl⟩ := trodAll_nil h
  exact ⟨v0, v1, v2, v3, v4, d0, d1, d2, d3, d4, p0, p1, p2, p3, p4, by cases args; simp_all, rfl, by simp, g0, g1, g2, g3, g4⟩
end
end Go.Proofs.YtiblklcfjakjmaaGreat

namespace Go.Proofs.YtiblklcfjakjmaaGreat
open Go.RowKit

def argBad (b f x : Int) : Prop := f ≤ x ∧ b < 0 ∧ (b = -9223372036854775808 ∨ x - f < -b)
def longBad (b f x : Int) : Prop := f ≤ x ∧ ((1000 < b) ∨ (0 ≤ b ∧ 1000 - b < x) ∨ (b < 0 ∧ 1000 < x + b))
instance (b f x : Int) : Decidable (argBad b f x) := by unfold argBad; infer_instance
instance (b f x : Int) : Decidable (longBad b f x) := by unfold longBad; infer_instance
end Go.Proofs.YtiblklcfjakjmaaGreat

namespace Go.Proofs.YtiblklcfjakjmaaGreat
open Go.RowKit

namespace Tm
mutual
def looses : Tm → Int → List Int
  | .mk b k i a, n => (if k = 0 ∧ n + (b.length : Nat) ≤ i then [i - (n + (b.length : Nat))] else []) ++ loosess a (n + (b.length : Nat))
def loosess : List Tm → Int → List Int
  | [], _ => []
  | t :: l, n => looses t n ++ loosess l n
end
mutual
def mapl (v : Int → Int) : Tm → Int → Tm
  | .mk b k i a, n => .mk b k (if k = 0 ∧ n + (b.length : Nat) ≤ i then n + (b.length : Nat) + v (i - (n + (b.length : Nat))) else i) (mapls v a (n + (b.length : Nat)))
def mapls (v : Int → Int) : List Tm → Int → List Tm
  | [], _ => []
  | t :: l, n => mapl v t n :: mapls v l n
end
section
variable {σ : Type} (g : σ → Int → σ) (v : Int → Int)
end
end Tm

def grow (b f x : Int) : Int := if x < f then x else x + b
def shiftCode (b f : Int) (l : List Int) : Int := if ∃ x ∈ l, argBad b f x then 1 else if ∃ x ∈ l, longBad b f x then 2 else 0

def Tm.shift (t : Tm) (b f : Int) : Tm × Int :=
  if f < 0 then (Tm.zero, 1) else if shiftCode b f (t.looses 0) = 0 then (t.mapl (grow b f) 0, 0) else (Tm.zero, shiftCode b f (t.looses 0))

end Go.Proofs.YtiblklcfjakjmaaGreat

