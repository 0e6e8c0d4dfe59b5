/-
  Package slices' stable sort of pairs, walked in the deep way: the merge of many. Package slices' stable sort of pairs, walked in the deep way: the whole; subst.sorted, subst.Of. Package subst's lists, walked in the deep way: Without, Set, Domain, Get. Package subst's lists, walked in the deep way: Clone, Without, Set, Domain, Get. Package subst's lists, walked in the deep way: Set, Domain, Get, Equal; terms that are the same. Package subst's lists, walked in the deep way: Get, Equal.
-/
import Derived.Test.YtiblklcfjakjmaaGreatRowSubstListsp6
import Derived.Test.YtiblklcfjakjmaaGreatRowSubstListsp5
set_option maxRecDepth 100000
set_option maxHeartbeats 1000000
set_option linter.unusedVariables false
set_option linter.unusedSimpArgs false
namespace Go.Proofs.YtiblklcfjakjmaaGreat
open Go.RowKit

def SymC (N : Nat) : Prop := ∀ (A X Y Z : List (Int × Tm)) (n a m b : Nat), X.length + Y.length ≤ N → (A ++ X ++ Y ++ Z).length = n → A.length = a → a + X.length = m → m + Y.length = b → 0 < X.length → 0 < Y.length → So.Srt X → So.Srt Y → n ≤ 1000000 →
  CallG Tryz.prog 157 (symIn n a m b) (symR (A ++ X ++ Y ++ Z)) (symR (A ++ So.ss (X ++ Y) ++ Z)) (.tu [])
set_option maxHeartbeats 4000000 in
theorem sym_step (N : Nat) (ih : ∀ k, k < N → SymC k) (A X Y Z : List (Int × Tm)) (n a m b : Nat) (hN : X.length + Y.length ≤ N) (hn : (A ++ X ++ Y ++ Z).length = n) (ha : A.length = a) (hm : a + X.length = m) (hb : m + Y.length = b) (hX2 : 2 ≤ X.length) (hY2 : 2 ≤ Y.length) (hX : So.Srt X) (hY : So.Srt Y) (hM : n ≤ 1000000) :
    CallG Tryz.prog 157 (symIn n a m b) (symR (A ++ X ++ Y ++ Z)) (symR (A ++ So.ss (X ++ Y) ++ Z)) (.tu []) := by
  have hbn : b + Z.length = n := by simp at hn; omega
  obtain ⟨L, hL⟩ : ∃ L, A ++ X ++ Y ++ Z = L := ⟨_, rfl⟩
  rw [hL] at hn ⊢
  obtain ⟨mid, hmid⟩ : ∃ mid, mid = (a + b) / 2 := ⟨_, rfl⟩
  obtain ⟨lo, hi, hlo⟩ : ∃ lo hi, (mid < m ∧ lo + b = mid + m ∧ hi = mid) ∨ (m ≤ mid ∧ lo = a ∧ hi = m) := by
    by_cases h : mid < m
    · exact ⟨mid + m - b, mid, .inl ⟨h, by omega, rfl⟩⟩
    · exact ⟨a, m, .inr ⟨by omega, rfl, rfl⟩⟩
  obtain ⟨q, hq⟩ : ∃ q, q + 1 = mid + m := ⟨mid + m - 1, by omega⟩
  refine callG_of_dw 1 220 [] TSO_ok (by kernel_rfl) Tryz.func157 rfl Tryz.ntmps157 rfl (by simp) ?dwords ?dbody
  case dwords => simp [wordsG, rowN, rowsR, gkey, Key.eq, D.ok, D.oks, D.okss, rnames, inN, ckey, ePairs_ok]
  case dbody =>
    intro cx hnt hn0
    refine dw_seq ?_
    refine dw_seq ?_
    refine dw_k [(27, .v (.int .i64 (↑X.length))), (28, .v (.bool false))] TSO_ok (by kernel_rfl) hnt (by kernel_rfl) (by simp; rfl) ?_
    intro K hK
    refine And.intro (dintE (by first | omega | exact IntWalk.i64_in _ (by omega) | (rw [IntWalk.i64_in _ (by omega)]; omega) | omega | (simp only [List.length_append, List.length_take, List.length_cons, List.length_nil, eTms_len, eTys_len]; omega) | assumption | (simp_all; done))) ?_
    refine And.intro (beqF (by omega)) ?_
    refine hK _ _ ?_
    clear hK K
    refine dw_cond (t := false) rfl ?_
    rw [if_neg (by simp)]
    refine dw_skip ?_
    refine dw_seq ?_
    refine dw_seq ?_
    refine dw_k [(79, .v (.int .i64 (↑Y.length))), (80, .v (.bool false))] TSO_ok (by kernel_rfl) hnt (by kernel_rfl) (by simp; rfl) ?_
    intro K hK
    refine And.intro (dintE (by first | omega | exact IntWalk.i64_in _ (by omega) | (rw [IntWalk.i64_in _ (by omega)]; omega) | omega | (simp only [List.length_append, List.length_take, List.length_cons, List.length_nil, eTms_len, eTys_len]; omega) | assumption | (simp_all; done))) ?_
    refine And.intro (beqF (by omega)) ?_
    refine hK _ _ ?_
    clear hK K
    refine dw_cond (t := false) rfl ?_
    rw [if_neg (by simp)]
    refine dw_skip ?_
    refine dw_seq ?_
    refine dw_k [(131, .v (.int .i64 (↑(a + b)))), (134, .v (.int .i64 (↑mid)))] TSO_ok (by kernel_rfl) hnt (by kernel_rfl) (by simp; rfl) ?_
    intro K hK
    refine And.intro (dintE (by first | omega | exact IntWalk.i64_in _ (by omega) | (rw [IntWalk.i64_in _ (by omega)]; omega) | omega | (simp only [List.length_append, List.length_take, List.length_cons, List.length_nil, eTms_len, eTys_len]; omega) | assumption | (simp_all; done))) ?_
    refine And.intro (dintE (by rw [hmid]; exact half_i _ (by omega))) ?_
    refine hK _ _ ?_
    clear hK K
    refine dw_seq ?_
    refine dw_k [(137, .v (.int .i64 (↑(mid + m))))] TSO_ok (by kernel_rfl) hnt (by kernel_rfl) (by simp; rfl) ?_
    intro K hK
    refine And.intro (dintE (by first | omega | exact IntWalk.i64_in _ (by omega) | (rw [IntWalk.i64_in _ (by omega)]; omega) | omega | (simp only [List.length_append, List.length_take, List.length_cons, List.length_nil, eTms_len, eTys_len]; omega) | assumption | (simp_all; done))) ?_
    refine hK _ _ ?_
    clear hK K
    refine dw_seq ?_
    refine dw_k [] TSO_ok (by kernel_rfl) hnt (by kernel_rfl) (by simp; rfl) ?_
    intro K hK
    refine hK _ _ ?_
    clear hK K
    refine dw_cut (τ := [(.t 0, .ps 0 n), (.t 1, .v (.int .i64 ↑a)), (.t 2, .v (.int .i64 ↑m)), (.t 3, .v (.int .i64 ↑b)), (.t 4, .fn 63 []), (.t 18, .v (.int .i64 ↑mid)), (.t 19, .v (.int .i64 ↑(mid + m))), (.t 20, .v (.int .i64 ↑lo)), (.t 21, .v (.int .i64 ↑hi)), (.r 0, .rp 99 5 (ePairs L))]) (N1 := 1) ?_ ?_
    · rcases hlo with ⟨g1, g2, g3⟩ | ⟨g1, g2, g3⟩
      · rw [g3]
        refine dw_seq ?_
        refine dw_k [(140, .v (.bool true))] TSO_ok (by kernel_rfl) hnt (by kernel_rfl) (by simp; rfl) ?_
        intro K hK
        refine And.intro (by first | exact dtrue (by omega) | exact VLe.of_eq (by simp [*]; done) | exact dtrue (by first | omega | (simp only [List.length_append, List.length_take, List.length_cons, List.length_nil, eTms_len, eTys_len]; omega) | assumption | (simp_all; done)) | exact VLe.of_eq (by simp_all; done)) ?_
        refine hK _ _ ?_
        clear hK K
        refine dw_cond (t := true) rfl ?_
        rw [if_pos rfl]
        refine dw_seq ?_
        refine dw_k [(143, .v (.int .i64 (↑lo)))] TSO_ok (by kernel_rfl) hnt (by kernel_rfl) (by simp; rfl) ?_
        intro K hK
        refine And.intro (dintE (by first | omega | exact IntWalk.i64_in _ (by omega) | (rw [IntWalk.i64_in _ (by omega)]; omega) | omega | (simp only [List.length_append, List.length_take, List.length_cons, List.length_nil, eTms_len, eTys_len]; omega) | assumption | (simp_all; done))) ?_
        refine hK _ _ ?_
        clear hK K
        refine dw_k [] TSO_ok (by kernel_rfl) hnt (by kernel_rfl) (by simp; rfl) ?_
        intro K hK
        refine hK _ _ ?_
        clear hK K
        exact cut_ok (VS.toK (by first | omega | simp [hn0]) (by repeat first | exact trivial | refine And.intro (And.intro (by first | rfl | simp [D.ok, D.oks, D.okss, D.okm, eTm_ok, eTy_ok, eTys_ok, eTms_ok, upto, keyOk, ePairs_ok, argsT]) (by first | exact Or.inl rfl | exact Or.inr ⟨_, rfl, (by repeat first | exact VLe.refl _ | exact VLe.nil _ | exact VLe.untag _ _ _ | refine VLe.ag ?_ | refine VLe.tu ?_ | refine VLeL.cons ?_ ?_ | exact VLeL.nil), trivial⟩ | simp [get, Key.eq, ePairs_ok, argsT])) ?_))
      · rw [g2, g3]
        refine dw_seq ?_
        refine dw_k [(140, .v (.bool false))] TSO_ok (by kernel_rfl) hnt (by kernel_rfl) (by simp; rfl) ?_
        intro K hK
        refine And.intro (by first | exact dfalse (by omega) | exact VLe.of_eq (by simp [*]; done) | exact dfalse (by first | omega | (simp only [List.length_append, List.length_take, List.length_cons, List.length_nil, eTms_len, eTys_len]; omega) | assumption | (simp_all; done)) | exact VLe.of_eq (by simp_all; done)) ?_
        refine hK _ _ ?_
        clear hK K
        refine dw_cond (t := false) rfl ?_
        rw [if_neg (by simp)]
        refine dw_seq ?_
        refine dw_k [] TSO_ok (by kernel_rfl) hnt (by kernel_rfl) (by simp; rfl) ?_
        intro K hK
        refine hK _ _ ?_
        clear hK K
        refine dw_k [] TSO_ok (by kernel_rfl) hnt (by kernel_rfl) (by simp; rfl) ?_
        intro K hK
        refine hK _ _ ?_
        clear hK K
        exact cut_ok (VS.toK (by first | omega | simp [hn0]) (by repeat first | exact trivial | refine And.intro (And.intro (by first | rfl | simp [D.ok, D.oks, D.okss, D.okm, eTm_ok, eTy_ok, eTys_ok, eTms_ok, upto, keyOk, ePairs_ok, argsT]) (by first | exact Or.inl rfl | exact Or.inr ⟨_, rfl, (by repeat first | exact VLe.refl _ | exact VLe.nil _ | exact VLe.untag _ _ _ | refine VLe.ag ?_ | refine VLe.tu ?_ | refine VLeL.cons ?_ ?_ | exact VLeL.nil), trivial⟩ | simp [get, Key.eq, ePairs_ok, argsT])) ?_))
    · skip
      refine dw_seq ?_
      refine dw_k [(148, .v (.int .i64 (↑q)))] TSO_ok (by kernel_rfl) hnt (by kernel_rfl) (by simp; rfl) ?_
      intro K hK
      refine And.intro (dintE (by first | omega | exact IntWalk.i64_in _ (by omega) | (rw [IntWalk.i64_in _ (by omega)]; omega) | omega | (simp only [List.length_append, List.length_take, List.length_cons, List.length_nil, eTms_len, eTys_len]; omega) | assumption | (simp_all; done))) ?_
      refine hK _ _ ?_
      clear hK K
      refine dw_seq ?_
      refine dw_block ?_
      refine dw_loop (ι := { p : Nat × Nat // lo ≤ p.1 ∧ p.1 ≤ p.2 ∧ p.2 ≤ hi ∧ (p.1 = lo ∨ So.ky L (p.1 - 1) ≤ So.ky L (mid + m - p.1)) ∧ (p.2 = hi ∨ So.ky L (mid + m - 1 - p.2) < So.ky L p.2) }) (fun p => [(.t 0, .ps 0 n), (.t 1, .v (.int .i64 ↑a)), (.t 2, .v (.int .i64 ↑m)), (.t 3, .v (.int .i64 ↑b)), (.t 4, .fn 63 []), (.t 18, .v (.int .i64 ↑mid)), (.t 19, .v (.int .i64 ↑(mid + m))), (.t 20, .v (.int .i64 ↑p.1.1)), (.t 21, .v (.int .i64 ↑p.1.2)), (.t 22, .v (.int .i64 ↑q)), (.r 0, .rp 99 5 (ePairs L))]) 1 (fun p => p.1.2 - p.1.1) (⟨(lo, hi), Nat.le_refl _, by dsimp only; omega, Nat.le_refl _, .inl rfl, .inl rfl⟩) ((VS.toK (by first | omega | simp [hn0]) (by repeat first | exact trivial | refine And.intro (And.intro (by first | rfl | simp [D.ok, D.oks, D.okss, D.okm, eTm_ok, eTy_ok, eTys_ok, eTms_ok, upto, keyOk, ePairs_ok]) (by first | exact Or.inl rfl | exact Or.inr ⟨_, rfl, (by repeat first | exact VLe.refl _ | exact VLe.nil _ | exact VLe.untag _ _ _ | refine VLe.ag ?_ | refine VLe.tu ?_ | refine VLeL.cons ?_ ?_ | exact VLeL.nil), trivial⟩ | simp [get, Key.eq, ePairs_ok])) ?_))) fun j => ?_
      obtain ⟨⟨s, r⟩, k1, k2, k3, k4, k5⟩ := j
      dsimp only at k1 k2 k3 k4 k5 ⊢
      by_cases hsr : s < r
      · obtain ⟨c, hc⟩ : ∃ c, c = (s + r) / 2 := ⟨_, rfl⟩
        have hcm : c < m := by omega
        obtain ⟨d, hd⟩ : ∃ d, d + c = q := ⟨q - c, by omega⟩
        obtain ⟨x, hx⟩ := So.at_ex hn (show c < n by omega)
        obtain ⟨y, hy⟩ := So.at_ex hn (show d < n by omega)
        have ex := So.ky_at hx
        have ey := So.ky_at hy
        have ho := sorder_d y x
        rw [ePair_eq, ePair_eq] at ho
        by_cases hlt : y.1 < x.1
        · skip
          refine dw_seq ?_
          refine dw_seq ?_
          refine dw_k [(151, .v (.bool true))] TSO_ok (by kernel_rfl) hnt (by kernel_rfl) (by simp; rfl) ?_
          intro K hK
          refine And.intro (by first | exact dtrue (by omega) | exact VLe.of_eq (by simp [*]; done) | exact dtrue (by first | omega | (simp only [List.length_append, List.length_take, List.length_cons, List.length_nil, eTms_len, eTys_len]; omega) | assumption | (simp_all; done)) | exact VLe.of_eq (by simp_all; done)) ?_
          refine hK _ _ ?_
          clear hK K
          refine dw_cond (t := true) rfl ?_
          rw [if_pos rfl]
          refine dw_skip ?_
          refine dw_block ?_
          refine dw_seq ?_
          refine dw_k [(154, .v (.int .i64 (↑(s + r)))), (157, .v (.int .i64 (↑c)))] TSO_ok (by kernel_rfl) hnt (by kernel_rfl) (by simp; rfl) ?_
          intro K hK
          refine And.intro (dintE (by first | omega | exact IntWalk.i64_in _ (by omega) | (rw [IntWalk.i64_in _ (by omega)]; omega) | omega | (simp only [List.length_append, List.length_take, List.length_cons, List.length_nil, eTms_len, eTys_len]; omega) | assumption | (simp_all; done))) ?_
          refine And.intro (dintE (by rw [hc]; exact half_i _ (by omega))) ?_
          refine hK _ _ ?_
          clear hK K
          refine dw_seq ?_
          refine dw_kD [(162, .v (.int .i64 (↑d))), (163, .pr 0 n 5 (d) 0), (164, .ag [.v (.int .i64 y.1), .sl 2 (eTys y.2.binds) none, .v (.int .i64 y.2.kind), .v (.int .i64 y.2.index), .sl 4 (eTms y.2.args) none]), (167, .pr 0 n 5 (c) 0), (168, .ag [.v (.int .i64 x.1), .sl 2 (eTys x.2.binds) none, .v (.int .i64 x.2.kind), .v (.int .i64 x.2.index), .sl 4 (eTms x.2.args) none]), (170, .v (.bool true))] TSO_ok (by kernel_rfl) hnt (by kernel_rfl) (by simp; rfl) ?_
          intro K hK
          refine And.intro (dintE (by first | omega | exact IntWalk.i64_in _ (by omega) | (rw [IntWalk.i64_in _ (by omega)]; omega) | omega | (simp only [List.length_append, List.length_take, List.length_cons, List.length_nil, eTms_len, eTys_len]; omega) | assumption | (simp_all; done))) ?_
          refine And.intro (by constructor <;> omega) ?_
          refine And.intro (by first | rfl | exact VLe.of_eq (by simp)) ?_
          refine And.intro (pl_ok hn hy) ?_
          refine And.intro (pl_eq hy) ?_
          refine And.intro (by constructor <;> omega) ?_
          refine And.intro (by first | rfl | exact VLe.of_eq (by simp)) ?_
          refine And.intro (pl_ok hn hx) ?_
          refine And.intro (pl_eq hx) ?_
          refine ⟨_, _, _, Or.inl (ho), by repeat first | exact trivial | refine And.intro ⟨rfl, rfl⟩ ?_, ?_⟩
          refine And.intro (dtrue (cmpI_lt.2 hlt)) ?_
          refine hK _ _ (by kernel_rfl) ?_
          clear hK K
          refine dw_cond (t := false) rfl ?_
          rw [if_neg (by simp)]
          refine dw_k [] TSO_ok (by kernel_rfl) hnt (by kernel_rfl) (by simp; rfl) ?_
          intro K hK
          refine hK _ _ ?_
          clear hK K
          refine ⟨⟨(s, c), k1, by dsimp only; omega, by dsimp only; omega, k4, .inr (by dsimp only; rw [show mid + m - 1 - c = d by omega, ex, ey]; exact hlt)⟩, by first | omega | (dsimp only; omega), (VS.toK (by first | omega | simp [hn0]) (by repeat first | exact trivial | refine And.intro (And.intro (by first | rfl | simp [D.ok, D.oks, D.okss, D.okm, eTm_ok, eTy_ok, eTys_ok, eTms_ok, upto, keyOk, ePairs_ok]) (by first | exact Or.inl rfl | exact Or.inr ⟨_, rfl, (by repeat first | exact VLe.refl _ | exact VLe.nil _ | exact VLe.untag _ _ _ | refine VLe.ag ?_ | refine VLe.tu ?_ | refine VLeL.cons ?_ ?_ | exact VLeL.nil), trivial⟩ | simp [get, Key.eq, ePairs_ok])) ?_))⟩
        · skip
          refine dw_seq ?_
          refine dw_seq ?_
          refine dw_k [(151, .v (.bool true))] TSO_ok (by kernel_rfl) hnt (by kernel_rfl) (by simp; rfl) ?_
          intro K hK
          refine And.intro (by first | exact dtrue (by omega) | exact VLe.of_eq (by simp [*]; done) | exact dtrue (by first | omega | (simp only [List.length_append, List.length_take, List.length_cons, List.length_nil, eTms_len, eTys_len]; omega) | assumption | (simp_all; done)) | exact VLe.of_eq (by simp_all; done)) ?_
          refine hK _ _ ?_
          clear hK K
          refine dw_cond (t := true) rfl ?_
          rw [if_pos rfl]
          refine dw_skip ?_
          refine dw_block ?_
          refine dw_seq ?_
          refine dw_k [(154, .v (.int .i64 (↑(s + r)))), (157, .v (.int .i64 (↑c)))] TSO_ok (by kernel_rfl) hnt (by kernel_rfl) (by simp; rfl) ?_
          intro K hK
          refine And.intro (dintE (by first | omega | exact IntWalk.i64_in _ (by omega) | (rw [IntWalk.i64_in _ (by omega)]; omega) | omega | (simp only [List.length_append, List.length_take, List.length_cons, List.length_nil, eTms_len, eTys_len]; omega) | assumption | (simp_all; done))) ?_
          refine And.intro (dintE (by rw [hc]; exact half_i _ (by omega))) ?_
          refine hK _ _ ?_
          clear hK K
          refine dw_seq ?_
          refine dw_kD [(162, .v (.int .i64 (↑d))), (163, .pr 0 n 5 (d) 0), (164, .ag [.v (.int .i64 y.1), .sl 2 (eTys y.2.binds) none, .v (.int .i64 y.2.kind), .v (.int .i64 y.2.index), .sl 4 (eTms y.2.args) none]), (167, .pr 0 n 5 (c) 0), (168, .ag [.v (.int .i64 x.1), .sl 2 (eTys x.2.binds) none, .v (.int .i64 x.2.kind), .v (.int .i64 x.2.index), .sl 4 (eTms x.2.args) none]), (170, .v (.bool false))] TSO_ok (by kernel_rfl) hnt (by kernel_rfl) (by simp; rfl) ?_
          intro K hK
          refine And.intro (dintE (by first | omega | exact IntWalk.i64_in _ (by omega) | (rw [IntWalk.i64_in _ (by omega)]; omega) | omega | (simp only [List.length_append, List.length_take, List.length_cons, List.length_nil, eTms_len, eTys_len]; omega) | assumption | (simp_all; done))) ?_
          refine And.intro (by constructor <;> omega) ?_
          refine And.intro (by first | rfl | exact VLe.of_eq (by simp)) ?_
          refine And.intro (pl_ok hn hy) ?_
          refine And.intro (pl_eq hy) ?_
          refine And.intro (by constructor <;> omega) ?_
          refine And.intro (by first | rfl | exact VLe.of_eq (by simp)) ?_
          refine And.intro (pl_ok hn hx) ?_
          refine And.intro (pl_eq hx) ?_
          refine ⟨_, _, _, Or.inl (ho), by repeat first | exact trivial | refine And.intro ⟨rfl, rfl⟩ ?_, ?_⟩
          refine And.intro (dfalse (fun h => hlt (cmpI_lt.1 h))) ?_
          refine hK _ _ (by kernel_rfl) ?_
          clear hK K
          refine dw_cond (t := true) rfl ?_
          rw [if_pos rfl]
          refine dw_k [(173, .v (.int .i64 (↑(c + 1))))] TSO_ok (by kernel_rfl) hnt (by kernel_rfl) (by simp; rfl) ?_
          intro K hK
          refine And.intro (dintE (by first | omega | exact IntWalk.i64_in _ (by omega) | (rw [IntWalk.i64_in _ (by omega)]; omega) | omega | (simp only [List.length_append, List.length_take, List.length_cons, List.length_nil, eTms_len, eTys_len]; omega) | assumption | (simp_all; done))) ?_
          refine hK _ _ ?_
          clear hK K
          refine ⟨⟨(c + 1, r), by dsimp only; omega, by dsimp only; omega, k3, .inr (by dsimp only; rw [show c + 1 - 1 = c by omega, show mid + m - (c + 1) = d by omega, ex, ey]; omega), k5⟩, by first | omega | (dsimp only; omega), (VS.toK (by first | omega | simp [hn0]) (by repeat first | exact trivial | refine And.intro (And.intro (by first | rfl | simp [D.ok, D.oks, D.okss, D.okm, eTm_ok, eTy_ok, eTys_ok, eTms_ok, upto, keyOk, ePairs_ok]) (by first | exact Or.inl rfl | exact Or.inr ⟨_, rfl, (by repeat first | exact VLe.refl _ | exact VLe.nil _ | exact VLe.untag _ _ _ | refine VLe.ag ?_ | refine VLe.tu ?_ | refine VLeL.cons ?_ ?_ | exact VLeL.nil), trivial⟩ | simp [get, Key.eq, ePairs_ok])) ?_))⟩
      · have hrs : r = s := by omega
        subst hrs
        obtain ⟨X1, X2, Y1, Y2, rfl, rfl, e1, e2, h1, h2⟩ := So.sym_cut (mid := mid) (s := r) hX hY hL.symm ha hm hb (by omega) (by omega) (by omega) (by omega) (by
            rcases k4 with k4 | k4
            · omega
            · exact .inr (.inr k4)) (by
            rcases k5 with k5 | k5
            · omega
            · exact .inr (.inr k5))
        rw [List.length_append] at hm hb hX2 hY2
        rw [List.length_append, List.length_append] at hN
        obtain ⟨e, he⟩ : ∃ e, e + r = mid + m := ⟨mid + m - r, by omega⟩
        have hcut := So.ss_cut hX hY h1 h2
        have sx := So.srt_app.1 hX
        have sy := So.srt_app.1 hY
        have hlen : A.length + X1.length + X2.length + Y1.length + Y2.length + Z.length = n := by omega
        rw [hcut]
        refine dw_seq ?_
        refine dw_seq ?_
        refine dw_k [(151, .v (.bool false))] TSO_ok (by kernel_rfl) hnt (by kernel_rfl) (by simp; rfl) ?_
        intro K hK
        refine And.intro (by first | exact dfalse (by omega) | exact VLe.of_eq (by simp [*]; done) | exact dfalse (by first | omega | (simp only [List.length_append, List.length_take, List.length_cons, List.length_nil, eTms_len, eTys_len]; omega) | assumption | (simp_all; done)) | exact VLe.of_eq (by simp_all; done)) ?_
        refine hK _ _ ?_
        clear hK K
        refine dw_cond (t := false) rfl ?_
        rw [if_neg (by simp)]
        refine dw_exit ?_
        refine dw_seq ?_
        refine dw_k [(177, .v (.int .i64 (↑e)))] TSO_ok (by kernel_rfl) hnt (by kernel_rfl) (by simp; rfl) ?_
        intro K hK
        refine And.intro (dintE (by first | omega | exact IntWalk.i64_in _ (by omega) | (rw [IntWalk.i64_in _ (by omega)]; omega) | omega | (simp only [List.length_append, List.length_take, List.length_cons, List.length_nil, eTms_len, eTys_len]; omega) | assumption | (simp_all; done))) ?_
        refine hK _ _ ?_
        clear hK K
        refine dw_cut (τ := [(.t 0, .ps 0 n), (.t 1, .v (.int .i64 ↑a)), (.t 3, .v (.int .i64 ↑b)), (.t 4, .fn 63 []), (.t 18, .v (.int .i64 ↑mid)), (.t 20, .v (.int .i64 ↑r)), (.t 24, .v (.int .i64 ↑e)), (.r 0, .rp 99 5 (ePairs (A ++ X1 ++ Y1 ++ (X2 ++ (Y2 ++ Z)))))]) (N1 := 1) ?_ ?_
        · by_cases c1 : r < m
          · by_cases c2 : m < e
            · have hrot := rotate_d (A ++ X1) X2 Y1 (Y2 ++ Z) n r m e (by simp; omega) (by simp; omega) (by omega) (by omega) (by omega) (by omega) hM
              have f1 : A ++ X1 ++ Y1 ++ X2 ++ (Y2 ++ Z) = A ++ X1 ++ Y1 ++ (X2 ++ (Y2 ++ Z)) := by simp
              have f2 : L = A ++ X1 ++ X2 ++ Y1 ++ (Y2 ++ Z) := by rw [← hL]; simp
              rw [f1] at hrot
              rw [f2]
              refine dw_seq ?_
              refine dw_k [(180, .v (.bool true)), (184, .v (.bool true))] TSO_ok (by kernel_rfl) hnt (by kernel_rfl) (by simp; rfl) ?_
              intro K hK
              refine And.intro (by first | exact dtrue (by omega) | exact VLe.of_eq (by simp [*]; done) | exact dtrue (by first | omega | (simp only [List.length_append, List.length_take, List.length_cons, List.length_nil, eTms_len, eTys_len]; omega) | assumption | (simp_all; done)) | exact VLe.of_eq (by simp_all; done)) ?_
              refine And.intro (by first | exact dtrue (by omega) | exact VLe.of_eq (by simp [*]; done) | exact dtrue (by first | omega | (simp only [List.length_append, List.length_take, List.length_cons, List.length_nil, eTms_len, eTys_len]; omega) | assumption | (simp_all; done)) | exact VLe.of_eq (by simp_all; done)) ?_
              refine hK _ _ ?_
              clear hK K
              refine dw_cond (t := true) rfl ?_
              rw [if_pos rfl]
              refine dw_k [] TSO_ok (by kernel_rfl) hnt (by kernel_rfl) (by simp; rfl) ?_
              intro K hK
              refine ⟨_, _, _, Or.inr (CallG.n (hrot) _), by repeat first | exact trivial | refine And.intro ⟨rfl, rfl⟩ ?_, ?_⟩
              refine hK _ _ ?_
              clear hK K
              exact cut_ok (VS.toK (by first | omega | simp [hn0]) (by repeat first | exact trivial | refine And.intro (And.intro (by first | rfl | simp [D.ok, D.oks, D.okss, D.okm, eTm_ok, eTy_ok, eTys_ok, eTms_ok, upto, keyOk, ePairs_ok]) (by first | exact Or.inl rfl | exact Or.inr ⟨_, rfl, (by repeat first | exact VLe.refl _ | exact VLe.nil _ | exact VLe.untag _ _ _ | refine VLe.ag ?_ | refine VLe.tu ?_ | refine VLeL.cons ?_ ?_ | exact VLeL.nil), trivial⟩ | simp [get, Key.eq, ePairs_ok])) ?_))
            · have : Y1 = [] := List.length_eq_zero_iff.1 (by omega)
              have f2 : L = A ++ X1 ++ Y1 ++ (X2 ++ (Y2 ++ Z)) := by rw [← hL, this]; simp
              rw [f2]
              refine dw_seq ?_
              refine dw_k [(180, .v (.bool true)), (184, .v (.bool false))] TSO_ok (by kernel_rfl) hnt (by kernel_rfl) (by simp; rfl) ?_
              intro K hK
              refine And.intro (by first | exact dtrue (by omega) | exact VLe.of_eq (by simp [*]; done) | exact dtrue (by first | omega | (simp only [List.length_append, List.length_take, List.length_cons, List.length_nil, eTms_len, eTys_len]; omega) | assumption | (simp_all; done)) | exact VLe.of_eq (by simp_all; done)) ?_
              refine And.intro (by first | exact dfalse (by omega) | exact VLe.of_eq (by simp [*]; done) | exact dfalse (by first | omega | (simp only [List.length_append, List.length_take, List.length_cons, List.length_nil, eTms_len, eTys_len]; omega) | assumption | (simp_all; done)) | exact VLe.of_eq (by simp_all; done)) ?_
              refine hK _ _ ?_
              clear hK K
              refine dw_cond (t := false) rfl ?_
              rw [if_neg (by simp)]
              refine dw_skip ?_
              exact cut_ok (VS.toK (by first | omega | simp [hn0]) (by repeat first | exact trivial | refine And.intro (And.intro (by first | rfl | simp [D.ok, D.oks, D.okss, D.okm, eTm_ok, eTy_ok, eTys_ok, eTms_ok, upto, keyOk, ePairs_ok]) (by first | exact Or.inl rfl | exact Or.inr ⟨_, rfl, (by repeat first | exact VLe.refl _ | exact VLe.nil _ | exact VLe.untag _ _ _ | refine VLe.ag ?_ | refine VLe.tu ?_ | refine VLeL.cons ?_ ?_ | exact VLeL.nil), trivial⟩ | simp [get, Key.eq, ePairs_ok])) ?_))
          · have : X2 = [] := List.length_eq_zero_iff.1 (by omega)
            have f2 : L = A ++ X1 ++ Y1 ++ (X2 ++ (Y2 ++ Z)) := by rw [← hL, this]; simp
            rw [f2]
            refine dw_seq ?_
            refine dw_k [(180, .v (.bool false))] TSO_ok (by kernel_rfl) hnt (by kernel_rfl) (by simp; rfl) ?_
            intro K hK
            refine And.intro (by first | exact dfalse (by omega) | exact VLe.of_eq (by simp [*]; done) | exact dfalse (by first | omega | (simp only [List.length_append, List.length_take, List.length_cons, List.length_nil, eTms_len, eTys_len]; omega) | assumption | (simp_all; done)) | exact VLe.of_eq (by simp_all; done)) ?_
            refine hK _ _ ?_
            clear hK K
            refine dw_cond (t := false) rfl ?_
            rw [if_neg (by simp)]
            refine dw_skip ?_
            exact cut_ok (VS.toK (by first | omega | simp [hn0]) (by repeat first | exact trivial | refine And.intro (And.intro (by first | rfl | simp [D.ok, D.oks, D.okss, D.okm, eTm_ok, eTy_ok, eTys_ok, eTms_ok, upto, keyOk, ePairs_ok]) (by first | exact Or.inl rfl | exact Or.inr ⟨_, rfl, (by repeat first | exact VLe.refl _ | exact VLe.nil _ | exact VLe.untag _ _ _ | refine VLe.ag ?_ | refine VLe.tu ?_ | refine VLeL.cons ?_ ?_ | exact VLeL.nil), trivial⟩ | simp [get, Key.eq, ePairs_ok])) ?_))
        · skip
          refine dw_cut (τ := [(.t 0, .ps 0 n), (.t 3, .v (.int .i64 ↑b)), (.t 4, .fn 63 []), (.t 18, .v (.int .i64 ↑mid)), (.t 24, .v (.int .i64 ↑e)), (.r 0, .rp 99 5 (ePairs (A ++ So.ss (X1 ++ Y1) ++ X2 ++ Y2 ++ Z)))]) (N1 := 1) ?_ ?_
          · have f1 : A ++ So.ss (X1 ++ Y1) ++ (X2 ++ (Y2 ++ Z)) = A ++ So.ss (X1 ++ Y1) ++ X2 ++ Y2 ++ Z := by simp
            by_cases c1 : a < r
            · by_cases c2 : r < mid
              · have hs := ih (X1.length + Y1.length) (by omega) A X1 Y1 (X2 ++ (Y2 ++ Z)) n a r mid (Nat.le_refl _) (by simp; omega) ha e1 e2 (by omega) (by omega) sx.1 sy.1 hM
                rw [f1] at hs
                refine dw_seq ?_
                refine dw_k [(194, .v (.bool true)), (198, .v (.bool true))] TSO_ok (by kernel_rfl) hnt (by kernel_rfl) (by simp; rfl) ?_
                intro K hK
                refine And.intro (by first | exact dtrue (by omega) | exact VLe.of_eq (by simp [*]; done) | exact dtrue (by first | omega | (simp only [List.length_append, List.length_take, List.length_cons, List.length_nil, eTms_len, eTys_len]; omega) | assumption | (simp_all; done)) | exact VLe.of_eq (by simp_all; done)) ?_
                refine And.intro (by first | exact dtrue (by omega) | exact VLe.of_eq (by simp [*]; done) | exact dtrue (by first | omega | (simp only [List.length_append, List.length_take, List.length_cons, List.length_nil, eTms_len, eTys_len]; omega) | assumption | (simp_all; done)) | exact VLe.of_eq (by simp_all; done)) ?_
                refine hK _ _ ?_
                clear hK K
                refine dw_cond (t := true) rfl ?_
                rw [if_pos rfl]
                refine dw_k [] TSO_ok (by kernel_rfl) hnt (by kernel_rfl) (by simp; rfl) ?_
                intro K hK
                refine ⟨_, _, _, Or.inr (CallG.n (hs) _), by repeat first | exact trivial | refine And.intro ⟨rfl, rfl⟩ ?_, ?_⟩
                refine hK _ _ ?_
                clear hK K
                exact cut_ok (VS.toK (by first | omega | simp [hn0]) (by repeat first | exact trivial | refine And.intro (And.intro (by first | rfl | simp [D.ok, D.oks, D.okss, D.okm, eTm_ok, eTy_ok, eTys_ok, eTms_ok, upto, keyOk, ePairs_ok]) (by first | exact Or.inl rfl | exact Or.inr ⟨_, rfl, (by repeat first | exact VLe.refl _ | exact VLe.nil _ | exact VLe.untag _ _ _ | refine VLe.ag ?_ | refine VLe.tu ?_ | refine VLeL.cons ?_ ?_ | exact VLeL.nil), trivial⟩ | simp [get, Key.eq, ePairs_ok])) ?_))
              · have hy0 : Y1 = [] := List.length_eq_zero_iff.1 (by omega)
                have hss : So.ss (X1 ++ Y1) = X1 ++ Y1 := So.ss_self (by rw [hy0, List.append_nil]; exact sx.1)
                rw [← f1, hss, ← List.append_assoc A X1 Y1]
                refine dw_seq ?_
                refine dw_k [(194, .v (.bool true)), (198, .v (.bool false))] TSO_ok (by kernel_rfl) hnt (by kernel_rfl) (by simp; rfl) ?_
                intro K hK
                refine And.intro (by first | exact dtrue (by omega) | exact VLe.of_eq (by simp [*]; done) | exact dtrue (by first | omega | (simp only [List.length_append, List.length_take, List.length_cons, List.length_nil, eTms_len, eTys_len]; omega) | assumption | (simp_all; done)) | exact VLe.of_eq (by simp_all; done)) ?_
                refine And.intro (by first | exact dfalse (by omega) | exact VLe.of_eq (by simp [*]; done) | exact dfalse (by first | omega | (simp only [List.length_append, List.length_take, List.length_cons, List.length_nil, eTms_len, eTys_len]; omega) | assumption | (simp_all; done)) | exact VLe.of_eq (by simp_all; done)) ?_
                refine hK _ _ ?_
                clear hK K
                refine dw_cond (t := false) rfl ?_
                rw [if_neg (by simp)]
                refine dw_skip ?_
                exact cut_ok (VS.toK (by first | omega | simp [hn0]) (by repeat first | exact trivial | refine And.intro (And.intro (by first | rfl | simp [D.ok, D.oks, D.okss, D.okm, eTm_ok, eTy_ok, eTys_ok, eTms_ok, upto, keyOk, ePairs_ok]) (by first | exact Or.inl rfl | exact Or.inr ⟨_, rfl, (by repeat first | exact VLe.refl _ | exact VLe.nil _ | exact VLe.untag _ _ _ | refine VLe.ag ?_ | refine VLe.tu ?_ | refine VLeL.cons ?_ ?_ | exact VLeL.nil), trivial⟩ | simp [get, Key.eq, ePairs_ok])) ?_))
            · have hx0 : X1 = [] := List.length_eq_zero_iff.1 (by omega)
              have hss : So.ss (X1 ++ Y1) = X1 ++ Y1 := So.ss_self (by rw [hx0, List.nil_append]; exact sy.1)
              rw [← f1, hss, ← List.append_assoc A X1 Y1]
              refine dw_seq ?_
              refine dw_k [(194, .v (.bool false))] TSO_ok (by kernel_rfl) hnt (by kernel_rfl) (by simp; rfl) ?_
              intro K hK
              refine And.intro (by first | exact dfalse (by omega) | exact VLe.of_eq (by simp [*]; done) | exact dfalse (by first | omega | (simp only [List.length_append, List.length_take, List.length_cons, List.length_nil, eTms_len, eTys_len]; omega) | assumption | (simp_all; done)) | exact VLe.of_eq (by simp_all; done)) ?_
              refine hK _ _ ?_
              clear hK K
              refine dw_cond (t := false) rfl ?_
              rw [if_neg (by simp)]
              refine dw_skip ?_
              exact cut_ok (VS.toK (by first | omega | simp [hn0]) (by repeat first | exact trivial | refine And.intro (And.intro (by first | rfl | simp [D.ok, D.oks, D.okss, D.okm, eTm_ok, eTy_ok, eTys_ok, eTms_ok, upto, keyOk, ePairs_ok]) (by first | exact Or.inl rfl | exact Or.inr ⟨_, rfl, (by repeat first | exact VLe.refl _ | exact VLe.nil _ | exact VLe.untag _ _ _ | refine VLe.ag ?_ | refine VLe.tu ?_ | refine VLeL.cons ?_ ?_ | exact VLeL.nil), trivial⟩ | simp [get, Key.eq, ePairs_ok])) ?_))
          · have f3 : A ++ (So.ss (X1 ++ Y1) ++ So.ss (X2 ++ Y2)) ++ Z = A ++ So.ss (X1 ++ Y1) ++ So.ss (X2 ++ Y2) ++ Z := by simp
            rw [f3]
            by_cases c1 : mid < e
            · by_cases c2 : e < b
              · have hs := ih (X2.length + Y2.length) (by omega) (A ++ So.ss (X1 ++ Y1)) X2 Y2 Z n mid e b (Nat.le_refl _) (by simp [So.ss_len]; omega) (by simp [So.ss_len]; omega) (by omega) (by omega) (by omega) (by omega) sx.2.1 sy.2.1 hM
                refine dw_seq ?_
                refine dw_k [(208, .v (.bool true)), (212, .v (.bool true))] TSO_ok (by kernel_rfl) hnt (by kernel_rfl) (by simp; rfl) ?_
                intro K hK
                refine And.intro (by first | exact dtrue (by omega) | exact VLe.of_eq (by simp [*]; done) | exact dtrue (by first | omega | (simp only [List.length_append, List.length_take, List.length_cons, List.length_nil, eTms_len, eTys_len]; omega) | assumption | (simp_all; done)) | exact VLe.of_eq (by simp_all; done)) ?_
                refine And.intro (by first | exact dtrue (by omega) | exact VLe.of_eq (by simp [*]; done) | exact dtrue (by first | omega | (simp only [List.length_append, List.length_take, List.length_cons, List.length_nil, eTms_len, eTys_len]; omega) | assumption | (simp_all; done)) | exact VLe.of_eq (by simp_all; done)) ?_
                refine hK _ _ ?_
                clear hK K
                refine dw_cond (t := true) rfl ?_
                rw [if_pos rfl]
                refine dw_k [] TSO_ok (by kernel_rfl) hnt (by kernel_rfl) (by simp; rfl) ?_
                intro K hK
                refine ⟨_, _, _, Or.inr (CallG.n (hs) _), by repeat first | exact trivial | refine And.intro ⟨rfl, rfl⟩ ?_, ?_⟩
                refine hK _ _ ?_
                clear hK K
                exact retv (N := 0) (.inl rfl) rfl (by repeat first | exact VLe.refl _ | exact VLe.nil _ | exact VLe.untag _ _ _ | refine VLe.ag ?_ | refine VLe.tu ?_ | refine VLeL.cons ?_ ?_ | exact VLeL.nil) (by repeat first | exact trivial | refine And.intro rfl ?_)
              · have hy0 : Y2 = [] := List.length_eq_zero_iff.1 (by omega)
                have hss : So.ss (X2 ++ Y2) = X2 ++ Y2 := So.ss_self (by rw [hy0, List.append_nil]; exact sx.2.1)
                rw [hss, ← List.append_assoc _ X2 Y2]
                refine dw_seq ?_
                refine dw_k [(208, .v (.bool true)), (212, .v (.bool false))] TSO_ok (by kernel_rfl) hnt (by kernel_rfl) (by simp; rfl) ?_
                intro K hK
                refine And.intro (by first | exact dtrue (by omega) | exact VLe.of_eq (by simp [*]; done) | exact dtrue (by first | omega | (simp only [List.length_append, List.length_take, List.length_cons, List.length_nil, eTms_len, eTys_len]; omega) | assumption | (simp_all; done)) | exact VLe.of_eq (by simp_all; done)) ?_
                refine And.intro (by first | exact dfalse (by omega) | exact VLe.of_eq (by simp [*]; done) | exact dfalse (by first | omega | (simp only [List.length_append, List.length_take, List.length_cons, List.length_nil, eTms_len, eTys_len]; omega) | assumption | (simp_all; done)) | exact VLe.of_eq (by simp_all; done)) ?_
                refine hK _ _ ?_
                clear hK K
                refine dw_cond (t := false) rfl ?_
                rw [if_neg (by simp)]
                refine dw_skip ?_
                exact retv (N := 0) (.inl rfl) rfl (by repeat first | exact VLe.refl _ | exact VLe.nil _ | exact VLe.untag _ _ _ | refine VLe.ag ?_ | refine VLe.tu ?_ | refine VLeL.cons ?_ ?_ | exact VLeL.nil) (by repeat first | exact trivial | refine And.intro rfl ?_)
            · have hx0 : X2 = [] := List.length_eq_zero_iff.1 (by omega)
              have hss : So.ss (X2 ++ Y2) = X2 ++ Y2 := So.ss_self (by rw [hx0, List.nil_append]; exact sy.2.1)
              rw [hss, ← List.append_assoc _ X2 Y2]
              refine dw_seq ?_
              refine dw_k [(208, .v (.bool false))] TSO_ok (by kernel_rfl) hnt (by kernel_rfl) (by simp; rfl) ?_
              intro K hK
              refine And.intro (by first | exact dfalse (by omega) | exact VLe.of_eq (by simp [*]; done) | exact dfalse (by first | omega | (simp only [List.length_append, List.length_take, List.length_cons, List.length_nil, eTms_len, eTys_len]; omega) | assumption | (simp_all; done)) | exact VLe.of_eq (by simp_all; done)) ?_
              refine hK _ _ ?_
              clear hK K
              refine dw_cond (t := false) rfl ?_
              rw [if_neg (by simp)]
              refine dw_skip ?_
              exact retv (N := 0) (.inl rfl) rfl (by repeat first | exact VLe.refl _ | exact VLe.nil _ | exact VLe.untag _ _ _ | refine VLe.ag ?_ | refine VLe.tu ?_ | refine VLeL.cons ?_ ?_ | exact VLeL.nil) (by repeat first | exact trivial | refine And.intro rfl ?_)
theorem sym_all (N : Nat) : SymC N := by
  induction N using Nat.strongRecOn with
  | ind N ih =>
    intro A X Y Z n a m b hN hn ha hm hb h1 h2 hX hY hM
    by_cases c1 : X.length = 1
    · obtain ⟨x, rfl⟩ := List.length_eq_one_iff.1 c1
      exact sym_left A x Y Z n a m b hn ha (by simpa using hm) hb hY hM
    · by_cases c2 : Y.length = 1
      · obtain ⟨y, rfl⟩ := List.length_eq_one_iff.1 c2
        exact sym_right A X y Z n a m b hn ha hm (by simpa using hb) hX c1 hM
      · exact sym_step N ih A X Y Z n a m b hN hn ha hm hb (by omega) (by omega) hX hY hM
theorem symM_d (A X Y Z : List (Int × Tm)) (n a m b : Nat) (hn : (A ++ X ++ Y ++ Z).length = n) (ha : A.length = a) (hm : a + X.length = m) (hb : m + Y.length = b) (h1 : 0 < X.length) (h2 : 0 < Y.length) (hX : So.Srt X) (hY : So.Srt Y) (hM : n ≤ 1000000) :
    CallG Tryz.prog 157 (symIn n a m b) (symR (A ++ X ++ Y ++ Z)) (symR (A ++ So.ss (X ++ Y) ++ Z)) (.tu []) := sym_all _ A X Y Z n a m b (Nat.le_refl _) hn ha hm hb h1 h2 hX hY hM
end Go.Proofs.YtiblklcfjakjmaaGreat

namespace Go.Proofs.YtiblklcfjakjmaaGreat
open Go.RowKit
def TSP_99 : TI := ⟨5, true, [Value.int IntKind.i64 0, Value.slice none 0 0, Value.int IntKind.i64 0, Value.int IntKind.i64 0, Value.slice none 0 0], [(0, 1, false), (1, 4, true)], none, 72, 6, none, false⟩
theorem TSP_99_ok : TypOk Tryz.prog 99 TSP_99 := ⟨by kernel_rfl, by kernel_rfl, by kernel_rfl, by kernel_rfl, by kernel_rfl⟩
def TSP_30 : TI := ⟨1, false, [Value.slice none 0 0], [], some 99, 24, 5, none, false⟩
theorem TSP_30_ok : TypOk Tryz.prog 30 TSP_30 := ⟨by kernel_rfl, by kernel_rfl, by kernel_rfl, by kernel_rfl, by kernel_rfl⟩
def TSP_29 : TI := ⟨1, false, [Value.slice none 0 0], [], some 99, 24, 5, none, false⟩
theorem TSP_29_ok : TypOk Tryz.prog 29 TSP_29 := ⟨by kernel_rfl, by kernel_rfl, by kernel_rfl, by kernel_rfl, by kernel_rfl⟩
def TSP_3 : TI := ⟨1, false, [Value.int IntKind.i64 0], [], none, 8, 2, none, false⟩
theorem TSP_3_ok : TypOk Tryz.prog 3 TSP_3 := ⟨by kernel_rfl, by kernel_rfl, by kernel_rfl, by kernel_rfl, by kernel_rfl⟩
def TSP_52 : TI := ⟨4, true, [Value.slice none 0 0, Value.int IntKind.i64 0, Value.int IntKind.i64 0, Value.slice none 0 0], [(0, 1, false), (1, 2, true), (3, 1, false)], none, 64, 6, none, false⟩
theorem TSP_52_ok : TypOk Tryz.prog 52 TSP_52 := ⟨by kernel_rfl, by kernel_rfl, by kernel_rfl, by kernel_rfl, by kernel_rfl⟩
def TSP_115 : TI := ⟨1, false, [Value.nilFunc], [], none, 8, 8, none, false⟩
theorem TSP_115_ok : TypOk Tryz.prog 115 TSP_115 := ⟨by kernel_rfl, by kernel_rfl, by kernel_rfl, by kernel_rfl, by kernel_rfl⟩
def TSP : List (Nat × TI) := [(99, TSP_99), (30, TSP_30), (29, TSP_29), (3, TSP_3), (52, TSP_52), (115, TSP_115)]
theorem TSP_ok : TabOk Tryz.prog TSP := (((((((TabOk.nil _).cons TSP_115_ok).cons TSP_52_ok).cons TSP_3_ok).cons TSP_29_ok).cons TSP_30_ok).cons TSP_99_ok)

namespace So
theorem Ch.two {α : Type} {s : Nat} {Q : List (Int × α)} (h : Ch s Q) (hl : 2 * s ≤ Q.length) (hs : 0 < s) : ∃ c d l, Q = c ++ d ++ l ∧ c.length = s ∧ d.length = s ∧ Srt c ∧ Srt d ∧ Ch s l := by
  obtain ⟨c, l, rfl, hc, hsc, hch⟩ := h.more (by omega)
  rw [List.length_append] at hl
  by_cases h1 : s < l.length
  · obtain ⟨d, l2, rfl, hd, hsd, hch2⟩ := hch.more h1
    exact ⟨c, d, l2, by rw [List.append_assoc], hc, hd, hsc, hsd, hch2⟩
  · exact ⟨c, l, [], by simp, hc, by omega, hsc, hch.one (by omega) hs, .last [] (by simp) srt_nil⟩
end So
set_option maxHeartbeats 4000000 in
theorem stableC_d (l : List (Int × Tm)) (n : Nat) (hn : l.length = n) (hM : n ≤ 1000000) :
    CallG Tryz.prog 131 [.ps 0 n, .v (.int .i64 ↑n), .fn 63 []] (symR l) (symR (So.ss l)) (.tu []) := by
  refine callG_of_dw 1 63 [] TSO_ok (by kernel_rfl) Tryz.func131 rfl Tryz.ntmps131 rfl (by simp) ?dwords ?dbody
  case dwords => simp [wordsG, rowN, rowsR, gkey, Key.eq, D.ok, D.oks, D.okss, rnames, inN, ckey, ePairs_ok]
  case dbody =>
    intro cx hnt hn0
    refine dw_seq ?_
    refine dw_k [] TSO_ok (by kernel_rfl) hnt (by kernel_rfl) (by simp; rfl) ?_
    intro K hK
    refine hK _ _ ?_
    clear hK K
    refine dw_seq ?_
    refine dw_k [] TSO_ok (by kernel_rfl) hnt (by kernel_rfl) (by simp; rfl) ?_
    intro K hK
    refine hK _ _ ?_
    clear hK K
    refine dw_seq ?_
    refine dw_block ?_
    refine dw_loop (ι := { p : List (Int × Tm) × List (Int × Tm) // So.Fu 20 p.1 ∧ So.Same (p.1 ++ p.2) l ∧ p.1.length + p.2.length = n }) (fun p => [(.t 0, .ps 0 n), (.t 1, .v (.int .i64 ↑n)), (.t 2, .fn 63 []), (.t 6, .v (.int .i64 20)), (.t 7, .v (.int .i64 ↑p.1.1.length)), (.t 8, .v (.int .i64 ↑(p.1.1.length + 20))), (.r 0, .rp 99 5 (ePairs (p.1.1 ++ p.1.2)))]) 1 (fun p => p.1.2.length) (⟨([], l), .nil, So.Same.refl _, by simpa using hn⟩) ((VS.toK (by first | omega | simp [hn0]) (by repeat first | exact trivial | refine And.intro (And.intro (by first | rfl | simp [D.ok, D.oks, D.okss, D.okm, eTm_ok, eTy_ok, eTys_ok, eTms_ok, upto, keyOk, ePairs_ok, argsT]) (by first | exact Or.inl rfl | exact Or.inr ⟨_, rfl, (by repeat first | exact VLe.refl _ | exact VLe.nil _ | exact VLe.untag _ _ _ | refine VLe.ag ?_ | refine VLe.tu ?_ | refine VLeL.cons ?_ ?_ | exact VLeL.nil), trivial⟩ | simp [get, Key.eq, ePairs_ok, argsT])) ?_))) fun j => ?_
    obtain ⟨⟨P, Q⟩, hF, hS, hl⟩ := j
    dsimp only at hF hS hl ⊢
    by_cases hb : P.length + 20 ≤ n
    · obtain ⟨Q1, Q2, rfl, h20⟩ : ∃ Q1 Q2, Q = Q1 ++ Q2 ∧ Q1.length = 20 := ⟨Q.take 20, Q.drop 20, (List.take_append_drop _ _).symm, by simp; omega⟩
      rw [List.length_append] at hl
      have hins := insSort_d P Q1 Q2 n P.length (P.length + 20) (by simp; omega) rfl (by omega) hM
      rw [← List.append_assoc]
      refine dw_seq ?_
      refine dw_seq ?_
      refine dw_k [(13, .v (.bool true))] TSO_ok (by kernel_rfl) hnt (by kernel_rfl) (by simp; rfl) ?_
      intro K hK
      refine And.intro (by first | exact dtrue (by omega) | exact VLe.of_eq (by simp [*]; done) | exact dtrue (by first | omega | (simp only [List.length_append, List.length_take, List.length_cons, List.length_nil, eTms_len, eTys_len]; omega) | assumption | (simp_all; done)) | exact VLe.of_eq (by simp_all; done)) ?_
      refine hK _ _ ?_
      clear hK K
      refine dw_cond (t := true) rfl ?_
      rw [if_pos rfl]
      refine dw_skip ?_
      refine dw_block ?_
      refine dw_seq ?_
      refine dw_k [] TSO_ok (by kernel_rfl) hnt (by kernel_rfl) (by simp; rfl) ?_
      intro K hK
      refine ⟨_, _, _, Or.inr (CallG.n (hins) _), by repeat first | exact trivial | refine And.intro ⟨rfl, rfl⟩ ?_, ?_⟩
      refine hK _ _ ?_
      clear hK K
      refine dw_seq ?_
      refine dw_k [(7, .v (.int .i64 ↑(P ++ So.ss Q1).length))] TSO_ok (by kernel_rfl) hnt (by kernel_rfl) (by simp; rfl) ?_
      intro K hK
      refine And.intro (VLe.of_eq (by rw [List.length_append, So.ss_len, h20])) ?_
      refine hK _ _ ?_
      clear hK K
      refine dw_k [(22, .v (.int .i64 (↑((P ++ So.ss Q1).length + 20))))] TSO_ok (by kernel_rfl) hnt (by kernel_rfl) (by simp; rfl) ?_
      intro K hK
      refine And.intro (dintE (by rw [IntWalk.i64_in _ (by omega)]; simp [So.ss_len]; omega)) ?_
      refine hK _ _ ?_
      clear hK K
      refine ⟨⟨(P ++ So.ss Q1, Q2), hF.snoc (by rw [So.ss_len, h20]) (So.ss_srt _), So.Same.trans (by simpa using ((So.Same.refl P).app ((So.ss_same Q1).app (So.Same.refl Q2)))) (by simpa using hS), by simp [So.ss_len]; omega⟩, by simp; omega, (VS.toK (by first | omega | simp [hn0]) (by repeat first | exact trivial | refine And.intro (And.intro (by first | rfl | simp [D.ok, D.oks, D.okss, D.okm, eTm_ok, eTy_ok, eTys_ok, eTms_ok, upto, keyOk, ePairs_ok]) (by first | exact Or.inl rfl | exact Or.inr ⟨_, rfl, (by repeat first | exact VLe.refl _ | exact VLe.nil _ | exact VLe.untag _ _ _ | refine VLe.ag ?_ | refine VLe.tu ?_ | refine VLeL.cons ?_ ?_ | exact VLeL.nil), trivial⟩ | simp [get, Key.eq, ePairs_ok])) ?_))⟩
    · have hins := insSort_d P Q [] n P.length n (by simp; omega) rfl hl hM
      rw [List.append_nil, List.append_nil] at hins
      refine dw_seq ?_
      refine dw_seq ?_
      refine dw_k [(13, .v (.bool false))] TSO_ok (by kernel_rfl) hnt (by kernel_rfl) (by simp; rfl) ?_
      intro K hK
      refine And.intro (by first | exact dfalse (by omega) | exact VLe.of_eq (by simp [*]; done) | exact dfalse (by first | omega | (simp only [List.length_append, List.length_take, List.length_cons, List.length_nil, eTms_len, eTys_len]; omega) | assumption | (simp_all; done)) | exact VLe.of_eq (by simp_all; done)) ?_
      refine hK _ _ ?_
      clear hK K
      refine dw_cond (t := false) rfl ?_
      rw [if_neg (by simp)]
      refine dw_exit ?_
      refine dw_seq ?_
      refine dw_k [] TSO_ok (by kernel_rfl) hnt (by kernel_rfl) (by simp; rfl) ?_
      intro K hK
      refine ⟨_, _, _, Or.inr (CallG.n (hins) _), by repeat first | exact trivial | refine And.intro ⟨rfl, rfl⟩ ?_, ?_⟩
      refine hK _ _ ?_
      clear hK K
      refine dw_block ?_
      refine dw_loop (ι := { p : Nat × List (Int × Tm) // 0 < p.1 ∧ p.1 ≤ 20 + 2 * n ∧ So.Ch p.1 p.2 ∧ So.Same p.2 l ∧ p.2.length = n }) (fun p => [(.t 0, .ps 0 n), (.t 1, .v (.int .i64 ↑n)), (.t 2, .fn 63 []), (.t 6, .v (.int .i64 ↑p.1.1)), (.r 0, .rp 99 5 (ePairs p.1.2))]) 1 (fun p => n - p.1.1) (⟨(20, P ++ So.ss Q), by dsimp only; omega, by dsimp only; omega, hF.ch (.last _ (by rw [So.ss_len]; omega) (So.ss_srt _)), ((So.Same.refl P).app (So.ss_same Q)).trans hS, by simp [So.ss_len]; omega⟩) ((VS.toK (by first | omega | simp [hn0]) (by repeat first | exact trivial | refine And.intro (And.intro (by first | rfl | simp [D.ok, D.oks, D.okss, D.okm, eTm_ok, eTy_ok, eTys_ok, eTms_ok, upto, keyOk, ePairs_ok]) (by first | exact Or.inl rfl | exact Or.inr ⟨_, rfl, (by repeat first | exact VLe.refl _ | exact VLe.nil _ | exact VLe.untag _ _ _ | refine VLe.ag ?_ | refine VLe.tu ?_ | refine VLeL.cons ?_ ?_ | exact VLeL.nil), trivial⟩ | simp [get, Key.eq, ePairs_ok])) ?_))) fun j => ?_
      clear hins hF hS hl hb P Q
      obtain ⟨⟨s, L⟩, h0, hbd, hC, hS, hl⟩ := j
      dsimp only at h0 hbd hC hS hl ⊢
      by_cases hsn : s < n
      · skip
        refine dw_seq ?_
        refine dw_seq ?_
        refine dw_k [(30, .v (.bool true))] TSO_ok (by kernel_rfl) hnt (by kernel_rfl) (by simp; rfl) ?_
        intro K hK
        refine And.intro (by first | exact dtrue (by omega) | exact VLe.of_eq (by simp [*]; done) | exact dtrue (by first | omega | (simp only [List.length_append, List.length_take, List.length_cons, List.length_nil, eTms_len, eTys_len]; omega) | assumption | (simp_all; done)) | exact VLe.of_eq (by simp_all; done)) ?_
        refine hK _ _ ?_
        clear hK K
        refine dw_cond (t := true) rfl ?_
        rw [if_pos rfl]
        refine dw_skip ?_
        refine dw_block ?_
        refine dw_seq ?_
        refine dw_k [(32, .v (.int .i64 (↑(2 * s)))), (8, .v (.int .i64 ↑(0 + 2 * s)))] TSO_ok (by kernel_rfl) hnt (by kernel_rfl) (by simp; rfl) ?_
        intro K hK
        refine And.intro (dintE (by first | omega | exact IntWalk.i64_in _ (by omega) | (rw [IntWalk.i64_in _ (by omega)]; omega) | omega | (simp only [List.length_append, List.length_take, List.length_cons, List.length_nil, eTms_len, eTys_len]; omega) | assumption | (simp_all; done))) ?_
        refine And.intro (VLe.of_eq (by rw [Nat.zero_add])) ?_
        refine hK _ _ ?_
        clear hK K
        refine dw_seq ?_
        refine dw_block ?_
        refine dw_loop (ι := { p : List (Int × Tm) × List (Int × Tm) // So.Fu (2 * s) p.1 ∧ So.Ch s p.2 ∧ So.Same (p.1 ++ p.2) l ∧ p.1.length + p.2.length = n }) (fun p => [(.t 0, .ps 0 n), (.t 1, .v (.int .i64 ↑n)), (.t 2, .fn 63 []), (.t 6, .v (.int .i64 ↑s)), (.t 7, .v (.int .i64 ↑p.1.1.length)), (.t 8, .v (.int .i64 ↑(p.1.1.length + 2 * s))), (.r 0, .rp 99 5 (ePairs (p.1.1 ++ p.1.2)))]) 1 (fun p => p.1.2.length) (⟨([], L), .nil, hC, hS, by simpa using hl⟩) ((VS.toK (by first | omega | simp [hn0]) (by repeat first | exact trivial | refine And.intro (And.intro (by first | rfl | simp [D.ok, D.oks, D.okss, D.okm, eTm_ok, eTy_ok, eTys_ok, eTms_ok, upto, keyOk, ePairs_ok, Nat.zero_add]) (by first | exact Or.inl rfl | exact Or.inr ⟨_, rfl, (by repeat first | exact VLe.refl _ | exact VLe.nil _ | exact VLe.untag _ _ _ | refine VLe.ag ?_ | refine VLe.tu ?_ | refine VLeL.cons ?_ ?_ | exact VLeL.nil), trivial⟩ | simp [get, Key.eq, ePairs_ok, Nat.zero_add])) ?_))) fun j => ?_
        clear hC hS hl L
        obtain ⟨⟨P, Q⟩, hF, hC, hS, hl⟩ := j
        dsimp only at hF hC hS hl ⊢
        by_cases hb : P.length + 2 * s ≤ n
        · obtain ⟨c, d, Q2, rfl, hc, hd, sc, sd, hC2⟩ := hC.two (by omega) h0
          rw [List.length_append, List.length_append] at hl
          have hm := symM_d P c d Q2 n P.length (P.length + s) (P.length + 2 * s) (by simp; omega) rfl (by omega) (by omega) (by omega) (by omega) sc sd hM
          have e1 : P ++ (c ++ d ++ Q2) = P ++ c ++ d ++ Q2 := by simp
          rw [e1]
          refine dw_seq ?_
          refine dw_seq ?_
          refine dw_k [(35, .v (.bool true))] TSO_ok (by kernel_rfl) hnt (by kernel_rfl) (by simp; rfl) ?_
          intro K hK
          refine And.intro (by first | exact dtrue (by omega) | exact VLe.of_eq (by simp [*]; done) | exact dtrue (by first | omega | (simp only [List.length_append, List.length_take, List.length_cons, List.length_nil, eTms_len, eTys_len]; omega) | assumption | (simp_all; done)) | exact VLe.of_eq (by simp_all; done)) ?_
          refine hK _ _ ?_
          clear hK K
          refine dw_cond (t := true) rfl ?_
          rw [if_pos rfl]
          refine dw_skip ?_
          refine dw_block ?_
          refine dw_seq ?_
          refine dw_k [(40, .v (.int .i64 (↑(P.length + s))))] TSO_ok (by kernel_rfl) hnt (by kernel_rfl) (by simp; rfl) ?_
          intro K hK
          refine And.intro (dintE (by first | omega | exact IntWalk.i64_in _ (by omega) | (rw [IntWalk.i64_in _ (by omega)]; omega) | omega | (simp only [List.length_append, List.length_take, List.length_cons, List.length_nil, eTms_len, eTys_len]; omega) | assumption | (simp_all; done))) ?_
          refine ⟨_, _, _, Or.inr (CallG.n (hm) _), by repeat first | exact trivial | refine And.intro ⟨rfl, rfl⟩ ?_, ?_⟩
          refine hK _ _ ?_
          clear hK K
          refine dw_seq ?_
          refine dw_k [(7, .v (.int .i64 ↑(P ++ So.ss (c ++ d)).length))] TSO_ok (by kernel_rfl) hnt (by kernel_rfl) (by simp; rfl) ?_
          intro K hK
          refine And.intro (VLe.of_eq (by rw [List.length_append, So.ss_len, List.length_append, hc, hd, Nat.two_mul])) ?_
          refine hK _ _ ?_
          clear hK K
          refine dw_k [(47, .v (.int .i64 (↑(2 * s)))), (48, .v (.int .i64 (↑((P ++ So.ss (c ++ d)).length + 2 * s))))] TSO_ok (by kernel_rfl) hnt (by kernel_rfl) (by simp; rfl) ?_
          intro K hK
          refine And.intro (dintE (by first | omega | exact IntWalk.i64_in _ (by omega) | (rw [IntWalk.i64_in _ (by omega)]; omega) | omega | (simp only [List.length_append, List.length_take, List.length_cons, List.length_nil, eTms_len, eTys_len]; omega) | assumption | (simp_all; done))) ?_
          refine And.intro (dintE (by rw [IntWalk.i64_in _ (by omega)]; simp [So.ss_len]; omega)) ?_
          refine hK _ _ ?_
          clear hK K
          refine ⟨⟨(P ++ So.ss (c ++ d), Q2), hF.snoc (by rw [So.ss_len, List.length_append]; omega) (So.ss_srt _), hC2, So.Same.trans (by simpa using ((So.Same.refl P).app ((So.ss_same (c ++ d)).app (So.Same.refl Q2)))) (by simpa using hS), by simp [So.ss_len]; omega⟩, by simp; omega, (VS.toK (by first | omega | simp [hn0]) (by repeat first | exact trivial | refine And.intro (And.intro (by first | rfl | simp [D.ok, D.oks, D.okss, D.okm, eTm_ok, eTy_ok, eTys_ok, eTms_ok, upto, keyOk, ePairs_ok]) (by first | exact Or.inl rfl | exact Or.inr ⟨_, rfl, (by repeat first | exact VLe.refl _ | exact VLe.nil _ | exact VLe.untag _ _ _ | refine VLe.ag ?_ | refine VLe.tu ?_ | refine VLeL.cons ?_ ?_ | exact VLeL.nil), trivial⟩ | simp [get, Key.eq, ePairs_ok])) ?_))⟩
        · by_cases hq : s < Q.length
          · obtain ⟨c, d, rfl, hc, sc, hC2⟩ := hC.more hq
            rw [List.length_append] at hl hq
            have sd := hC2.one (by omega) h0
            have hm := symM_d P c d [] n P.length (P.length + s) n (by simp; omega) rfl (by omega) (by omega) (by omega) (by omega) sc sd hM
            have e1 : P ++ (c ++ d) = P ++ c ++ d := by simp
            rw [List.append_nil, List.append_nil] at hm
            rw [e1]
            refine dw_seq ?_
            refine dw_seq ?_
            refine dw_k [(35, .v (.bool false))] TSO_ok (by kernel_rfl) hnt (by kernel_rfl) (by simp; rfl) ?_
            intro K hK
            refine And.intro (by first | exact dfalse (by omega) | exact VLe.of_eq (by simp [*]; done) | exact dfalse (by first | omega | (simp only [List.length_append, List.length_take, List.length_cons, List.length_nil, eTms_len, eTys_len]; omega) | assumption | (simp_all; done)) | exact VLe.of_eq (by simp_all; done)) ?_
            refine hK _ _ ?_
            clear hK K
            refine dw_cond (t := false) rfl ?_
            rw [if_neg (by simp)]
            refine dw_exit ?_
            refine dw_seq ?_
            refine dw_seq ?_
            refine dw_k [(51, .v (.int .i64 (↑(P.length + s))))] TSO_ok (by kernel_rfl) hnt (by kernel_rfl) (by simp; rfl) ?_
            intro K hK
            refine And.intro (dintE (by first | omega | exact IntWalk.i64_in _ (by omega) | (rw [IntWalk.i64_in _ (by omega)]; omega) | omega | (simp only [List.length_append, List.length_take, List.length_cons, List.length_nil, eTms_len, eTys_len]; omega) | assumption | (simp_all; done))) ?_
            refine hK _ _ ?_
            clear hK K
            refine dw_seq ?_
            refine dw_k [(54, .v (.bool true))] TSO_ok (by kernel_rfl) hnt (by kernel_rfl) (by simp; rfl) ?_
            intro K hK
            refine And.intro (by first | exact dtrue (by omega) | exact VLe.of_eq (by simp [*]; done) | exact dtrue (by first | omega | (simp only [List.length_append, List.length_take, List.length_cons, List.length_nil, eTms_len, eTys_len]; omega) | assumption | (simp_all; done)) | exact VLe.of_eq (by simp_all; done)) ?_
            refine hK _ _ ?_
            clear hK K
            refine dw_cond (t := true) rfl ?_
            rw [if_pos rfl]
            refine dw_k [] TSO_ok (by kernel_rfl) hnt (by kernel_rfl) (by simp; rfl) ?_
            intro K hK
            refine ⟨_, _, _, Or.inr (CallG.n (hm) _), by repeat first | exact trivial | refine And.intro ⟨rfl, rfl⟩ ?_, ?_⟩
            refine hK _ _ ?_
            clear hK K
            refine dw_k [(62, .v (.int .i64 (↑(2 * s))))] TSO_ok (by kernel_rfl) hnt (by kernel_rfl) (by simp; rfl) ?_
            intro K hK
            refine And.intro (dintE (by first | omega | exact IntWalk.i64_in _ (by omega) | (rw [IntWalk.i64_in _ (by omega)]; omega) | omega | (simp only [List.length_append, List.length_take, List.length_cons, List.length_nil, eTms_len, eTys_len]; omega) | assumption | (simp_all; done))) ?_
            refine hK _ _ ?_
            clear hK K
            refine ⟨⟨(2 * s, P ++ So.ss (c ++ d)), by dsimp only; omega, by dsimp only; omega, hF.ch (.last _ (by rw [So.ss_len, List.length_append]; omega) (So.ss_srt _)), So.Same.trans ((So.Same.refl P).app (So.ss_same (c ++ d))) hS, by simp [So.ss_len]; omega⟩, by first | omega | (dsimp only; omega), (VS.toK (by first | omega | simp [hn0]) (by repeat first | exact trivial | refine And.intro (And.intro (by first | rfl | simp [D.ok, D.oks, D.okss, D.okm, eTm_ok, eTy_ok, eTys_ok, eTms_ok, upto, keyOk, ePairs_ok]) (by first | exact Or.inl rfl | exact Or.inr ⟨_, rfl, (by repeat first | exact VLe.refl _ | exact VLe.nil _ | exact VLe.untag _ _ _ | refine VLe.ag ?_ | refine VLe.tu ?_ | refine VLeL.cons ?_ ?_ | exact VLeL.nil), trivial⟩ | simp [get, Key.eq, ePairs_ok])) ?_))⟩
          · have sq := hC.one (by omega) h0
            refine dw_seq ?_
            refine dw_seq ?_
            refine dw_k [(35, .v (.bool false))] TSO_ok (by kernel_rfl) hnt (by kernel_rfl) (by simp; rfl) ?_
            intro K hK
            refine And.intro (by first | exact dfalse (by omega) | exact VLe.of_eq (by simp [*]; done) | exact dfalse (by first | omega | (simp only [List.length_append, List.length_take, List.length_cons, List.length_nil, eTms_len, eTys_len]; omega) | assumption | (simp_all; done)) | exact VLe.of_eq (by simp_all; done)) ?_
            refine hK _ _ ?_
            clear hK K
            refine dw_cond (t := false) rfl ?_
            rw [if_neg (by simp)]
            refine dw_exit ?_
            refine dw_seq ?_
            refine dw_seq ?_
            refine dw_k [(51, .v (.int .i64 (↑(P.length + s))))] TSO_ok (by kernel_rfl) hnt (by kernel_rfl) (by simp; rfl) ?_
            intro K hK
            refine And.intro (dintE (by first | omega | exact IntWalk.i64_in _ (by omega) | (rw [IntWalk.i64_in _ (by omega)]; omega) | omega | (simp only [List.length_append, List.length_take, List.length_cons, List.length_nil, eTms_len, eTys_len]; omega) | assumption | (simp_all; done))) ?_
            refine hK _ _ ?_
            clear hK K
            refine dw_seq ?_
            refine dw_k [(54, .v (.bool false))] TSO_ok (by kernel_rfl) hnt (by kernel_rfl) (by simp; rfl) ?_
            intro K hK
            refine And.intro (by first | exact dfalse (by omega) | exact VLe.of_eq (by simp [*]; done) | exact dfalse (by first | omega | (simp only [List.length_append, List.length_take, List.length_cons, List.length_nil, eTms_len, eTys_len]; omega) | assumption | (simp_all; done)) | exact VLe.of_eq (by simp_all; done)) ?_
            refine hK _ _ ?_
            clear hK K
            refine dw_cond (t := false) rfl ?_
            rw [if_neg (by simp)]
            refine dw_skip ?_
            refine dw_k [(62, .v (.int .i64 (↑(2 * s))))] TSO_ok (by kernel_rfl) hnt (by kernel_rfl) (by simp; rfl) ?_
            intro K hK
            refine And.intro (dintE (by first | omega | exact IntWalk.i64_in _ (by omega) | (rw [IntWalk.i64_in _ (by omega)]; omega) | omega | (simp only [List.length_append, List.length_take, List.length_cons, List.length_nil, eTms_len, eTys_len]; omega) | assumption | (simp_all; done))) ?_
            refine hK _ _ ?_
            clear hK K
            refine ⟨⟨(2 * s, P ++ Q), by dsimp only; omega, by dsimp only; omega, hF.ch (.last _ (by omega) sq), hS, by simp; omega⟩, by first | omega | (dsimp only; omega), (VS.toK (by first | omega | simp [hn0]) (by repeat first | exact trivial | refine And.intro (And.intro (by first | rfl | simp [D.ok, D.oks, D.okss, D.okm, eTm_ok, eTy_ok, eTys_ok, eTms_ok, upto, keyOk, ePairs_ok]) (by first | exact Or.inl rfl | exact Or.inr ⟨_, rfl, (by repeat first | exact VLe.refl _ | exact VLe.nil _ | exact VLe.untag _ _ _ | refine VLe.ag ?_ | refine VLe.tu ?_ | refine VLeL.cons ?_ ?_ | exact VLeL.nil), trivial⟩ | simp [get, Key.eq, ePairs_ok])) ?_))⟩
      · have hsrt := hC.one (by omega) h0
        have hfin : So.ss l = L := So.ss_eq hsrt hS
        rw [hfin]
        refine dw_seq ?_
        refine dw_seq ?_
        refine dw_k [(30, .v (.bool false))] TSO_ok (by kernel_rfl) hnt (by kernel_rfl) (by simp; rfl) ?_
        intro K hK
        refine And.intro (by first | exact dfalse (by omega) | exact VLe.of_eq (by simp [*]; done) | exact dfalse (by first | omega | (simp only [List.length_append, List.length_take, List.length_cons, List.length_nil, eTms_len, eTys_len]; omega) | assumption | (simp_all; done)) | exact VLe.of_eq (by simp_all; done)) ?_
        refine hK _ _ ?_
        clear hK K
        refine dw_cond (t := false) rfl ?_
        rw [if_neg (by simp)]
        refine dw_exit ?_
        exact retv (N := 0) (.inl rfl) rfl (by repeat first | exact VLe.refl _ | exact VLe.nil _ | exact VLe.untag _ _ _ | refine VLe.ag ?_ | refine VLe.tu ?_ | refine VLeL.cons ?_ ?_ | exact VLeL.nil) (by repeat first | exact trivial | refine And.intro rfl ?_)
theorem stable_d (l : List (Int × Tm)) (n : Nat) (hn : l.length = n) (hM : n ≤ 1000000) :
    CallG Tryz.prog 106 [.ps 0 n, .fn 63 []] (symR l) (symR (So.ss l)) (.tu []) := by
  have hs := stableC_d l n hn hM
  refine callG_of_dw 1 9 [] TSO_ok (by kernel_rfl) Tryz.func106 rfl Tryz.ntmps106 rfl (by simp) ?dwords ?dbody
  case dwords => simp [wordsG, rowN, rowsR, gkey, Key.eq, D.ok, D.oks, D.okss, rnames, inN, ckey, ePairs_ok]
  case dbody =>
    intro cx hnt hn0
    refine dw_k [] TSO_ok (by kernel_rfl) hnt (by kernel_rfl) (by simp; rfl) ?_
    intro K hK
    refine ⟨_, _, _, Or.inr (CallG.n (hs) _), by repeat first | exact trivial | refine And.intro ⟨rfl, rfl⟩ ?_, ?_⟩
    refine hK _ _ ?_
    clear hK K
    exact retv (N := 0) (.inl rfl) rfl (by repeat first | exact VLe.refl _ | exact VLe.nil _ | exact VLe.untag _ _ _ | refine VLe.ag ?_ | refine VLe.tu ?_ | refine VLeL.cons ?_ ?_ | exact VLeL.nil) (by repeat first | exact trivial | refine And.intro rfl ?_)
theorem sortedN_d (l : List (Int × Tm)) (hl : l.length ≤ 1000000) (ht : ∀ p ∈ l, p.2.full ≤ 80000 ∧ p.2.Fit) (nm : Nat) : CallN Tryz.prog 62 [.sl 5 (ePairs l) none] [] nm [(.r nm, .rw 99 5 l.length)] (.sl 5 (ePairs (So.ss l)) (some nm)) := by
  have hst := stable_d l l.length rfl hl
  refine callRow_of_dw 25 [ResultVar.tmp 2] TSP_ok (by kernel_rfl) Tryz.func62 rfl Tryz.ntmps62 rfl (by simp) (by simp [D.ok, ePairs_ok]) (by simp [D.okss, ePairs_ok]) ?dbody nm
  case dbody =>
    intro cx hnt hn0
    refine dw_seq ?_
    refine dw_k [] TSP_ok (by kernel_rfl) hnt (by kernel_rfl) (by simp; rfl) ?_
    intro K hK
    refine hK _ _ ?_
    clear hK K
    refine dw_cut (τ := [(.t 0, .sl 5 (ePairs l) none), (.t 3, .v (.slice none 0 0))]) (N1 := 0) ?_ ?_
    · skip
      refine dw_k [] TSP_ok (by kernel_rfl) hnt (by kernel_rfl) (by simp; rfl) ?_
      intro K hK
      refine hK _ _ ?_
      clear hK K
      exact cut_ok (VS.toK (by first | omega | simp [hn0]) (by repeat first | exact trivial | refine And.intro (And.intro (by first | rfl | simp [D.ok, D.oks, D.okss, D.okm, eTm_ok, eTy_ok, eTys_ok, eTms_ok, upto, keyOk, ePairs_ok, argsT]) (by first | exact Or.inl rfl | exact Or.inr ⟨_, rfl, (by repeat first | exact VLe.refl _ | exact VLe.nil _ | exact VLe.untag _ _ _ | refine VLe.ag ?_ | refine VLe.tu ?_ | refine VLeL.cons ?_ ?_ | exact VLeL.nil), trivial⟩ | simp [get, Key.eq, ePairs_ok, argsT])) ?_))
    · refine DW.vs (VS.rowPT (x := 3) (by rw [hnt]; decide) 99 5 rfl) ?_
      refine dw_seq ?_
      refine dw_seq ?_
      refine dw_k [(7, .v (.int .i64 (↑l.length)))] TSP_ok (by kernel_rfl) hnt (by kernel_rfl) (by simp; rfl) ?_
      intro K hK
      refine And.intro (dintE (by rw [ePairs_len])) ?_
      refine hK _ _ ?_
      clear hK K
      refine dw_block ?_
      refine dw_loop (ι := { k : Nat // k ≤ l.length }) (fun k => [(.t 3, .ps 0 k.1), (.t 6, .sl 5 (ePairs l) none), (.t 7, .v (.int .i64 ↑l.length)), (.t 8, .v (.int .i64 ↑k.1)), (.r 0, .rp 99 5 (ePairs (l.take k.1)))]) 1 (fun k => l.length - k.1) (⟨0, Nat.zero_le _⟩) ((VS.toK (by first | omega | simp [hn0]) (by repeat first | exact trivial | refine And.intro (And.intro (by first | rfl | simp [D.ok, D.oks, D.okss, D.okm, eTm_ok, eTy_ok, eTys_ok, eTms_ok, upto, keyOk, ePairs_ok, argsT]) (by first | exact Or.inl rfl | exact Or.inr ⟨_, rfl, (by repeat first | exact VLe.refl _ | exact VLe.nil _ | exact VLe.untag _ _ _ | refine VLe.ag ?_ | refine VLe.tu ?_ | refine VLeL.cons ?_ ?_ | exact VLeL.nil), trivial⟩ | simp [get, Key.eq, ePairs_ok, argsT])) ?_))) fun k => ?_
      obtain ⟨k, hk⟩ := k
      dsimp only
      by_cases hlt : k < l.length
      · have hc := copy_d l[k].2 (ht _ (List.getElem_mem hlt)).1 (ht _ (List.getElem_mem hlt)).2
        rw [eTm_eq] at hc
        have htk : ePairs (l.take k) ++ [[.v (.int .i64 l[k].1), .sl 2 (eTys l[k].2.binds) none, .v (.int .i64 l[k].2.kind), .v (.int .i64 l[k].2.index), .sl 4 (eTms l[k].2.args) none]] = ePairs (l.take (k + 1)) := by
          rw [List.take_add_one, List.getElem?_eq_getElem hlt, ← ePair_eq]
          show List.map ePair (l.take k) ++ [ePair l[k]] = List.map ePair (l.take k ++ [l[k]])
          rw [List.map_append]; rfl
        refine dw_seq ?_
        refine dw_k [(9, .v (.bool true))] TSP_ok (by kernel_rfl) hnt (by kernel_rfl) (by simp; rfl) ?_
        intro K hK
        refine And.intro (by first | exact dtrue (by omega) | exact VLe.of_eq (by simp [*]; done) | exact dtrue (by first | omega | (simp only [List.length_append, List.length_take, List.length_cons, List.length_nil, eTms_len, eTys_len]; omega) | assumption | (simp_all; done)) | exact VLe.of_eq (by simp_all; done)) ?_
        refine hK _ _ ?_
        clear hK K
        refine dw_seq ?_
        refine dw_cond (t := true) rfl ?_
        rw [if_pos rfl]
        refine dw_skip ?_
        refine dw_seq ?_
        refine dw_block ?_
        refine dw_seq ?_
        refine dw_k [(10, .q [.v (.int .i64 l[k].1), .sl 2 (eTys l[k].2.binds) none, .v (.int .i64 l[k].2.kind), .v (.int .i64 l[k].2.index), .sl 4 (eTms l[k].2.args) none])] TSP_ok (by kernel_rfl) hnt (by kernel_rfl) (by simp; rfl) ?_
        intro K hK
        refine And.intro (by first | exact ⟨by omega, by rw [ePairs_len]; omega⟩ | (simp only [ePairs_len]; omega)) ?_
        refine And.intro (VLe.of_eq (by rw [show (Int.toNat ((k : Nat) : Int)) = k by omega, ePairs_getD l k (by omega), ePair_eq])) ?_
        refine hK _ _ ?_
        clear hK K
        refine dw_kD [(20, .ps 0 (k + 1))] TSP_ok (by kernel_rfl) hnt (by kernel_rfl) (by simp; rfl) ?_
        intro K hK
        refine ⟨_, _, _, Or.inl (hc), by repeat first | exact trivial | refine And.intro ⟨rfl, rfl⟩ ?_, ?_⟩
        refine And.intro (⟨by simp [ePairs_len]; omega, by simp [ePairs_len]; omega⟩) ?_
        refine And.intro (VLe.refl _) ?_
        refine hK _ _ (by kernel_rfl) ?_
        clear hK K
        rw [htk]
        refine dw_k [(21, .v (.int .i64 (↑(k + 1))))] TSP_ok (by kernel_rfl) hnt (by kernel_rfl) (by simp; rfl) ?_
        intro K hK
        refine And.intro (dintE (by first | omega | exact IntWalk.i64_in _ (by omega) | (rw [IntWalk.i64_in _ (by omega)]; omega) | omega | (simp only [List.length_append, List.length_take, List.length_cons, List.length_nil, eTms_len, eTys_len]; omega) | assumption | (simp_all; done))) ?_
        refine hK _ _ ?_
        clear hK K
        refine ⟨⟨k + 1, by omega⟩, by first | omega | (dsimp only; omega), (VS.toK (by first | omega | simp [hn0]) (by repeat first | exact trivial | refine And.intro (And.intro (by first | rfl | simp [D.ok, D.oks, D.okss, D.okm, eTm_ok, eTy_ok, eTys_ok, eTms_ok, upto, keyOk, ePairs_ok]) (by first | exact Or.inl rfl | exact Or.inr ⟨_, rfl, (by repeat first | exact VLe.refl _ | exact VLe.nil _ | exact VLe.untag _ _ _ | refine VLe.ag ?_ | refine VLe.tu ?_ | refine VLeL.cons ?_ ?_ | exact VLeL.nil), trivial⟩ | simp [get, Key.eq, ePairs_ok])) ?_))⟩
      · have hke : l.take k = l := List.take_of_length_le (by omega)
        have hkl : k = l.length := by omega
        rw [hke, hkl]
        refine dw_seq ?_
        refine dw_k [(9, .v (.bool false))] TSP_ok (by kernel_rfl) hnt (by kernel_rfl) (by simp; rfl) ?_
        intro K hK
        refine And.intro (by first | exact dfalse (by omega) | exact VLe.of_eq (by simp [*]; done) | exact dfalse (by first | omega | (simp only [List.length_append, List.length_take, List.length_cons, List.length_nil, eTms_len, eTys_len]; omega) | assumption | (simp_all; done)) | exact VLe.of_eq (by simp_all; done)) ?_
        refine hK _ _ ?_
        clear hK K
        refine dw_seq ?_
        refine dw_cond (t := false) rfl ?_
        rw [if_neg (by simp)]
        refine dw_exit ?_
        refine dw_seq ?_
        refine dw_k [] TSP_ok (by kernel_rfl) hnt (by kernel_rfl) (by simp; rfl) ?_
        intro K hK
        refine ⟨_, _, _, Or.inr (CallG.n (hst) _), by repeat first | exact trivial | refine And.intro ⟨rfl, rfl⟩ ?_, ?_⟩
        refine hK _ _ ?_
        clear hK K
        refine dw_seq ?_
        refine dw_k [] TSP_ok (by kernel_rfl) hnt (by kernel_rfl) (by simp; rfl) ?_
        intro K hK
        refine hK _ _ ?_
        clear hK K
        refine dw_freeze (x := 2) (g := 0) rfl rfl (ePairs_len _ |>.trans (So.ss_len l)) ?_
        rw [show (ePairs (So.ss l)).length = l.length by rw [ePairs_len, So.ss_len]]
        refine dw_ret ?_
        exact ⟨.inr rfl, 0, rfl, rfl⟩
theorem sOf_d (l : List (Int × Tm)) (hl : l.length ≤ 1000000) (ht : ∀ p ∈ l, p.2.full ≤ 80000 ∧ p.2.Fit) : PureC Tryz.prog 20 [.sl 5 (ePairs l) none] (.tu [.sl 5 (if Sb.right (So.ss l) then ePairs (So.ss l) else []) none, .v (.int .i64 (if Sb.right (So.ss l) then 0 else 1))]) := by
  have hs := sortedN_d l hl ht
  have hr := sright_d (So.ss l) (by rw [So.ss_len]; exact hl)
  cases h : Sb.right (So.ss l) with
  | true =>
    rw [h] at hr
    rw [if_pos rfl, if_pos rfl]
    refine call_of_dw 0 11 [ResultVar.tmp 2, ResultVar.tmp 3] TSP_ok (by kernel_rfl) Tryz.func20 rfl Tryz.ntmps20 rfl (by simp) ?dwords ?dbody
    case dwords => simp [wordsOk, D.ok, D.oks, D.okss, rnames, inN, ckey, ePairs_ok]
    case dbody =>
      intro cx hnt hn0
      refine dw_seq ?_
      refine dw_k [] TSP_ok (by kernel_rfl) hnt (by kernel_rfl) (by simp; rfl) ?_
      intro K hK
      refine hK _ _ ?_
      clear hK K
      refine dw_seq ?_
      refine dw_k [(6, .sl 5 (ePairs (So.ss l)) none)] TSP_ok (by kernel_rfl) hnt (by kernel_rfl) (by simp; rfl) ?_
      intro K hK
      refine ⟨_, _, _, Or.inr (hs _), by repeat first | exact trivial | refine And.intro ⟨rfl, rfl⟩ ?_, ?_⟩
      refine And.intro (VLe.untag _ _ _) ?_
      refine hK _ _ ?_
      clear hK K
      refine dw_seq ?_
      refine dw_seq ?_
      refine dw_k [] TSP_ok (by kernel_rfl) hnt (by kernel_rfl) (by simp; rfl) ?_
      intro K hK
      refine ⟨_, _, _, Or.inl (hr), by repeat first | exact trivial | refine And.intro ⟨rfl, rfl⟩ ?_, ?_⟩
      refine hK _ _ ?_
      clear hK K
      refine dw_cond (t := false) rfl ?_
      rw [if_neg (by simp)]
      refine dw_skip ?_
      refine dw_seq ?_
      refine dw_k [] TSP_ok (by kernel_rfl) hnt (by kernel_rfl) (by simp; rfl) ?_
      intro K hK
      refine hK _ _ ?_
      clear hK K
      refine dw_ret ?_
      exact retv (N := 0) (.inr rfl) rfl (by repeat first | exact VLe.refl _ | exact VLe.nil _ | exact VLe.untag _ _ _ | refine VLe.ag ?_ | refine VLe.tu ?_ | refine VLeL.cons ?_ ?_ | exact VLeL.nil) (by repeat first | exact trivial | refine And.intro rfl ?_)
  | false =>
    rw [h] at hr
    rw [if_neg (by simp), if_neg (by simp)]
    refine call_of_dw 0 11 [ResultVar.tmp 2, ResultVar.tmp 3] TSP_ok (by kernel_rfl) Tryz.func20 rfl Tryz.ntmps20 rfl (by simp) ?dwords ?dbody
    case dwords => simp [wordsOk, D.ok, D.oks, D.okss, rnames, inN, ckey, ePairs_ok]
    case dbody =>
      intro cx hnt hn0
      refine dw_seq ?_
      refine dw_k [] TSP_ok (by kernel_rfl) hnt (by kernel_rfl) (by simp; rfl) ?_
      intro K hK
      refine hK _ _ ?_
      clear hK K
      refine dw_seq ?_
      refine dw_k [(6, .sl 5 (ePairs (So.ss l)) none)] TSP_ok (by kernel_rfl) hnt (by kernel_rfl) (by simp; rfl) ?_
      intro K hK
      refine ⟨_, _, _, Or.inr (hs _), by repeat first | exact trivial | refine And.intro ⟨rfl, rfl⟩ ?_, ?_⟩
      refine And.intro (VLe.untag _ _ _) ?_
      refine hK _ _ ?_
      clear hK K
      refine dw_seq ?_
      refine dw_seq ?_
      refine dw_k [] TSP_ok (by kernel_rfl) hnt (by kernel_rfl) (by simp; rfl) ?_
      intro K hK
      refine ⟨_, _, _, Or.inl (hr), by repeat first | exact trivial | refine And.intro ⟨rfl, rfl⟩ ?_, ?_⟩
      refine hK _ _ ?_
      clear hK K
      refine dw_cond (t := true) rfl ?_
      rw [if_pos rfl]
      refine dw_seq ?_
      refine dw_k [] TSP_ok (by kernel_rfl) hnt (by kernel_rfl) (by simp; rfl) ?_
      intro K hK
      refine hK _ _ ?_
      clear hK K
      refine dw_ret ?_
      exact retv (N := 0) (.inr rfl) rfl (by repeat first | exact VLe.refl _ | exact VLe.nil _ | exact VLe.untag _ _ _ | refine VLe.ag ?_ | refine VLe.tu ?_ | refine VLeL.cons ?_ ?_ | exact VLeL.nil) (by repeat first | exact trivial | refine And.intro rfl ?_)
end Go.Proofs.YtiblklcfjakjmaaGreat

namespace Go.Proofs.YtiblklcfjakjmaaGreat
open Go.RowKit
def TSL_30 : TI := ⟨1, false, [Value.slice none 0 0], [], some 99, 24, 5, none, false⟩
theorem TSL_30_ok : TypOk Tryz.prog 30 TSL_30 := ⟨by kernel_rfl, by kernel_rfl, by kernel_rfl, by kernel_rfl, by kernel_rfl⟩
def TSL_99 : TI := ⟨5, true, [Value.int IntKind.i64 0, Value.slice none 0 0, Value.int IntKind.i64 0, Value.int IntKind.i64 0, Value.slice none 0 0], [(0, 1, false), (1, 4, true)], none, 72, 6, none, false⟩
theorem TSL_99_ok : TypOk Tryz.prog 99 TSL_99 := ⟨by kernel_rfl, by kernel_rfl, by kernel_rfl, by kernel_rfl, by kernel_rfl⟩
def TSL_3 : TI := ⟨1, false, [Value.int IntKind.i64 0], [], none, 8, 2, none, false⟩
theorem TSL_3_ok : TypOk Tryz.prog 3 TSL_3 := ⟨by kernel_rfl, by kernel_rfl, by kernel_rfl, by kernel_rfl, by kernel_rfl⟩
def TSL_42 : TI := ⟨1, false, [Value.slice none 0 0], [], some 3, 24, 5, none, false⟩
theorem TSL_42_ok : TypOk Tryz.prog 42 TSL_42 := ⟨by kernel_rfl, by kernel_rfl, by kernel_rfl, by kernel_rfl, by kernel_rfl⟩
def TSL_52 : TI := ⟨4, true, [Value.slice none 0 0, Value.int IntKind.i64 0, Value.int IntKind.i64 0, Value.slice none 0 0], [(0, 1, false), (1, 2, true), (3, 1, false)], none, 64, 6, none, false⟩
theorem TSL_52_ok : TypOk Tryz.prog 52 TSL_52 := ⟨by kernel_rfl, by kernel_rfl, by kernel_rfl, by kernel_rfl, by kernel_rfl⟩
def TSL_29 : TI := ⟨1, false, [Value.slice none 0 0], [], some 99, 24, 5, none, false⟩
theorem TSL_29_ok : TypOk Tryz.prog 29 TSL_29 := ⟨by kernel_rfl, by kernel_rfl, by kernel_rfl, by kernel_rfl, by kernel_rfl⟩
def TSL_121 : TI := ⟨1, false, [Value.nilFunc], [], none, 8, 8, none, false⟩
theorem TSL_121_ok : TypOk Tryz.prog 121 TSL_121 := ⟨by kernel_rfl, by kernel_rfl, by kernel_rfl, by kernel_rfl, by kernel_rfl⟩
def TSL_115 : TI := ⟨1, false, [Value.nilFunc], [], none, 8, 8, none, false⟩
theorem TSL_115_ok : TypOk Tryz.prog 115 TSL_115 := ⟨by kernel_rfl, by kernel_rfl, by kernel_rfl, by kernel_rfl, by kernel_rfl⟩
def TSL_112 : TI := ⟨1, false, [Value.pointer none], [], none, 8, 4, none, false⟩
theorem TSL_112_ok : TypOk Tryz.prog 112 TSL_112 := ⟨by kernel_rfl, by kernel_rfl, by kernel_rfl, by kernel_rfl, by kernel_rfl⟩
def TSL : List (Nat × TI) := [(30, TSL_30), (99, TSL_99), (3, TSL_3), (42, TSL_42), (52, TSL_52), (29, TSL_29), (121, TSL_121), (115, TSL_115), (112, TSL_112)]
theorem TSL_ok : TabOk Tryz.prog TSL := ((((((((((TabOk.nil _).cons TSL_112_ok).cons TSL_115_ok).cons TSL_121_ok).cons TSL_29_ok).cons TSL_52_ok).cons TSL_42_ok).cons TSL_3_ok).cons TSL_99_ok).cons TSL_30_ok)

namespace So
def ixB {α : Type} (f : α → Bool) : List α → Nat → Int
  | [], _ => -1
  | x :: l, k => if f x then k else ixB f l (k + 1)
variable {α : Type} {f : α → Bool} {l : List α} {j : Nat}
theorem ixB_miss (h : j < l.length) (hf : f l[j] = false) : ixB f (l.drop j) j = ixB f (l.drop (j + 1)) (j + 1) := by rw [List.drop_eq_getElem_cons h, ixB, if_neg (by simp [hf])]
theorem ixB_hit (h : j < l.length) (hf : f l[j] = true) : ixB f (l.drop j) j = j := by rw [List.drop_eq_getElem_cons h, ixB, if_pos hf]
theorem ixB_end (h : l.length ≤ j) : ixB f (l.drop j) j = -1 := by rw [List.drop_of_length_le h]; rfl
theorem ixB_ge : ∀ (l : List α) (k : Nat), 0 ≤ ixB f l k ↔ l.any f = true
  | [], k => by simp [ixB]
  | x :: l, k => by
    rw [ixB, List.any_cons]
    by_cases h : f x = true
    · simp [h]
    · simp only [h, if_false, Bool.false_or]
      exact ixB_ge l (k + 1)
theorem ixB_spec : ∀ (l : List α) (k : Nat), (ixB f l k = -1 ∧ ∀ x ∈ l, f x = false) ∨ ∃ i, ∃ h : i < l.length, ixB f l k = ((k + i : Nat) : Int) ∧ f l[i] = true ∧ ∀ x ∈ l.take i, f x = false
  | [], k => .inl ⟨rfl, by simp⟩
  | x :: l, k => by
    rw [ixB]
    by_cases h : f x = true
    · exact .inr ⟨0, by simp, by simp [h], by simpa using h, by simp⟩
    · have hx : f x = false := by simpa using h
      rw [if_neg h]
      rcases ixB_spec l (k + 1) with ⟨h1, h2⟩ | ⟨i, h0, h1, h2, h3⟩
      · exact .inl ⟨h1, fun y hy => (List.mem_cons.1 hy).elim (fun e => e ▸ hx) (h2 y)⟩
      · refine .inr ⟨i + 1, by simpa using h0, by rw [h1]; congr 1; omega, by simpa using h2, fun y hy => ?_⟩
        rw [List.take_succ_cons] at hy
        exact (List.mem_cons.1 hy).elim (fun e => e ▸ hx) (h3 y)
end So
theorem index_d (v : Int) (l : List Int) (hl : l.length ≤ 1000000) : PureC Tryz.prog 110 [.sl 1 (eIs l) none, .v (.int .i64 v)] (.v (.int .i64 (So.ixB (fun x => decide (x = v)) l 0))) := by
  obtain ⟨f, hf⟩ : ∃ f : Int → Bool, f = fun x => decide (x = v) := ⟨_, rfl⟩
  rw [← hf]
  refine call_of_dw 0 19 [ResultVar.tmp 4] TSL_ok (by kernel_rfl) Tryz.func110 rfl Tryz.ntmps110 rfl (by simp) ?dwords ?dbody
  case dwords => simp [wordsOk, D.ok, D.oks, D.okss, rnames, inN, ckey, eIs_ok]
  case dbody =>
    intro cx hnt hn0
    refine dw_seq ?_
    refine dw_k [] TSL_ok (by kernel_rfl) hnt (by kernel_rfl) (by simp; rfl) ?_
    intro K hK
    refine hK _ _ ?_
    clear hK K
    refine dw_seq ?_
    refine dw_seq ?_
    refine dw_k [(7, .v (.int .i64 (↑l.length)))] TSL_ok (by kernel_rfl) hnt (by kernel_rfl) (by simp; rfl) ?_
    intro K hK
    refine And.intro (dintE (by rw [eIs_len])) ?_
    refine hK _ _ ?_
    clear hK K
    refine dw_block ?_
    refine dw_loop (ι := { j : Nat // So.ixB f l 0 = So.ixB f (l.drop j) j }) (fun j => [(.t 0, .sl 1 (eIs l) none), (.t 1, .v (.int .i64 v)), (.t 7, .v (.int .i64 ↑l.length)), (.t 8, .v (.int .i64 ↑j.1))]) 0 (fun j => l.length - j.1) (⟨0, rfl⟩) ((VS.toK (by first | omega | simp [hn0]) (by repeat first | exact trivial | refine And.intro (And.intro (by first | rfl | simp [D.ok, D.oks, D.okss, D.okm, eTm_ok, eTy_ok, eTys_ok, eTms_ok, upto, keyOk, eIs_ok, argsT]) (by first | exact Or.inl rfl | exact Or.inr ⟨_, rfl, (by repeat first | exact VLe.refl _ | exact VLe.nil _ | exact VLe.untag _ _ _ | refine VLe.ag ?_ | refine VLe.tu ?_ | refine VLeL.cons ?_ ?_ | exact VLeL.nil), trivial⟩ | simp [get, Key.eq, eIs_ok, argsT])) ?_))) fun j => ?_
    obtain ⟨j, hj⟩ := j
    dsimp only
    rw [hj]
    by_cases hlt : j < l.length
    · by_cases hv : l[j] = v
      · rw [So.ixB_hit hlt (by rw [hf]; simpa using hv)]
        refine dw_seq ?_
        refine dw_k [(9, .v (.bool true))] TSL_ok (by kernel_rfl) hnt (by kernel_rfl) (by simp; rfl) ?_
        intro K hK
        refine And.intro (by first | exact dtrue (by omega) | exact VLe.of_eq (by simp [*]; done) | exact dtrue (by first | omega | (simp only [List.length_append, List.length_take, List.length_cons, List.length_nil, eTms_len, eTys_len]; omega) | assumption | (simp_all; done)) | exact VLe.of_eq (by simp_all; done)) ?_
        refine hK _ _ ?_
        clear hK K
        refine dw_seq ?_
        refine dw_cond (t := true) rfl ?_
        rw [if_pos rfl]
        refine dw_skip ?_
        refine dw_seq ?_
        refine dw_block ?_
        refine dw_seq ?_
        refine dw_k [] TSL_ok (by kernel_rfl) hnt (by kernel_rfl) (by simp; rfl) ?_
        intro K hK
        refine hK _ _ ?_
        clear hK K
        refine dw_seq ?_
        refine dw_k [(14, .q [.v (.int .i64 (l[j]))]), (16, .v (.bool true))] TSL_ok (by kernel_rfl) hnt (by kernel_rfl) (by simp; rfl) ?_
        intro K hK
        refine And.intro (by first | exact ⟨by omega, by rw [eIs_len]; omega⟩ | (simp only [eIs_len]; omega)) ?_
        refine And.intro (VLe.of_eq (by rw [show (Int.toNat ((j : Nat) : Int)) = j by omega, eIs_getD l j (by omega)])) ?_
        refine And.intro (beqT hv.symm) ?_
        refine hK _ _ ?_
        clear hK K
        refine dw_cond (t := true) rfl ?_
        rw [if_pos rfl]
        refine dw_seq ?_
        refine dw_k [] TSL_ok (by kernel_rfl) hnt (by kernel_rfl) (by simp; rfl) ?_
        intro K hK
        refine hK _ _ ?_
        clear hK K
        refine dw_ret ?_
        exact retv (N := 0) (.inr rfl) rfl (by repeat first | exact VLe.refl _ | exact VLe.nil _ | exact VLe.untag _ _ _ | refine VLe.ag ?_ | refine VLe.tu ?_ | refine VLeL.cons ?_ ?_ | exact VLeL.nil) (by repeat first | exact trivial | refine And.intro rfl ?_)
      · have hm := So.ixB_miss hlt (f := f) (by rw [hf]; simpa using hv)
        refine dw_seq ?_
        refine dw_k [(9, .v (.bool true))] TSL_ok (by kernel_rfl) hnt (by kernel_rfl) (by simp; rfl) ?_
        intro K hK
        refine And.intro (by first | exact dtrue (by omega) | exact VLe.of_eq (by simp [*]; done) | exact dtrue (by first | omega | (simp only [List.length_append, List.length_take, List.length_cons, List.length_nil, eTms_len, eTys_len]; omega) | assumption | (simp_all; done)) | exact VLe.of_eq (by simp_all; done)) ?_
        refine hK _ _ ?_
        clear hK K
        refine dw_seq ?_
        refine dw_cond (t := true) rfl ?_
        rw [if_pos rfl]
        refine dw_skip ?_
        refine dw_seq ?_
        refine dw_block ?_
        refine dw_seq ?_
        refine dw_k [] TSL_ok (by kernel_rfl) hnt (by kernel_rfl) (by simp; rfl) ?_
        intro K hK
        refine hK _ _ ?_
        clear hK K
        refine dw_seq ?_
        refine dw_k [(14, .q [.v (.int .i64 (l[j]))]), (16, .v (.bool false))] TSL_ok (by kernel_rfl) hnt (by kernel_rfl) (by simp; rfl) ?_
        intro K hK
        refine And.intro (by first | exact ⟨by omega, by rw [eIs_len]; omega⟩ | (simp only [eIs_len]; omega)) ?_
        refine And.intro (VLe.of_eq (by rw [show (Int.toNat ((j : Nat) : Int)) = j by omega, eIs_getD l j (by omega)])) ?_
        refine And.intro (beqF (fun h => hv h.symm)) ?_
        refine hK _ _ ?_
        clear hK K
        refine dw_cond (t := false) rfl ?_
        rw [if_neg (by simp)]
        refine dw_skip ?_
        refine dw_k [(18, .v (.int .i64 (↑(j + 1))))] TSL_ok (by kernel_rfl) hnt (by kernel_rfl) (by simp; rfl) ?_
        intro K hK
        refine And.intro (dintE (by first | omega | exact IntWalk.i64_in _ (by omega) | (rw [IntWalk.i64_in _ (by omega)]; omega) | omega | (simp only [List.length_append, List.length_take, List.length_cons, List.length_nil, eTms_len, eTys_len]; omega) | assumption | (simp_all; done))) ?_
        refine hK _ _ ?_
        clear hK K
        rw [hm]
        refine ⟨⟨j + 1, rfl⟩, by first | omega | (dsimp only; omega), (VS.toK (by first | omega | simp [hn0]) (by repeat first | exact trivial | refine And.intro (And.intro (by first | rfl | simp [D.ok, D.oks, D.okss, D.okm, eTm_ok, eTy_ok, eTys_ok, eTms_ok, upto, keyOk, eIs_ok]) (by first | exact Or.inl rfl | exact Or.inr ⟨_, rfl, (by repeat first | exact VLe.refl _ | exact VLe.nil _ | exact VLe.untag _ _ _ | refine VLe.ag ?_ | refine VLe.tu ?_ | refine VLeL.cons ?_ ?_ | exact VLeL.nil), trivial⟩ | simp [get, Key.eq, eIs_ok])) ?_))⟩
    · rw [So.ixB_end (by omega)]
      refine dw_seq ?_
      refine dw_k [(9, .v (.bool false))] TSL_ok (by kernel_rfl) hnt (by kernel_rfl) (by simp; rfl) ?_
      intro K hK
      refine And.intro (by first | exact dfalse (by omega) | exact VLe.of_eq (by simp [*]; done) | exact dfalse (by first | omega | (simp only [List.length_append, List.length_take, List.length_cons, List.length_nil, eTms_len, eTys_len]; omega) | assumption | (simp_all; done)) | exact VLe.of_eq (by simp_all; done)) ?_
      refine hK _ _ ?_
      clear hK K
      refine dw_seq ?_
      refine dw_cond (t := false) rfl ?_
      rw [if_neg (by simp)]
      refine dw_exit ?_
      refine dw_seq ?_
      refine dw_k [] TSL_ok (by kernel_rfl) hnt (by kernel_rfl) (by simp; rfl) ?_
      intro K hK
      refine hK _ _ ?_
      clear hK K
      refine dw_ret ?_
      exact retv (N := 0) (.inr rfl) rfl (by repeat first | exact VLe.refl _ | exact VLe.nil _ | exact VLe.untag _ _ _ | refine VLe.ag ?_ | refine VLe.tu ?_ | refine VLeL.cons ?_ ?_ | exact VLeL.nil) (by repeat first | exact trivial | refine And.intro rfl ?_)
theorem contains_d (v : Int) (l : List Int) (hl : l.length ≤ 1000000) : PureC Tryz.prog 69 [.sl 1 (eIs l) none, .v (.int .i64 v)] (.v (.bool (l.any fun x => decide (x = v)))) := by
  have hi := index_d v l hl
  have hg := So.ixB_ge (f := fun x => decide (x = v)) l 0
  refine call_of_dw 0 9 [ResultVar.tmp 4] TSL_ok (by kernel_rfl) Tryz.func69 rfl Tryz.ntmps69 rfl (by simp) ?dwords ?dbody
  case dwords => simp [wordsOk, D.ok, D.oks, D.okss, rnames, inN, ckey, eIs_ok]
  case dbody =>
    intro cx hnt hn0
    refine dw_seq ?_
    refine dw_k [] TSL_ok (by kernel_rfl) hnt (by kernel_rfl) (by simp; rfl) ?_
    intro K hK
    refine hK _ _ ?_
    clear hK K
    refine dw_seq ?_
    refine dw_k [(8, .v (.bool (l.any fun x => decide (x = v))))] TSL_ok (by kernel_rfl) hnt (by kernel_rfl) (by simp; rfl) ?_
    intro K hK
    refine ⟨_, _, _, Or.inl (hi), by repeat first | exact trivial | refine And.intro ⟨rfl, rfl⟩ ?_, ?_⟩
    refine And.intro (VLe.of_eq (by congr 2; rw [Bool.eq_iff_iff]; simpa using hg)) ?_
    refine hK _ _ ?_
    clear hK K
    refine dw_ret ?_
    exact retv (N := 0) (.inr rfl) rfl (by repeat first | exact VLe.refl _ | exact VLe.nil _ | exact VLe.untag _ _ _ | refine VLe.ag ?_ | refine VLe.tu ?_ | refine VLeL.cons ?_ ?_ | exact VLeL.nil) (by repeat first | exact trivial | refine And.intro rfl ?_)
def del (m : List Int) (p : Int × Tm) : Bool := m.any fun x => decide (x = p.1)
theorem without1_d (p : Int × Tm) (m : List Int) (hm : m.length ≤ 1000000) : CallC Tryz.prog 68 [.ag (ePair p), .p 0 0] [(.c 0 0, .sl 1 (eIs m) none)] [(.c 0 0, .sl 1 (eIs m) none)] (.v (.bool (del m p))) := by
  have hc := contains_d p.1 m hm
  rw [ePair_eq]
  unfold del
  refine call_of_dw 1 8 [ResultVar.tmp 3] TSL_ok (by kernel_rfl) Tryz.func68 rfl Tryz.ntmps68 rfl (by simp) ?dwords ?dbody
  case dwords => simp [wordsOk, D.ok, D.oks, D.okss, rnames, inN, ckey, eIs_ok, eTys_ok, eTms_ok]
  case dbody =>
    intro cx hnt hn0
    refine dw_seq ?_
    refine dw_k [] TSL_ok (by kernel_rfl) hnt (by kernel_rfl) (by simp; rfl) ?_
    intro K hK
    refine hK _ _ ?_
    clear hK K
    refine dw_seq ?_
    refine dw_k [] TSL_ok (by kernel_rfl) hnt (by kernel_rfl) (by simp; rfl) ?_
    intro K hK
    refine ⟨_, _, _, Or.inl (hc), by repeat first | exact trivial | refine And.intro ⟨rfl, rfl⟩ ?_, ?_⟩
    refine hK _ _ ?_
    clear hK K
    refine dw_ret ?_
    exact retv (N := 0) (.inr rfl) rfl (by repeat first | exact VLe.refl _ | exact VLe.nil _ | exact VLe.untag _ _ _ | refine VLe.ag ?_ | refine VLe.tu ?_ | refine VLeL.cons ?_ ?_ | exact VLeL.nil) (by repeat first | exact trivial | refine And.intro rfl ?_)
theorem ixP_d (l : List (Int × Tm)) (n : Nat) (hn : l.length = n) (hM : n ≤ 1000000) (m : List Int) (hm : m.length ≤ 1000000) :
    CallG Tryz.prog 102 [.ps 3 n, .fn 68 [.p 0 0]] [(.r 3, .rp 99 5 (ePairs l)), (.c 0 0, .sl 1 (eIs m) none)] [(.r 3, .rp 99 5 (ePairs l)), (.c 0 0, .sl 1 (eIs m) none)] (.v (.int .i64 (So.ixB (del m) l 0))) := by
  refine callG_of_dw 4 19 [ResultVar.tmp 4] TSL_ok (by kernel_rfl) Tryz.func102 rfl Tryz.ntmps102 rfl (by simp) ?dwords ?dbody
  case dwords => simp [wordsG, rowN, rowsR, gkey, Key.eq, D.ok, D.oks, D.okss, rnames, inN, ckey, ePairs_ok, eIs_ok]
  case dbody =>
    intro cx hnt hn0
    refine dw_seq ?_
    refine dw_k [] TSL_ok (by kernel_rfl) hnt (by kernel_rfl) (by simp; rfl) ?_
    intro K hK
    refine hK _ _ ?_
    clear hK K
    refine dw_seq ?_
    refine dw_seq ?_
    refine dw_k [] TSL_ok (by kernel_rfl) hnt (by kernel_rfl) (by simp; rfl) ?_
    intro K hK
    refine hK _ _ ?_
    clear hK K
    refine dw_block ?_
    refine dw_loop (ι := { j : Nat // So.ixB (del m) l 0 = So.ixB (del m) (l.drop j) j }) (fun j => [(.t 0, .ps 3 n), (.t 1, .fn 68 [.p 0 0]), (.t 7, .v (.int .i64 ↑n)), (.t 8, .v (.int .i64 ↑j.1)), (.r 3, .rp 99 5 (ePairs l)), (.c 0 0, .sl 1 (eIs m) none)]) 4 (fun j => l.length - j.1) (⟨0, rfl⟩) ((VS.toK (by first | omega | simp [hn0]) (by repeat first | exact trivial | refine And.intro (And.intro (by first | rfl | simp [D.ok, D.oks, D.okss, D.okm, eTm_ok, eTy_ok, eTys_ok, eTms_ok, upto, keyOk, ePairs_ok, eIs_ok, argsT]) (by first | exact Or.inl rfl | exact Or.inr ⟨_, rfl, (by repeat first | exact VLe.refl _ | exact VLe.nil _ | exact VLe.untag _ _ _ | refine VLe.ag ?_ | refine VLe.tu ?_ | refine VLeL.cons ?_ ?_ | exact VLeL.nil), trivial⟩ | simp [get, Key.eq, ePairs_ok, eIs_ok, argsT])) ?_))) fun j => ?_
    obtain ⟨j, hj⟩ := j
    dsimp only
    rw [hj]
    by_cases hlt : j < l.length
    · obtain ⟨p, hp⟩ : ∃ p, p = l[j] := ⟨_, rfl⟩
      have hpj : l[j]? = some p := by rw [hp]; exact List.getElem?_eq_getElem hlt
      have hw := without1_d p m hm
      rw [ePair_eq] at hw
      cases hd : del m p with
      | true =>
        rw [hd] at hw
        rw [So.ixB_hit hlt (by rw [← hp]; exact hd)]
        refine dw_seq ?_
        refine dw_k [(9, .v (.bool true))] TSL_ok (by kernel_rfl) hnt (by kernel_rfl) (by simp; rfl) ?_
        intro K hK
        refine And.intro (by first | exact dtrue (by omega) | exact VLe.of_eq (by simp [*]; done) | exact dtrue (by first | omega | (simp only [List.length_append, List.length_take, List.length_cons, List.length_nil, eTms_len, eTys_len]; omega) | assumption | (simp_all; done)) | exact VLe.of_eq (by simp_all; done)) ?_
        refine hK _ _ ?_
        clear hK K
        refine dw_seq ?_
        refine dw_cond (t := true) rfl ?_
        rw [if_pos rfl]
        refine dw_skip ?_
        refine dw_seq ?_
        refine dw_block ?_
        refine dw_seq ?_
        refine dw_k [] TSL_ok (by kernel_rfl) hnt (by kernel_rfl) (by simp; rfl) ?_
        intro K hK
        refine hK _ _ ?_
        clear hK K
        refine dw_seq ?_
        refine dw_k [(14, .pr 3 n 5 (j) 0), (15, .ag [.v (.int .i64 p.1), .sl 2 (eTys p.2.binds) none, .v (.int .i64 p.2.kind), .v (.int .i64 p.2.index), .sl 4 (eTms p.2.args) none])] TSL_ok (by kernel_rfl) hnt (by kernel_rfl) (by simp; rfl) ?_
        intro K hK
        refine And.intro (by constructor <;> omega) ?_
        refine And.intro (by first | rfl | exact VLe.of_eq (by simp)) ?_
        refine And.intro (pl_ok hn hpj) ?_
        refine And.intro (pl_eq hpj) ?_
        refine ⟨_, _, _, Or.inl (hw), by repeat first | exact trivial | refine And.intro ⟨rfl, rfl⟩ ?_, ?_⟩
        refine hK _ _ ?_
        clear hK K
        refine dw_cond (t := true) rfl ?_
        rw [if_pos rfl]
        refine dw_seq ?_
        refine dw_k [] TSL_ok (by kernel_rfl) hnt (by kernel_rfl) (by simp; rfl) ?_
        intro K hK
        refine hK _ _ ?_
        clear hK K
        refine dw_ret ?_
        exact retv (N := 0) (.inr rfl) rfl (by repeat first | exact VLe.refl _ | exact VLe.nil _ | exact VLe.untag _ _ _ | refine VLe.ag ?_ | refine VLe.tu ?_ | refine VLeL.cons ?_ ?_ | exact VLeL.nil) (by repeat first | exact trivial | refine And.intro rfl ?_)
      | false =>
        rw [hd] at hw
        rw [So.ixB_miss hlt (by rw [← hp]; exact hd)]
        refine dw_seq ?_
        refine dw_k [(9, .v (.bool true))] TSL_ok (by kernel_rfl) hnt (by kernel_rfl) (by simp; rfl) ?_
        intro K hK
        refine And.intro (by first | exact dtrue (by omega) | exact VLe.of_eq (by simp [*]; done) | exact dtrue (by first | omega | (simp only [List.length_append, List.length_take, List.length_cons, List.length_nil, eTms_len, eTys_len]; omega) | assumption | (simp_all; done)) | exact VLe.of_eq (by simp_all; done)) ?_
        refine hK _ _ ?_
        clear hK K
        refine dw_seq ?_
        refine dw_cond (t := true) rfl ?_
        rw [if_pos rfl]
        refine dw_skip ?_
        refine dw_seq ?_
        refine dw_block ?_
        refine dw_seq ?_
        refine dw_k [] TSL_ok (by kernel_rfl) hnt (by kernel_rfl) (by simp; rfl) ?_
        intro K hK
        refine hK _ _ ?_
        clear hK K
        refine dw_seq ?_
        refine dw_k [(14, .pr 3 n 5 (j) 0), (15, .ag [.v (.int .i64 p.1), .sl 2 (eTys p.2.binds) none, .v (.int .i64 p.2.kind), .v (.int .i64 p.2.index), .sl 4 (eTms p.2.args) none])] TSL_ok (by kernel_rfl) hnt (by kernel_rfl) (by simp; rfl) ?_
        intro K hK
        refine And.intro (by constructor <;> omega) ?_
        refine And.intro (by first | rfl | exact VLe.of_eq (by simp)) ?_
        refine And.intro (pl_ok hn hpj) ?_
        refine And.intro (pl_eq hpj) ?_
        refine ⟨_, _, _, Or.inl (hw), by repeat first | exact trivial | refine And.intro ⟨rfl, rfl⟩ ?_, ?_⟩
        refine hK _ _ ?_
        clear hK K
        refine dw_cond (t := false) rfl ?_
        rw [if_neg (by simp)]
        refine dw_skip ?_
        refine dw_k [(18, .v (.int .i64 (↑(j + 1))))] TSL_ok (by kernel_rfl) hnt (by kernel_rfl) (by simp; rfl) ?_
        intro K hK
        refine And.intro (dintE (by first | omega | exact IntWalk.i64_in _ (by omega) | (rw [IntWalk.i64_in _ (by omega)]; omega) | omega | (simp only [List.length_append, List.length_take, List.length_cons, List.length_nil, eTms_len, eTys_len]; omega) | assumption | (simp_all; done))) ?_
        refine hK _ _ ?_
        clear hK K
        refine ⟨⟨j + 1, rfl⟩, by first | omega | (dsimp only; omega), (VS.toK (by first | omega | simp [hn0]) (by repeat first | exact trivial | refine And.intro (And.intro (by first | rfl | simp [D.ok, D.oks, D.okss, D.okm, eTm_ok, eTy_ok, eTys_ok, eTms_ok, upto, keyOk, ePairs_ok, eIs_ok]) (by first | exact Or.inl rfl | exact Or.inr ⟨_, rfl, (by repeat first | exact VLe.refl _ | exact VLe.nil _ | exact VLe.untag _ _ _ | refine VLe.ag ?_ | refine VLe.tu ?_ | refine VLeL.cons ?_ ?_ | exact VLeL.nil), trivial⟩ | simp [get, Key.eq, ePairs_ok, eIs_ok])) ?_))⟩
    · rw [So.ixB_end (by omega)]
      refine dw_seq ?_
      refine dw_k [(9, .v (.bool false))] TSL_ok (by kernel_rfl) hnt (by kernel_rfl) (by simp; rfl) ?_
      intro K hK
      refine And.intro (by first | exact dfalse (by omega) | exact VLe.of_eq (by simp [*]; done) | exact dfalse (by first | omega | (simp only [List.length_append, List.length_take, List.length_cons, List.length_nil, eTms_len, eTys_len]; omega) | assumption | (simp_all; done)) | exact VLe.of_eq (by simp_all; done)) ?_
      refine hK _ _ ?_
      clear hK K
      refine dw_seq ?_
      refine dw_cond (t := false) rfl ?_
      rw [if_neg (by simp)]
      refine dw_exit ?_
      refine dw_seq ?_
      refine dw_k [] TSL_ok (by kernel_rfl) hnt (by kernel_rfl) (by simp; rfl) ?_
      intro K hK
      refine hK _ _ ?_
      clear hK K
      refine dw_ret ?_
      exact retv (N := 0) (.inr rfl) rfl (by repeat first | exact VLe.refl _ | exact VLe.nil _ | exact VLe.untag _ _ _ | refine VLe.ag ?_ | refine VLe.tu ?_ | refine VLeL.cons ?_ ?_ | exact VLeL.nil) (by repeat first | exact trivial | refine And.intro rfl ?_)
def kept (m : List Int) (l : List (Int × Tm)) : List (Int × Tm) := l.filter fun p => !del m p
theorem kept_none {m : List Int} {l : List (Int × Tm)} (h : ∀ p ∈ l, del m p = false) : kept m l = l := List.filter_eq_self.2 fun p hp => by simp [h p hp]
theorem kept_take {m : List Int} {l : List (Int × Tm)} {j : Nat} (h : j < l.length) : kept m (l.take (j + 1)) = if del m l[j] then kept m (l.take j) else kept m (l.take j) ++ [l[j]] := by
  unfold kept
  rw [List.take_add_one, List.getElem?_eq_getElem h, Option.toList_some, List.filter_append]
  by_cases hd : del m l[j] = true <;> simp [hd]
theorem kept_le (m : List Int) (l : List (Int × Tm)) (j : Nat) : (kept m (l.take j)).length ≤ j := Nat.le_trans (List.length_filter_le _ _) (by simp; omega)
theorem set_kept {K l : List (Int × Tm)} {p : Int × Tm} (h : K.length < l.length) : (K ++ l.drop K.length).set K.length p = (K ++ [p]) ++ l.drop (K ++ [p]).length := by
  rw [List.set_append_right _ _ (Nat.le_refl _), Nat.sub_self, List.drop_eq_getElem_cons h, List.set_cons_zero]
  simp
theorem clr_len {L : List (Int × Tm)} {n k : Nat} {z : List D} (hn : L.length = n) (hk : k ≤ n) : ((ePairs L).take k ++ List.replicate (n - k) z).length = n := by
  rw [List.length_append, List.length_take, ePairs_len, List.length_replicate]; omega
theorem clr_take (K R : List (Int × Tm)) (r : List (List D)) : (((ePairs (K ++ R)).take K.length ++ r).take ((K.length : Nat) : Int).toNat).drop (0 : Int).toNat = ePairs K := by
  have h : (ePairs (K ++ R)).take K.length = ePairs K := by
    rw [ePairs, List.map_append, List.take_append_of_le_length (by simp), List.take_of_length_le (by simp)]; rfl
  rw [h]
  show (List.take K.length (ePairs K ++ r)).drop 0 = ePairs K
  rw [List.drop_zero, List.take_append_of_le_length (by rw [ePairs_len]; exact Nat.le_refl _), List.take_of_length_le (by rw [ePairs_len]; exact Nat.le_refl _)]
set_option maxHeartbeats 4000000 in
theorem delF_d (l : List (Int × Tm)) (n : Nat) (hn : l.length = n) (hM : n ≤ 1000000) (m : List Int) (hm : m.length ≤ 1000000) :
    CallG Tryz.prog 66 [.ps 3 n, .fn 68 [.p 0 0]] [(.r 3, .rp 99 5 (ePairs l)), (.c 0 0, .sl 1 (eIs m) none)] [(.r 3, .rw 99 5 n), (.c 0 0, .sl 1 (eIs m) none)] (.sl 5 (ePairs (kept m l)) none) := by
  have hix := ixP_d l n hn hM m hm
  refine callG_of_dw 4 42 [ResultVar.tmp 4] TSL_ok (by kernel_rfl) Tryz.func66 rfl Tryz.ntmps66 rfl (by simp) ?dwords ?dbody
  case dwords => simp [wordsG, rowN, rowsR, gkey, Key.eq, D.ok, D.oks, D.okss, rnames, inN, ckey, ePairs_ok, eIs_ok]
  case dbody =>
    intro cx hnt hn0
    refine dw_seq ?_
    refine dw_k [] TSL_ok (by kernel_rfl) hnt (by kernel_rfl) (by simp; rfl) ?_
    intro K hK
    refine hK _ _ ?_
    clear hK K
    refine dw_seq ?_
    refine dw_k [] TSL_ok (by kernel_rfl) hnt (by kernel_rfl) (by simp; rfl) ?_
    intro K hK
    refine ⟨_, _, _, Or.inr (CallG.n (hix) _), by repeat first | exact trivial | refine And.intro ⟨rfl, rfl⟩ ?_, ?_⟩
    refine hK _ _ ?_
    clear hK K
    rcases So.ixB_spec (f := del m) l 0 with ⟨h1, h2⟩ | ⟨i0, h0, h1, h2, h3⟩
    · rw [h1, kept_none h2]
      refine dw_seq ?_
      refine dw_seq ?_
      refine dw_k [(12, .v (.bool true))] TSL_ok (by kernel_rfl) hnt (by kernel_rfl) (by simp; rfl) ?_
      intro K hK
      refine And.intro (beqT rfl) ?_
      refine hK _ _ ?_
      clear hK K
      refine dw_cond (t := true) rfl ?_
      rw [if_pos rfl]
      refine dw_seq ?_
      refine dw_k [] TSL_ok (by kernel_rfl) hnt (by kernel_rfl) (by simp; rfl) ?_
      intro K hK
      refine hK _ _ ?_
      clear hK K
      refine dw_freeze (x := 4) (g := 3) rfl rfl (by rw [ePairs_len, hn]) ?_
      rw [ePairs_len, hn]
      refine dw_ret ?_
      exact retv (N := 0) (.inr rfl) rfl (by repeat first | exact VLe.refl _ | exact VLe.nil _ | exact VLe.untag _ _ _ | refine VLe.ag ?_ | refine VLe.tu ?_ | refine VLeL.cons ?_ ?_ | exact VLeL.nil) (by repeat first | exact trivial | refine And.intro rfl ?_)
    · rw [h1, Nat.zero_add]
      refine dw_seq ?_
      refine dw_seq ?_
      refine dw_k [(12, .v (.bool false))] TSL_ok (by kernel_rfl) hnt (by kernel_rfl) (by simp; rfl) ?_
      intro K hK
      refine And.intro (beqF (by omega)) ?_
      refine hK _ _ ?_
      clear hK K
      refine dw_cond (t := false) rfl ?_
      rw [if_neg (by simp)]
      refine dw_skip ?_
      refine dw_seq ?_
      refine dw_seq ?_
      refine dw_k [(15, .v (.int .i64 (↑(i0 + 1))))] TSL_ok (by kernel_rfl) hnt (by kernel_rfl) (by simp; rfl) ?_
      intro K hK
      refine And.intro (dintE (by first | omega | exact IntWalk.i64_in _ (by omega) | (rw [IntWalk.i64_in _ (by omega)]; omega) | omega | (simp only [List.length_append, List.length_take, List.length_cons, List.length_nil, eTms_len, eTys_len]; omega) | assumption | (simp_all; done))) ?_
      refine hK _ _ ?_
      clear hK K
      have hk0 : kept m (l.take (i0 + 1)) = l.take i0 := by rw [kept_take h0, if_pos h2]; exact kept_none h3
      rw [show ((i0 : Nat) : Int) = (((kept m (l.take (i0 + 1))).length : Nat) : Int) by rw [hk0, List.length_take, Nat.min_eq_left (by omega)]]
      rw [show ePairs l = ePairs (kept m (l.take (i0 + 1)) ++ l.drop (kept m (l.take (i0 + 1))).length) by rw [hk0, List.length_take, Nat.min_eq_left (by omega), List.take_append_drop]]
      refine dw_block ?_
      refine dw_loop (ι := { j : Nat // i0 + 1 ≤ j ∧ j ≤ n }) (fun j => [(.t 0, .ps 3 n), (.t 1, .fn 68 [.p 0 0]), (.t 5, .v (.int .i64 ↑(kept m (l.take j.1)).length)), (.t 6, .v (.int .i64 ↑j.1)), (.r 3, .rp 99 5 (ePairs (kept m (l.take j.1) ++ l.drop (kept m (l.take j.1)).length))), (.c 0 0, .sl 1 (eIs m) none)]) 4 (fun j => n - j.1) (⟨i0 + 1, Nat.le_refl _, by omega⟩) ((VS.toK (by first | omega | simp [hn0]) (by repeat first | exact trivial | refine And.intro (And.intro (by first | rfl | simp [D.ok, D.oks, D.okss, D.okm, eTm_ok, eTy_ok, eTys_ok, eTms_ok, upto, keyOk, ePairs_ok, eIs_ok]) (by first | exact Or.inl rfl | exact Or.inr ⟨_, rfl, (by repeat first | exact VLe.refl _ | exact VLe.nil _ | exact VLe.untag _ _ _ | refine VLe.ag ?_ | refine VLe.tu ?_ | refine VLeL.cons ?_ ?_ | exact VLeL.nil), trivial⟩ | simp [get, Key.eq, ePairs_ok, eIs_ok])) ?_))) fun j => ?_
      obtain ⟨j, hj1, hj2⟩ := j
      dsimp only
      obtain ⟨K, hK⟩ : ∃ K, kept m (l.take j) = K := ⟨_, rfl⟩
      have hkl := kept_le m l j
      rw [hK] at hkl ⊢
      obtain ⟨L, hL⟩ : ∃ L, K ++ l.drop K.length = L := ⟨_, rfl⟩
      rw [hL]
      have hnL : L.length = n := by rw [← hL]; simp; omega
      by_cases hlt : j < n
      · obtain ⟨p, hp⟩ : ∃ p, p = l[j] := ⟨_, rfl⟩
        have hpj : L[j]? = some p := by
          rw [← hL, List.getElem?_append_right (by omega), List.getElem?_drop, hp, show K.length + (j - K.length) = j by omega]
          exact List.getElem?_eq_getElem _
        have hkt := kept_take (m := m) (l := l) (j := j) (by omega)
        rw [← hp, hK] at hkt
        have hw := without1_d p m hm
        rw [ePair_eq] at hw
        cases hd : del m p with
        | true =>
          rw [hd] at hw hkt
          rw [if_pos rfl] at hkt
          refine dw_seq ?_
          refine dw_seq ?_
          refine dw_k [(18, .v (.int .i64 (↑n))), (19, .v (.bool true))] TSL_ok (by kernel_rfl) hnt (by kernel_rfl) (by simp; rfl) ?_
          intro K hK
          refine And.intro (dintE (by first | omega | exact IntWalk.i64_in _ (by omega) | (rw [IntWalk.i64_in _ (by omega)]; omega) | omega | (simp only [List.length_append, List.length_take, List.length_cons, List.length_nil, eTms_len, eTys_len]; omega) | assumption | (simp_all; done))) ?_
          refine And.intro (by first | exact dtrue (by omega) | exact VLe.of_eq (by simp [*]; done) | exact dtrue (by first | omega | (simp only [List.length_append, List.length_take, List.length_cons, List.length_nil, eTms_len, eTys_len]; omega) | assumption | (simp_all; done)) | exact VLe.of_eq (by simp_all; done)) ?_
          refine hK _ _ ?_
          clear hK K
          refine dw_cond (t := true) rfl ?_
          rw [if_pos rfl]
          refine dw_skip ?_
          refine dw_seq ?_
          refine dw_block ?_
          refine dw_seq ?_
          refine dw_k [(24, .pr 3 n 5 (j) 0), (25, .ag [.v (.int .i64 p.1), .sl 2 (eTys p.2.binds) none, .v (.int .i64 p.2.kind), .v (.int .i64 p.2.index), .sl 4 (eTms p.2.args) none])] TSL_ok (by kernel_rfl) hnt (by kernel_rfl) (by simp; rfl) ?_
          intro K hK
          refine And.intro (by constructor <;> omega) ?_
          refine And.intro (by first | rfl | exact VLe.of_eq (by simp)) ?_
          refine And.intro (pl_ok hnL hpj) ?_
          refine And.intro (pl_eq hpj) ?_
          refine hK _ _ ?_
          clear hK K
          refine dw_seq ?_
          refine dw_k [] TSL_ok (by kernel_rfl) hnt (by kernel_rfl) (by simp; rfl) ?_
          intro K hK
          refine ⟨_, _, _, Or.inl (hw), by repeat first | exact trivial | refine And.intro ⟨rfl, rfl⟩ ?_, ?_⟩
          refine hK _ _ ?_
          clear hK K
          refine dw_cond (t := false) rfl ?_
          rw [if_neg (by simp)]
          refine dw_skip ?_
          refine dw_k [(21, .v (.int .i64 (↑(j + 1))))] TSL_ok (by kernel_rfl) hnt (by kernel_rfl) (by simp; rfl) ?_
          intro K hK
          refine And.intro (dintE (by first | omega | exact IntWalk.i64_in _ (by omega) | (rw [IntWalk.i64_in _ (by omega)]; omega) | omega | (simp only [List.length_append, List.length_take, List.length_cons, List.length_nil, eTms_len, eTys_len]; omega) | assumption | (simp_all; done))) ?_
          refine hK _ _ ?_
          clear hK K
          rw [← hL, ← hkt]
          refine ⟨⟨j + 1, by omega, by omega⟩, by first | omega | (dsimp only; omega), (VS.toK (by first | omega | simp [hn0]) (by repeat first | exact trivial | refine And.intro (And.intro (by first | rfl | simp [D.ok, D.oks, D.okss, D.okm, eTm_ok, eTy_ok, eTys_ok, eTms_ok, upto, keyOk, ePairs_ok, eIs_ok]) (by first | exact Or.inl rfl | exact Or.inr ⟨_, rfl, (by repeat first | exact VLe.refl _ | exact VLe.nil _ | exact VLe.untag _ _ _ | refine VLe.ag ?_ | refine VLe.tu ?_ | refine VLeL.cons ?_ ?_ | exact VLeL.nil), trivial⟩ | simp [get, Key.eq, ePairs_ok, eIs_ok])) ?_))⟩
        | false =>
          rw [hd] at hw hkt
          rw [if_neg (by simp)] at hkt
          refine dw_seq ?_
          refine dw_seq ?_
          refine dw_k [(18, .v (.int .i64 (↑n))), (19, .v (.bool true))] TSL_ok (by kernel_rfl) hnt (by kernel_rfl) (by simp; rfl) ?_
          intro K hK
          refine And.intro (dintE (by first | omega | exact IntWalk.i64_in _ (by omega) | (rw [IntWalk.i64_in _ (by omega)]; omega) | omega | (simp only [List.length_append, List.length_take, List.length_cons, List.length_nil, eTms_len, eTys_len]; omega) | assumption | (simp_all; done))) ?_
          refine And.intro (by first | exact dtrue (by omega) | exact VLe.of_eq (by simp [*]; done) | exact dtrue (by first | omega | (simp only [List.length_append, List.length_take, List.length_cons, List.length_nil, eTms_len, eTys_len]; omega) | assumption | (simp_all; done)) | exact VLe.of_eq (by simp_all; done)) ?_
          refine hK _ _ ?_
          clear hK K
          refine dw_cond (t := true) rfl ?_
          rw [if_pos rfl]
          refine dw_skip ?_
          refine dw_seq ?_
          refine dw_block ?_
          refine dw_seq ?_
          refine dw_k [(24, .pr 3 n 5 (j) 0), (25, .ag [.v (.int .i64 p.1), .sl 2 (eTys p.2.binds) none, .v (.int .i64 p.2.kind), .v (.int .i64 p.2.index), .sl 4 (eTms p.2.args) none])] TSL_ok (by kernel_rfl) hnt (by kernel_rfl) (by simp; rfl) ?_
          intro K hK
          refine And.intro (by constructor <;> omega) ?_
          refine And.intro (by first | rfl | exact VLe.of_eq (by simp)) ?_
          refine And.intro (pl_ok hnL hpj) ?_
          refine And.intro (pl_eq hpj) ?_
          refine hK _ _ ?_
          clear hK K
          refine dw_seq ?_
          refine dw_k [] TSL_ok (by kernel_rfl) hnt (by kernel_rfl) (by simp; rfl) ?_
          intro K hK
          refine ⟨_, _, _, Or.inl (hw), by repeat first | exact trivial | refine And.intro ⟨rfl, rfl⟩ ?_, ?_⟩
          refine hK _ _ ?_
          clear hK K
          refine dw_cond (t := true) rfl ?_
          rw [if_pos rfl]
          refine dw_seq ?_
          refine dw_k [(33, .pr 3 n 5 (K.length) 0)] TSL_ok (by kernel_rfl) hnt (by kernel_rfl) (by simp; rfl) ?_
          intro K hK
          refine And.intro (by constructor <;> omega) ?_
          refine And.intro (by first | rfl | exact VLe.of_eq (by simp)) ?_
          refine And.intro (⟨by rw [ePairs_len]; omega, by omega⟩) ?_
          refine hK _ _ ?_
          clear hK K
          rw [eP_set L K.length p, ← hL, set_kept (by omega)]
          refine dw_k [(35, .v (.int .i64 (↑(K ++ [p]).length)))] TSL_ok (by kernel_rfl) hnt (by kernel_rfl) (by simp; rfl) ?_
          intro K hK
          refine And.intro (dintE (by rw [IntWalk.i64_in _ (by omega)]; simp)) ?_
          refine hK _ _ ?_
          clear hK K
          refine dw_k [(21, .v (.int .i64 (↑(j + 1))))] TSL_ok (by kernel_rfl) hnt (by kernel_rfl) (by simp; rfl) ?_
          intro K hK
          refine And.intro (dintE (by first | omega | exact IntWalk.i64_in _ (by omega) | (rw [IntWalk.i64_in _ (by omega)]; omega) | omega | (simp only [List.length_append, List.length_take, List.length_cons, List.length_nil, eTms_len, eTys_len]; omega) | assumption | (simp_all; done))) ?_
          refine hK _ _ ?_
          clear hK K
          rw [← hkt]
          refine ⟨⟨j + 1, by omega, by omega⟩, by first | omega | (dsimp only; omega), (VS.toK (by first | omega | simp [hn0]) (by repeat first | exact trivial | refine And.intro (And.intro (by first | rfl | simp [D.ok, D.oks, D.okss, D.okm, eTm_ok, eTy_ok, eTys_ok, eTms_ok, upto, keyOk, ePairs_ok, eIs_ok]) (by first | exact Or.inl rfl | exact Or.inr ⟨_, rfl, (by repeat first | exact VLe.refl _ | exact VLe.nil _ | exact VLe.untag _ _ _ | refine VLe.ag ?_ | refine VLe.tu ?_ | refine VLeL.cons ?_ ?_ | exact VLeL.nil), trivial⟩ | simp [get, Key.eq, ePairs_ok, eIs_ok])) ?_))⟩
      · have hKf : K = kept m l := by rw [← hK, List.take_of_length_le (by omega)]
        refine dw_seq ?_
        refine dw_seq ?_
        refine dw_k [(18, .v (.int .i64 (↑n))), (19, .v (.bool false))] TSL_ok (by kernel_rfl) hnt (by kernel_rfl) (by simp; rfl) ?_
        intro K hK
        refine And.intro (dintE (by first | omega | exact IntWalk.i64_in _ (by omega) | (rw [IntWalk.i64_in _ (by omega)]; omega) | omega | (simp only [List.length_append, List.length_take, List.length_cons, List.length_nil, eTms_len, eTys_len]; omega) | assumption | (simp_all; done))) ?_
        refine And.intro (by first | exact dfalse (by omega) | exact VLe.of_eq (by simp [*]; done) | exact dfalse (by first | omega | (simp only [List.length_append, List.length_take, List.length_cons, List.length_nil, eTms_len, eTys_len]; omega) | assumption | (simp_all; done)) | exact VLe.of_eq (by simp_all; done)) ?_
        refine hK _ _ ?_
        clear hK K
        refine dw_cond (t := false) rfl ?_
        rw [if_neg (by simp)]
        refine dw_exit ?_
        refine dw_seq ?_
        refine dw_k [(38, .pt 3 n 5 K.length)] TSL_ok (by kernel_rfl) hnt (by kernel_rfl) (by simp; rfl) ?_
        intro K hK
        refine And.intro (⟨by omega, by omega⟩) ?_
        refine And.intro (VLe.refl _) ?_
        refine And.intro (⟨by rw [ePairs_len]; omega, by omega⟩) ?_
        refine hK _ _ ?_
        clear hK K
        refine dw_freeze (x := 0) (g := 3) rfl rfl (clr_len (by omega) (by omega)) ?_
        rw [clr_len (by omega) (by omega)]
        refine dw_seq ?_
        refine dw_k [(41, .sl 5 (ePairs K) none)] TSL_ok (by kernel_rfl) hnt (by kernel_rfl) (by simp; rfl) ?_
        intro K hK
        refine And.intro (⟨by omega, by rw [clr_len (by omega) (by omega)]; omega⟩) ?_
        refine And.intro (VLe.of_eq (by rw [← hL]; exact congrArg (D.sl 5 · none) (clr_take ..))) ?_
        refine hK _ _ ?_
        clear hK K
        rw [hKf]
        refine dw_ret ?_
        exact retv (N := 0) (.inr rfl) rfl (by repeat first | exact VLe.refl _ | exact VLe.nil _ | exact VLe.untag _ _ _ | refine VLe.ag ?_ | refine VLe.tu ?_ | refine VLeL.cons ?_ ?_ | exact VLeL.nil) (by repeat first | exact trivial | refine And.intro rfl ?_)
end Go.Proofs.YtiblklcfjakjmaaGreat

namespace Go.Proofs.YtiblklcfjakjmaaGreat
open Go.RowKit

theorem cloneP_nil (a : Option Addr) (c nm : Nat) : CallN Tryz.prog 67 [.v (.slice a 0 c)] [] nm [(.r nm, .rp 99 5 [])] (.ps nm 0) := by
  refine callPriv_of_dw 8 [ResultVar.tmp 2] TSL_ok (by kernel_rfl) Tryz.func67 rfl Tryz.ntmps67 rfl (by simp) (by simp [D.ok]) (by simp [D.okss]) ?dbody nm
  case dbody =>
    intro cx hnt hn0
    refine dw_seq ?_
    refine dw_k [] TSL_ok (by kernel_rfl) hnt (by kernel_rfl) (by simp; rfl) ?_
    intro K hK
    refine hK _ _ ?_
    clear hK K
    cases a with
    | none =>
      refine dw_seq ?_
      refine dw_seq ?_
      refine dw_k [(4, .v (.bool true))] TSL_ok (by kernel_rfl) hnt (by kernel_rfl) (by simp; rfl) ?_
      intro K hK
      refine And.intro (VLe.refl _) ?_
      refine hK _ _ ?_
      clear hK K
      refine dw_cond (t := true) rfl ?_
      rw [if_pos rfl]
      refine dw_seq ?_
      refine dw_k [] TSL_ok (by kernel_rfl) hnt (by kernel_rfl) (by simp; rfl) ?_
      intro K hK
      refine hK _ _ ?_
      clear hK K
      refine DW.vs (VS.rowPT (x := 2) (by rw [hnt]; decide) 99 5 rfl) ?_
      refine dw_ret ?_
      exact ⟨.inr rfl, _, rfl, rfl⟩
    | some a =>
      refine dw_seq ?_
      refine dw_seq ?_
      refine dw_k [(4, .v (.bool false))] TSL_ok (by kernel_rfl) hnt (by kernel_rfl) (by simp; rfl) ?_
      intro K hK
      refine And.intro (VLe.refl _) ?_
      refine hK _ _ ?_
      clear hK K
      refine dw_cond (t := false) rfl ?_
      rw [if_neg (by simp)]
      refine dw_skip ?_
      refine dw_seq ?_
      refine dw_k [(5, .ps 3 0)] TSL_ok (by kernel_rfl) hnt (by kernel_rfl) (by simp; rfl) ?_
      intro K hK
      refine And.intro (VLe.ps0 _ _) ?_
      refine And.intro (by decide) ?_
      refine hK _ _ ?_
      clear hK K
      refine dw_ret ?_
      exact ⟨.inr rfl, _, rfl, rfl⟩
theorem cloneP_cons (x : Int × Tm) (l : List (Int × Tm)) (hl : l.length ≤ 900000) (nm : Nat) : CallN Tryz.prog 67 [.sl 5 (ePairs (x :: l)) none] [] nm [(.r nm, .rp 99 5 (ePairs (x :: l)))] (.ps nm (x :: l).length) := by
  refine callPriv_of_dw 8 [ResultVar.tmp 2] TSL_ok (by kernel_rfl) Tryz.func67 rfl Tryz.ntmps67 rfl (by simp) (by simp [D.ok, ePairs_ok]) (by simp [D.okss, ePairs_ok]) ?dbody nm
  case dbody =>
    intro cx hnt hn0
    refine dw_seq ?_
    refine dw_k [] TSL_ok (by kernel_rfl) hnt (by kernel_rfl) (by simp; rfl) ?_
    intro K hK
    refine hK _ _ ?_
    clear hK K
    refine dw_seq ?_
    refine dw_seq ?_
    refine dw_k [(4, .v (.bool false))] TSL_ok (by kernel_rfl) hnt (by kernel_rfl) (by simp; rfl) ?_
    intro K hK
    refine And.intro (VLe.refl _) ?_
    refine hK _ _ ?_
    clear hK K
    refine dw_cond (t := false) rfl ?_
    rw [if_neg (by simp)]
    refine dw_skip ?_
    refine dw_seq ?_
    refine dw_k [(5, .ps 3 0)] TSL_ok (by kernel_rfl) hnt (by kernel_rfl) (by simp; rfl) ?_
    intro K hK
    refine And.intro (VLe.ps0 _ _) ?_
    refine And.intro (by rw [ePairs_len]; simp; omega) ?_
    refine hK _ _ ?_
    clear hK K
    refine dw_ret ?_
    exact ⟨.inr rfl, 3, by rw [show (x :: l).length = (ePairs (x :: l)).length by rw [ePairs_len]]; rfl, rfl⟩
theorem cloneP_d (l : List (Int × Tm)) (hl : l.length ≤ 900000) (nm : Nat) : CallN Tryz.prog 67 [.sl 5 (ePairs l) none] [] nm [(.r nm, .rp 99 5 (ePairs l))] (.ps nm l.length) := by
  cases l with
  | cons x l => exact cloneP_cons x l (by simp at hl; omega) nm
  | nil =>
    refine ⟨by kernel_rfl, fun cx Fr m Im w a σ vs hnm hs hv hR => ?_⟩
    match vs, hv with
    | [v], hv =>
      obtain ⟨a0, c, bl, off, X, rfl, _⟩ := rel_sl hv.1
      exact (cloneP_nil a0 c nm).2 cx Fr m Im w a σ _ hnm hs ⟨.v _, trivial⟩ hR
theorem kept_mem {m : List Int} {l : List (Int × Tm)} {p : Int × Tm} (h : p ∈ kept m l) : p ∈ l := (List.mem_filter.1 h).1
theorem kept_len (m : List Int) (l : List (Int × Tm)) : (kept m l).length ≤ l.length := List.length_filter_le _ _
theorem withoutN_d (l : List (Int × Tm)) (hl : l.length ≤ 900000) (ht : ∀ p ∈ l, p.2.full ≤ 80000 ∧ p.2.Fit) (m : List Int) (hm : m.length ≤ 1000000) (nm : Nat) : CallN Tryz.prog 30 [.sl 5 (ePairs l) none, .sl 1 (eIs m) none] [] nm [(.r nm, .rw 99 5 (kept m l).length)] (.sl 5 (ePairs (So.ss (kept m l))) (some nm)) := by
  have hk := kept_len m l
  have hcl := cloneP_d l hl
  have hdl := delF_d l l.length rfl (by omega) m hm
  have hso := sortedN_d (kept m l) (by omega) (fun p hp => ht p (kept_mem hp))
  refine callRow_of_dw 10 [ResultVar.tmp 4] TSL_ok (by kernel_rfl) Tryz.func30 rfl Tryz.ntmps30 rfl (by simp) (by simp [D.ok, ePairs_ok, eIs_ok]) (by simp [D.okss, ePairs_ok, eIs_ok]) ?dbody nm
  case dbody =>
    intro cx hnt hn0
    refine dw_seq ?_
    refine dw_k [] TSL_ok (by kernel_rfl) hnt (by kernel_rfl) (by simp; rfl) ?_
    intro K hK
    refine hK _ _ ?_
    clear hK K
    refine dw_seq ?_
    refine dw_k [] TSL_ok (by kernel_rfl) hnt (by kernel_rfl) (by simp; rfl) ?_
    intro K hK
    refine ⟨_, _, _, Or.inr (hcl _), by repeat first | exact trivial | refine And.intro ⟨rfl, rfl⟩ ?_, ?_⟩
    refine ⟨_, _, _, Or.inr (CallG.n (hdl) _), by repeat first | exact trivial | refine And.intro ⟨rfl, rfl⟩ ?_, ?_⟩
    refine ⟨_, _, _, Or.inr (hso _), by repeat first | exact trivial | refine And.intro ⟨rfl, rfl⟩ ?_, ?_⟩
    refine hK _ _ ?_
    clear hK K
    refine dw_ret ?_
    exact ⟨.inr rfl, _, rfl, rfl⟩
end Go.Proofs.YtiblklcfjakjmaaGreat

namespace Go.Proofs.YtiblklcfjakjmaaGreat
open Go.RowKit
def TSQ_99 : TI := ⟨5, true, [Value.int IntKind.i64 0, Value.slice none 0 0, Value.int IntKind.i64 0, Value.int IntKind.i64 0, Value.slice none 0 0], [(0, 1, false), (1, 4, true)], none, 72, 6, none, false⟩
theorem TSQ_99_ok : TypOk Tryz.prog 99 TSQ_99 := ⟨by kernel_rfl, by kernel_rfl, by kernel_rfl, by kernel_rfl, by kernel_rfl⟩
def TSQ_30 : TI := ⟨1, false, [Value.slice none 0 0], [], some 99, 24, 5, none, false⟩
theorem TSQ_30_ok : TypOk Tryz.prog 30 TSQ_30 := ⟨by kernel_rfl, by kernel_rfl, by kernel_rfl, by kernel_rfl, by kernel_rfl⟩
def TSQ_52 : TI := ⟨4, true, [Value.slice none 0 0, Value.int IntKind.i64 0, Value.int IntKind.i64 0, Value.slice none 0 0], [(0, 1, false), (1, 2, true), (3, 1, false)], none, 64, 6, none, false⟩
theorem TSQ_52_ok : TypOk Tryz.prog 52 TSQ_52 := ⟨by kernel_rfl, by kernel_rfl, by kernel_rfl, by kernel_rfl, by kernel_rfl⟩
def TSQ_3 : TI := ⟨1, false, [Value.int IntKind.i64 0], [], none, 8, 2, none, false⟩
theorem TSQ_3_ok : TypOk Tryz.prog 3 TSQ_3 := ⟨by kernel_rfl, by kernel_rfl, by kernel_rfl, by kernel_rfl, by kernel_rfl⟩
def TSQ_42 : TI := ⟨1, false, [Value.slice none 0 0], [], some 3, 24, 5, none, false⟩
theorem TSQ_42_ok : TypOk Tryz.prog 42 TSQ_42 := ⟨by kernel_rfl, by kernel_rfl, by kernel_rfl, by kernel_rfl, by kernel_rfl⟩
def TSQ_29 : TI := ⟨1, false, [Value.slice none 0 0], [], some 99, 24, 5, none, false⟩
theorem TSQ_29_ok : TypOk Tryz.prog 29 TSQ_29 := ⟨by kernel_rfl, by kernel_rfl, by kernel_rfl, by kernel_rfl, by kernel_rfl⟩
def TSQ_112 : TI := ⟨1, false, [Value.pointer none], [], none, 8, 4, none, false⟩
theorem TSQ_112_ok : TypOk Tryz.prog 112 TSQ_112 := ⟨by kernel_rfl, by kernel_rfl, by kernel_rfl, by kernel_rfl, by kernel_rfl⟩
def TSQ_123 : TI := ⟨1, false, [Value.nilFunc], [], none, 8, 8, none, false⟩
theorem TSQ_123_ok : TypOk Tryz.prog 123 TSQ_123 := ⟨by kernel_rfl, by kernel_rfl, by kernel_rfl, by kernel_rfl, by kernel_rfl⟩
def TSQ : List (Nat × TI) := [(99, TSQ_99), (30, TSQ_30), (52, TSQ_52), (3, TSQ_3), (42, TSQ_42), (29, TSQ_29), (112, TSQ_112), (123, TSQ_123)]
theorem TSQ_ok : TabOk Tryz.prog TSQ := (((((((((TabOk.nil _).cons TSQ_123_ok).cons TSQ_112_ok).cons TSQ_29_ok).cons TSQ_42_ok).cons TSQ_3_ok).cons TSQ_52_ok).cons TSQ_30_ok).cons TSQ_99_ok)

theorem equal2_d (t u : Tm) : PureC Tryz.prog 43 [.ag (eTm t), .ag (eTm u)] (.v (.bool (decide (t = u)))) := by
  refine pure_below (by kernel_rfl) fun m Im w vs hv => ?_
  match vs, hv with
  | [x, y], hv =>
    obtain ⟨b, k, i, a, rfl, ht⟩ := agTm hv.1
    obtain ⟨b', k', i', a', rfl, hu⟩ := agTm hv.2.1
    refine (equal6_k t _ _ _ _ _ _ ht _ _ _ _ _ _ u hu w (Keep.refl _ _) (Keep.refl _ _)).mono ?_
    rintro e w' ⟨b, hb, rfl, h2⟩
    have : b = decide (t = u) := by rw [Bool.eq_iff_iff, decide_eq_true_iff]; exact hb
    rw [this]
    exact ⟨_, rfl, h2, fun Im' _ hI => .v _⟩
theorem same2_d (t u : Tm) : PureC Tryz.prog 26 [.ag (eTm t), .ag (eTm u)] (.v (.bool (decide (t = u)))) := by
  refine pure_below (by kernel_rfl) fun m Im w vs hv => ?_
  match vs, hv with
  | [x, y], hv =>
    obtain ⟨b, k, i, a, rfl, ht⟩ := agTm hv.1
    obtain ⟨b', k', i', a', rfl, hu⟩ := agTm hv.2.1
    refine (same6_r t _ _ _ _ _ _ ht _ _ _ _ _ _ u hu w (Keep.refl _ _) (Keep.refl _ _)).mono ?_
    rintro e w' ⟨b, hb, rfl, h2⟩
    have : b = decide (t = u) := by rw [Bool.eq_iff_iff, decide_eq_true_iff]; exact hb
    rw [this]
    exact ⟨_, rfl, h2, fun Im' _ hI => .v _⟩
theorem ePairs_snoc (l : List (Int × Tm)) (p : Int × Tm) : ePairs l ++ [[.v (.int .i64 p.1), .sl 2 (eTys p.2.binds) none, .v (.int .i64 p.2.kind), .v (.int .i64 p.2.index), .sl 4 (eTms p.2.args) none]] = ePairs (l ++ [p]) := by
  rw [← ePair_eq]; unfold ePairs; rw [List.map_append]; rfl
theorem sset_d (l : List (Int × Tm)) (hl : l.length ≤ 900000) (ht : ∀ p ∈ l, p.2.full ≤ 80000 ∧ p.2.Fit) (mt : Int) (t : Tm) (h1 : t.full ≤ 80000) (h2 : t.Fit) :
    PureC Tryz.prog 28 [.sl 5 (ePairs l) none, .v (.int .i64 mt), .ag (eTm t)] (.sl 5 (ePairs (So.ss (So.ss (kept [mt] l) ++ [(mt, t)]))) none) := by
  have hk := kept_len [mt] l
  have hwo := withoutN_d l hl ht [mt] (by simp)
  have hsn := ePairs_snoc (So.ss (kept [mt] l)) (mt, t)
  have hsl := So.ss_len (kept [mt] l)
  have hso := sortedN_d (So.ss (kept [mt] l) ++ [(mt, t)]) (by simp [So.ss_len]; omega) (fun p hp => by
    rcases List.mem_append.1 hp with hp | hp
    · exact ht p (kept_mem ((So.ss_same _).mem hp))
    · rw [List.mem_singleton] at hp; subst hp; exact ⟨h1, h2⟩)
  rw [eTm_eq]
  dsimp only at hsn
  refine call_of_dw 0 17 [ResultVar.tmp 6] TSQ_ok (by kernel_rfl) Tryz.func28 rfl Tryz.ntmps28 rfl (by simp) ?dwords ?dbody
  case dwords => simp [wordsOk, D.ok, D.oks, D.okss, rnames, inN, ckey, ePairs_ok, eTys_ok, eTms_ok]
  case dbody =>
    intro cx hnt hn0
    refine dw_seq ?_
    refine dw_k [] TSQ_ok (by kernel_rfl) hnt (by kernel_rfl) (by simp; rfl) ?_
    intro K hK
    refine hK _ _ ?_
    clear hK K
    refine dw_seq ?_
    refine dw_kD [(9, .sl 1 (eIs [mt]) none), (15, .sl 5 (ePairs (So.ss (kept [mt] l) ++ [(mt, t)])) none), (16, .sl 5 (ePairs (So.ss (So.ss (kept [mt] l) ++ [(mt, t)]))) none)] TSQ_ok (by kernel_rfl) hnt (by kernel_rfl) (by simp; rfl) ?_
    intro K hK
    refine And.intro (VLe.untag _ _ _) ?_
    refine ⟨_, _, _, Or.inr (hwo _), by repeat first | exact trivial | refine And.intro ⟨rfl, rfl⟩ ?_, ?_⟩
    refine And.intro (⟨by rw [ePairs_len, hsl], by rw [ePairs_len, hsl]; simp; omega⟩) ?_
    refine And.intro ((by rw [← hsn]; exact VLe.untag _ _ _)) ?_
    refine ⟨_, _, _, Or.inr (hso _), by repeat first | exact trivial | refine And.intro ⟨rfl, rfl⟩ ?_, ?_⟩
    refine And.intro (VLe.untag _ _ _) ?_
    refine hK _ _ (by kernel_rfl) ?_
    clear hK K
    refine dw_ret ?_
    exact retv (N := 0) (.inr rfl) rfl (by repeat first | exact VLe.refl _ | exact VLe.nil _ | exact VLe.untag _ _ _ | refine VLe.ag ?_ | refine VLe.tu ?_ | refine VLeL.cons ?_ ?_ | exact VLeL.nil) (by repeat first | exact trivial | refine And.intro rfl ?_)
theorem domain_d (l : List (Int × Tm)) (hl : l.length ≤ 900000) : PureC Tryz.prog 32 [.sl 5 (ePairs l) none] (.sl 1 (eIs (l.map (·.1))) none) := by
  refine call_of_dw 0 19 [ResultVar.tmp 2] TSQ_ok (by kernel_rfl) Tryz.func32 rfl Tryz.ntmps32 rfl (by simp) ?dwords ?dbody
  case dwords => simp [wordsOk, D.ok, D.oks, D.okss, rnames, inN, ckey, ePairs_ok, eIs_ok]
  case dbody =>
    intro cx hnt hn0
    refine dw_seq ?_
    refine dw_k [] TSQ_ok (by kernel_rfl) hnt (by kernel_rfl) (by simp; rfl) ?_
    intro K hK
    refine hK _ _ ?_
    clear hK K
    refine dw_cut (τ := [(.t 0, .sl 5 (ePairs l) none), (.t 3, .v (.slice none 0 0))]) (N1 := 0) ?_ ?_
    · skip
      refine dw_k [] TSQ_ok (by kernel_rfl) hnt (by kernel_rfl) (by simp; rfl) ?_
      intro K hK
      refine hK _ _ ?_
      clear hK K
      exact cut_ok (VS.toK (by first | omega | simp [hn0]) (by repeat first | exact trivial | refine And.intro (And.intro (by first | rfl | simp [D.ok, D.oks, D.okss, D.okm, eTm_ok, eTy_ok, eTys_ok, eTms_ok, upto, keyOk, ePairs_ok, argsT]) (by first | exact Or.inl rfl | exact Or.inr ⟨_, rfl, (by repeat first | exact VLe.refl _ | exact VLe.nil _ | exact VLe.untag _ _ _ | refine VLe.ag ?_ | refine VLe.tu ?_ | refine VLeL.cons ?_ ?_ | exact VLeL.nil), trivial⟩ | simp [get, Key.eq, ePairs_ok, argsT])) ?_))
    · refine DW.vs (VS.rowT (x := 3) (by rw [hnt]; decide) 3 1 rfl) ?_
      refine dw_seq ?_
      refine dw_seq ?_
      refine dw_k [(7, .v (.int .i64 (↑l.length)))] TSQ_ok (by kernel_rfl) hnt (by kernel_rfl) (by simp; rfl) ?_
      intro K hK
      refine And.intro (dintE (by rw [ePairs_len])) ?_
      refine hK _ _ ?_
      clear hK K
      refine dw_block ?_
      refine dw_loop (ι := { k : Nat // k ≤ l.length }) (fun k => [(.t 3, .sl 1 (eIs ((l.take k.1).map (·.1))) (some 0)), (.t 6, .sl 5 (ePairs l) none), (.t 7, .v (.int .i64 ↑l.length)), (.t 8, .v (.int .i64 ↑k.1)), (.r 0, .rw 3 1 k.1)]) 1 (fun k => l.length - k.1) (⟨0, Nat.zero_le _⟩) ((VS.toK (by first | omega | simp [hn0]) (by repeat first | exact trivial | refine And.intro (And.intro (by first | rfl | simp [D.ok, D.oks, D.okss, D.okm, eTm_ok, eTy_ok, eTys_ok, eTms_ok, upto, keyOk, ePairs_ok, eIs_ok, argsT]) (by first | exact Or.inl rfl | exact Or.inr ⟨_, rfl, (by repeat first | exact VLe.refl _ | exact VLe.nil _ | exact VLe.untag _ _ _ | refine VLe.ag ?_ | refine VLe.tu ?_ | refine VLeL.cons ?_ ?_ | exact VLeL.nil), trivial⟩ | simp [get, Key.eq, ePairs_ok, eIs_ok, argsT])) ?_))) fun k => ?_
      obtain ⟨k, hk⟩ := k
      dsimp only
      by_cases hlt : k < l.length
      · have htk : eIs ((l.take k).map (·.1)) ++ [[.v (.int .i64 l[k].1)]] = eIs ((l.take (k + 1)).map (·.1)) := by
          rw [List.take_add_one, List.getElem?_eq_getElem hlt, Option.toList_some, List.map_append, eIs_append]; rfl
        have hle : (eIs ((l.take k).map (·.1))).length = k := by rw [eIs_len]; simp; omega
        have hle2 : (eIs ((l.take (k + 1)).map (·.1))).length = k + 1 := by rw [eIs_len]; simp; omega
        refine dw_seq ?_
        refine dw_k [(9, .v (.bool true))] TSQ_ok (by kernel_rfl) hnt (by kernel_rfl) (by simp; rfl) ?_
        intro K hK
        refine And.intro (by first | exact dtrue (by omega) | exact VLe.of_eq (by simp [*]; done) | exact dtrue (by first | omega | (simp only [List.length_append, List.length_take, List.length_cons, List.length_nil, eTms_len, eTys_len]; omega) | assumption | (simp_all; done)) | exact VLe.of_eq (by simp_all; done)) ?_
        refine hK _ _ ?_
        clear hK K
        refine dw_seq ?_
        refine dw_cond (t := true) rfl ?_
        rw [if_pos rfl]
        refine dw_skip ?_
        refine dw_seq ?_
        refine dw_block ?_
        refine dw_seq ?_
        refine dw_k [(10, .q [.v (.int .i64 l[k].1), .sl 2 (eTys l[k].2.binds) none, .v (.int .i64 l[k].2.kind), .v (.int .i64 l[k].2.index), .sl 4 (eTms l[k].2.args) none])] TSQ_ok (by kernel_rfl) hnt (by kernel_rfl) (by simp; rfl) ?_
        intro K hK
        refine And.intro (by first | exact ⟨by omega, by rw [ePairs_len]; omega⟩ | (simp only [ePairs_len]; omega)) ?_
        refine And.intro (VLe.of_eq (by rw [show (Int.toNat ((k : Nat) : Int)) = k by omega, ePairs_getD l k (by omega), ePair_eq])) ?_
        refine hK _ _ ?_
        clear hK K
        refine dw_k [] TSQ_ok (by kernel_rfl) hnt (by kernel_rfl) (by simp; rfl) ?_
        intro K hK
        refine And.intro (⟨by omega, by rw [hle]; simp; omega⟩) ?_
        refine hK _ _ ?_
        clear hK K
        rw [htk, hle2]
        refine dw_k [(17, .v (.int .i64 (↑(k + 1))))] TSQ_ok (by kernel_rfl) hnt (by kernel_rfl) (by simp; rfl) ?_
        intro K hK
        refine And.intro (dintE (by first | omega | exact IntWalk.i64_in _ (by omega) | (rw [IntWalk.i64_in _ (by omega)]; omega) | omega | (simp only [List.length_append, List.length_take, List.length_cons, List.length_nil, eTms_len, eTys_len]; omega) | assumption | (simp_all; done))) ?_
        refine hK _ _ ?_
        clear hK K
        refine ⟨⟨k + 1, by omega⟩, by first | omega | (dsimp only; omega), (VS.toK (by first | omega | simp [hn0]) (by repeat first | exact trivial | refine And.intro (And.intro (by first | rfl | simp [D.ok, D.oks, D.okss, D.okm, eTm_ok, eTy_ok, eTys_ok, eTms_ok, upto, keyOk, eIs_ok, ePairs_ok]) (by first | exact Or.inl rfl | exact Or.inr ⟨_, rfl, (by repeat first | exact VLe.refl _ | exact VLe.nil _ | exact VLe.untag _ _ _ | refine VLe.ag ?_ | refine VLe.tu ?_ | refine VLeL.cons ?_ ?_ | exact VLeL.nil), trivial⟩ | simp [get, Key.eq, eIs_ok, ePairs_ok])) ?_))⟩
      · rw [List.take_of_length_le (by omega)]
        refine dw_seq ?_
        refine dw_k [(9, .v (.bool false))] TSQ_ok (by kernel_rfl) hnt (by kernel_rfl) (by simp; rfl) ?_
        intro K hK
        refine And.intro (by first | exact dfalse (by omega) | exact VLe.of_eq (by simp [*]; done) | exact dfalse (by first | omega | (simp only [List.length_append, List.length_take, List.length_cons, List.length_nil, eTms_len, eTys_len]; omega) | assumption | (simp_all; done)) | exact VLe.of_eq (by simp_all; done)) ?_
        refine hK _ _ ?_
        clear hK K
        refine dw_seq ?_
        refine dw_cond (t := false) rfl ?_
        rw [if_neg (by simp)]
        refine dw_exit ?_
        refine dw_seq ?_
        refine dw_k [] TSQ_ok (by kernel_rfl) hnt (by kernel_rfl) (by simp; rfl) ?_
        intro K hK
        refine hK _ _ ?_
        clear hK K
        refine dw_ret ?_
        exact retv (N := 0) (.inr rfl) rfl (by repeat first | exact VLe.refl _ | exact VLe.nil _ | exact VLe.untag _ _ _ | refine VLe.ag ?_ | refine VLe.tu ?_ | refine VLeL.cons ?_ ?_ | exact VLeL.nil) (by repeat first | exact trivial | refine And.intro rfl ?_)
end Go.Proofs.YtiblklcfjakjmaaGreat

namespace Go.Proofs.YtiblklcfjakjmaaGreat
open Go.RowKit

def getP (l : List (Int × Tm)) (m : Int) : Option (Int × Tm) := (idxOf m l).bind fun i => l[i]?
def getT (l : List (Int × Tm)) (m : Int) : Tm × Bool := match getP l m with
  | some p => (p.2, true)
  | none => (.mk [] 0 0 [], false)
theorem getP_mem {l : List (Int × Tm)} {m : Int} {p : Int × Tm} (h : getP l m = some p) : p ∈ l := by
  unfold getP at h
  cases hi : idxOf m l with
  | none => rw [hi] at h; cases h
  | some i => rw [hi] at h; exact List.mem_of_getElem? h
theorem sget_d (l : List (Int × Tm)) (hl : l.length ≤ 1000000) (ht : ∀ p ∈ l, p.2.full ≤ 80000 ∧ p.2.Fit) (m : Int) : PureC Tryz.prog 18 [.sl 5 (ePairs l) none, .v (.int .i64 m)] (.tu [.ag (eTm (getT l m).1), .v (.bool (getT l m).2)]) := by
  have hf := sfind_d l hl m
  have hg : getP l m = (idxOf m l).bind fun i => l[i]? := rfl
  rw [← hg] at hf
  cases h : getP l m with
  | none =>
    rw [h] at hf
    have e : getT l m = (.mk [] 0 0 [], false) := by unfold getT; rw [h]
    rw [e, eTm_eq]
    dsimp only [Tm.binds, Tm.kind, Tm.index, Tm.args, eTys, eTms] at hf ⊢
    refine call_of_dw 0 18 [ResultVar.cell 4 52, ResultVar.tmp 5] TSQ_ok (by kernel_rfl) Tryz.func18 rfl Tryz.ntmps18 rfl (by simp) ?dwords ?dbody
    case dwords => simp [wordsOk, D.ok, D.oks, D.okss, rnames, inN, ckey, ePairs_ok, eTys_ok, eTms_ok]
    case dbody =>
      intro cx hnt hn0
      refine dw_seq ?_
      refine dw_k [] TSQ_ok (by kernel_rfl) hnt (by kernel_rfl) (by simp; rfl) ?_
      intro K hK
      refine hK _ _ ?_
      clear hK K
      refine dw_seq ?_
      refine dw_k [] TSQ_ok (by kernel_rfl) hnt (by kernel_rfl) (by simp; rfl) ?_
      intro K hK
      refine ⟨_, _, _, Or.inl (hf), by repeat first | exact trivial | refine And.intro ⟨rfl, rfl⟩ ?_, ?_⟩
      refine hK _ _ ?_
      clear hK K
      refine dw_seq ?_
      refine dw_seq ?_
      refine dw_k [] TSQ_ok (by kernel_rfl) hnt (by kernel_rfl) (by simp; rfl) ?_
      intro K hK
      refine hK _ _ ?_
      clear hK K
      refine dw_cond (t := true) rfl ?_
      rw [if_pos rfl]
      refine dw_seq ?_
      refine dw_k [] TSQ_ok (by kernel_rfl) hnt (by kernel_rfl) (by simp; rfl) ?_
      intro K hK
      refine hK _ _ ?_
      clear hK K
      refine dw_ret ?_
      exact retv (N := 0) (.inr rfl) rfl (by repeat first | exact VLe.refl _ | exact VLe.nil _ | exact VLe.untag _ _ _ | refine VLe.ag ?_ | refine VLe.tu ?_ | refine VLeL.cons ?_ ?_ | exact VLeL.nil) (by repeat first | exact trivial | refine And.intro rfl ?_)
  | some p =>
    rw [h] at hf
    have e : getT l m = (p.2, true) := by unfold getT; rw [h]
    have hp := ht p (getP_mem h)
    have hc := copy_d p.2 hp.1 hp.2
    rw [e, eTm_eq]
    rw [eTm_eq] at hc
    dsimp only at hf ⊢
    rw [ePair_eq] at hf
    refine call_of_dw 0 18 [ResultVar.cell 4 52, ResultVar.tmp 5] TSQ_ok (by kernel_rfl) Tryz.func18 rfl Tryz.ntmps18 rfl (by simp) ?dwords ?dbody
    case dwords => simp [wordsOk, D.ok, D.oks, D.okss, rnames, inN, ckey, ePairs_ok, eTys_ok, eTms_ok]
    case dbody =>
      intro cx hnt hn0
      refine dw_seq ?_
      refine dw_k [] TSQ_ok (by kernel_rfl) hnt (by kernel_rfl) (by simp; rfl) ?_
      intro K hK
      refine hK _ _ ?_
      clear hK K
      refine dw_seq ?_
      refine dw_k [] TSQ_ok (by kernel_rfl) hnt (by kernel_rfl) (by simp; rfl) ?_
      intro K hK
      refine ⟨_, _, _, Or.inl (hf), by repeat first | exact trivial | refine And.intro ⟨rfl, rfl⟩ ?_, ?_⟩
      refine hK _ _ ?_
      clear hK K
      refine dw_seq ?_
      refine dw_seq ?_
      refine dw_k [] TSQ_ok (by kernel_rfl) hnt (by kernel_rfl) (by simp; rfl) ?_
      intro K hK
      refine hK _ _ ?_
      clear hK K
      refine dw_cond (t := false) rfl ?_
      rw [if_neg (by simp)]
      refine dw_skip ?_
      refine dw_seq ?_
      refine dw_k [] TSQ_ok (by kernel_rfl) hnt (by kernel_rfl) (by simp; rfl) ?_
      intro K hK
      refine ⟨_, _, _, Or.inl (hc), by repeat first | exact trivial | refine And.intro ⟨rfl, rfl⟩ ?_, ?_⟩
      refine hK _ _ ?_
      clear hK K
      refine dw_ret ?_
      exact retv (N := 0) (.inr rfl) rfl (by repeat first | exact VLe.refl _ | exact VLe.nil _ | exact VLe.untag _ _ _ | refine VLe.ag ?_ | refine VLe.tu ?_ | refine VLeL.cons ?_ ?_ | exact VLeL.nil) (by repeat first | exact trivial | refine And.intro rfl ?_)
theorem equal1_d (p q : Int × Tm) : PureC Tryz.prog 71 [.ag (ePair p), .ag (ePair q)] (.v (.bool (decide (p = q)))) := by
  have he := equal2_d p.2 q.2
  rw [ePair_eq, ePair_eq]
  rw [eTm_eq, eTm_eq] at he
  by_cases h : p.1 = q.1
  · have e : decide (p = q) = decide (p.2 = q.2) := by
      rw [Bool.eq_iff_iff, decide_eq_true_iff, decide_eq_true_iff]
      exact ⟨fun e => by rw [e], fun e => Prod.ext h e⟩
    rw [e]
    refine call_of_dw 0 17 [ResultVar.tmp 4] TSQ_ok (by kernel_rfl) Tryz.func71 rfl Tryz.ntmps71 rfl (by simp) ?dwords ?dbody
    case dwords => simp [wordsOk, D.ok, D.oks, D.okss, rnames, inN, ckey, ePairs_ok, eTys_ok, eTms_ok]
    case dbody =>
      intro cx hnt hn0
      refine dw_seq ?_
      refine dw_k [] TSQ_ok (by kernel_rfl) hnt (by kernel_rfl) (by simp; rfl) ?_
      intro K hK
      refine hK _ _ ?_
      clear hK K
      refine dw_seq ?_
      refine dw_k [(9, .v (.bool true))] TSQ_ok (by kernel_rfl) hnt (by kernel_rfl) (by simp; rfl) ?_
      intro K hK
      refine And.intro (beqT h) ?_
      refine ⟨_, _, _, Or.inl (he), by repeat first | exact trivial | refine And.intro ⟨rfl, rfl⟩ ?_, ?_⟩
      refine hK _ _ ?_
      clear hK K
      refine dw_ret ?_
      exact retv (N := 0) (.inr rfl) rfl (by repeat first | exact VLe.refl _ | exact VLe.nil _ | exact VLe.untag _ _ _ | refine VLe.ag ?_ | refine VLe.tu ?_ | refine VLeL.cons ?_ ?_ | exact VLeL.nil) (by repeat first | exact trivial | refine And.intro rfl ?_)
  · have e : decide (p = q) = false := by rw [decide_eq_false_iff_not]; exact fun e => h (by rw [e])
    rw [e]
    refine call_of_dw 0 17 [ResultVar.tmp 4] TSQ_ok (by kernel_rfl) Tryz.func71 rfl Tryz.ntmps71 rfl (by simp) ?dwords ?dbody
    case dwords => simp [wordsOk, D.ok, D.oks, D.okss, rnames, inN, ckey, ePairs_ok, eTys_ok, eTms_ok]
    case dbody =>
      intro cx hnt hn0
      refine dw_seq ?_
      refine dw_k [] TSQ_ok (by kernel_rfl) hnt (by kernel_rfl) (by simp; rfl) ?_
      intro K hK
      refine hK _ _ ?_
      clear hK K
      refine dw_seq ?_
      refine dw_k [(9, .v (.bool false))] TSQ_ok (by kernel_rfl) hnt (by kernel_rfl) (by simp; rfl) ?_
      intro K hK
      refine And.intro (beqF h) ?_
      refine hK _ _ ?_
      clear hK K
      refine dw_ret ?_
      exact retv (N := 0) (.inr rfl) rfl (by repeat first | exact VLe.refl _ | exact VLe.nil _ | exact VLe.untag _ _ _ | refine VLe.ag ?_ | refine VLe.tu ?_ | refine VLeL.cons ?_ ?_ | exact VLeL.nil) (by repeat first | exact trivial | refine And.intro rfl ?_)
theorem eqPairs_d (l r : List (Int × Tm)) (hl : l.length ≤ 1000000) (hr : r.length ≤ 1000000) : PureC Tryz.prog 70 [.sl 5 (ePairs l) none, .sl 5 (ePairs r) none, .fn 71 []] (.v (.bool (decide (l = r)))) := by
  by_cases hlr : l.length = r.length
  · skip
    refine call_of_dw 0 32 [ResultVar.tmp 6] TSQ_ok (by kernel_rfl) Tryz.func70 rfl Tryz.ntmps70 rfl (by simp) ?dwords ?dbody
    case dwords => simp [wordsOk, D.ok, D.oks, D.okss, rnames, inN, ckey, ePairs_ok]
    case dbody =>
      intro cx hnt hn0
      refine dw_seq ?_
      refine dw_k [] TSQ_ok (by kernel_rfl) hnt (by kernel_rfl) (by simp; rfl) ?_
      intro K hK
      refine hK _ _ ?_
      clear hK K
      refine dw_seq ?_
      refine dw_seq ?_
      refine dw_k [(11, .v (.int .i64 (↑l.length))), (13, .v (.int .i64 (↑r.length))), (14, .v (.bool false))] TSQ_ok (by kernel_rfl) hnt (by kernel_rfl) (by simp; rfl) ?_
      intro K hK
      refine And.intro (dintE (by rw [ePairs_len])) ?_
      refine And.intro (dintE (by rw [ePairs_len])) ?_
      refine And.intro (bneF (by omega)) ?_
      refine hK _ _ ?_
      clear hK K
      refine dw_cond (t := false) rfl ?_
      rw [if_neg (by simp)]
      refine dw_skip ?_
      refine dw_seq ?_
      refine dw_seq ?_
      refine dw_k [(16, .v (.int .i64 (↑l.length)))] TSQ_ok (by kernel_rfl) hnt (by kernel_rfl) (by simp; rfl) ?_
      intro K hK
      refine And.intro (dintE (by rw [ePairs_len])) ?_
      refine hK _ _ ?_
      clear hK K
      refine dw_block ?_
      refine dw_loop (ι := { j : Nat // l.take j = r.take j }) (fun j => [(.t 1, .sl 5 (ePairs r) none), (.t 2, .fn 71 []), (.t 15, .sl 5 (ePairs l) none), (.t 16, .v (.int .i64 ↑l.length)), (.t 17, .v (.int .i64 ↑j.1))]) 0 (fun j => l.length - j.1) (⟨0, rfl⟩) ((VS.toK (by first | omega | simp [hn0]) (by repeat first | exact trivial | refine And.intro (And.intro (by first | rfl | simp [D.ok, D.oks, D.okss, D.okm, eTm_ok, eTy_ok, eTys_ok, eTms_ok, upto, keyOk, ePairs_ok, argsT]) (by first | exact Or.inl rfl | exact Or.inr ⟨_, rfl, (by repeat first | exact VLe.refl _ | exact VLe.nil _ | exact VLe.untag _ _ _ | refine VLe.ag ?_ | refine VLe.tu ?_ | refine VLeL.cons ?_ ?_ | exact VLeL.nil), trivial⟩ | simp [get, Key.eq, ePairs_ok, argsT])) ?_))) fun j => ?_
      obtain ⟨j, hj⟩ := j
      dsimp only
      by_cases hlt : j < l.length
      · have he := equal1_d l[j] (r[j]'(by omega))
        have h1 := List.take_add_one (l := l) (i := j)
        have h2 := List.take_add_one (l := r) (i := j)
        rw [List.getElem?_eq_getElem hlt] at h1
        rw [List.getElem?_eq_getElem (by omega)] at h2
        rw [ePair_eq, ePair_eq] at he
        by_cases hv : l[j] = r[j]'(by omega)
        · rw [decide_eq_true hv] at he
          refine dw_seq ?_
          refine dw_k [(18, .v (.bool true))] TSQ_ok (by kernel_rfl) hnt (by kernel_rfl) (by simp; rfl) ?_
          intro K hK
          refine And.intro (by first | exact dtrue (by omega) | exact VLe.of_eq (by simp [*]; done) | exact dtrue (by first | omega | (simp only [List.length_append, List.length_take, List.length_cons, List.length_nil, eTms_len, eTys_len]; omega) | assumption | (simp_all; done)) | exact VLe.of_eq (by simp_all; done)) ?_
          refine hK _ _ ?_
          clear hK K
          refine dw_seq ?_
          refine dw_cond (t := true) rfl ?_
          rw [if_pos rfl]
          refine dw_skip ?_
          refine dw_seq ?_
          refine dw_block ?_
          refine dw_seq ?_
          refine dw_k [(20, .q [.v (.int .i64 l[j].1), .sl 2 (eTys l[j].2.binds) none, .v (.int .i64 l[j].2.kind), .v (.int .i64 l[j].2.index), .sl 4 (eTms l[j].2.args) none])] TSQ_ok (by kernel_rfl) hnt (by kernel_rfl) (by simp; rfl) ?_
          intro K hK
          refine And.intro (by first | exact ⟨by omega, by rw [ePairs_len]; omega⟩ | (simp only [ePairs_len]; omega)) ?_
          refine And.intro (VLe.of_eq (by rw [show (Int.toNat ((j : Nat) : Int)) = j by omega, ePairs_getD l j (by omega), ePair_eq])) ?_
          refine hK _ _ ?_
          clear hK K
          refine dw_seq ?_
          refine dw_k [(24, .q [.v (.int .i64 r[j].1), .sl 2 (eTys r[j].2.binds) none, .v (.int .i64 r[j].2.kind), .v (.int .i64 r[j].2.index), .sl 4 (eTms r[j].2.args) none])] TSQ_ok (by kernel_rfl) hnt (by kernel_rfl) (by simp; rfl) ?_
          intro K hK
          refine And.intro (by first | exact ⟨by omega, by rw [ePairs_len]; omega⟩ | (simp only [ePairs_len]; omega)) ?_
          refine And.intro (VLe.of_eq (by rw [show (Int.toNat ((j : Nat) : Int)) = j by omega, ePairs_getD r j (by omega), ePair_eq])) ?_
          refine hK _ _ ?_
          clear hK K
          refine dw_seq ?_
          refine dw_k [] TSQ_ok (by kernel_rfl) hnt (by kernel_rfl) (by simp; rfl) ?_
          intro K hK
          refine ⟨_, _, _, Or.inl (he), by repeat first | exact trivial | refine And.intro ⟨rfl, rfl⟩ ?_, ?_⟩
          refine hK _ _ ?_
          clear hK K
          refine dw_cond (t := false) rfl ?_
          rw [if_neg (by simp)]
          refine dw_skip ?_
          refine dw_k [(31, .v (.int .i64 (↑(j + 1))))] TSQ_ok (by kernel_rfl) hnt (by kernel_rfl) (by simp; rfl) ?_
          intro K hK
          refine And.intro (dintE (by first | omega | exact IntWalk.i64_in _ (by omega) | (rw [IntWalk.i64_in _ (by omega)]; omega) | omega | (simp only [List.length_append, List.length_take, List.length_cons, List.length_nil, eTms_len, eTys_len]; omega) | assumption | (simp_all; done))) ?_
          refine hK _ _ ?_
          clear hK K
          refine ⟨⟨j + 1, by rw [h1, h2, hj, hv]⟩, by first | omega | (dsimp only; omega), (VS.toK (by first | omega | simp [hn0]) (by repeat first | exact trivial | refine And.intro (And.intro (by first | rfl | simp [D.ok, D.oks, D.okss, D.okm, eTm_ok, eTy_ok, eTys_ok, eTms_ok, upto, keyOk, ePairs_ok]) (by first | exact Or.inl rfl | exact Or.inr ⟨_, rfl, (by repeat first | exact VLe.refl _ | exact VLe.nil _ | exact VLe.untag _ _ _ | refine VLe.ag ?_ | refine VLe.tu ?_ | refine VLeL.cons ?_ ?_ | exact VLeL.nil), trivial⟩ | simp [get, Key.eq, ePairs_ok])) ?_))⟩
        · rw [decide_eq_false hv] at he
          have e : decide (l = r) = false := by rw [decide_eq_false_iff_not]; exact fun e => hv (by subst e; rfl)
          rw [e]
          refine dw_seq ?_
          refine dw_k [(18, .v (.bool true))] TSQ_ok (by kernel_rfl) hnt (by kernel_rfl) (by simp; rfl) ?_
          intro K hK
          refine And.intro (by first | exact dtrue (by omega) | exact VLe.of_eq (by simp [*]; done) | exact dtrue (by first | omega | (simp only [List.length_append, List.length_take, List.length_cons, List.length_nil, eTms_len, eTys_len]; omega) | assumption | (simp_all; done)) | exact VLe.of_eq (by simp_all; done)) ?_
          refine hK _ _ ?_
          clear hK K
          refine dw_seq ?_
          refine dw_cond (t := true) rfl ?_
          rw [if_pos rfl]
          refine dw_skip ?_
          refine dw_seq ?_
          refine dw_block ?_
          refine dw_seq ?_
          refine dw_k [(20, .q [.v (.int .i64 l[j].1), .sl 2 (eTys l[j].2.binds) none, .v (.int .i64 l[j].2.kind), .v (.int .i64 l[j].2.index), .sl 4 (eTms l[j].2.args) none])] TSQ_ok (by kernel_rfl) hnt (by kernel_rfl) (by simp; rfl) ?_
          intro K hK
          refine And.intro (by first | exact ⟨by omega, by rw [ePairs_len]; omega⟩ | (simp only [ePairs_len]; omega)) ?_
          refine And.intro (VLe.of_eq (by rw [show (Int.toNat ((j : Nat) : Int)) = j by omega, ePairs_getD l j (by omega), ePair_eq])) ?_
          refine hK _ _ ?_
          clear hK K
          refine dw_seq ?_
          refine dw_k [(24, .q [.v (.int .i64 r[j].1), .sl 2 (eTys r[j].2.binds) none, .v (.int .i64 r[j].2.kind), .v (.int .i64 r[j].2.index), .sl 4 (eTms r[j].2.args) none])] TSQ_ok (by kernel_rfl) hnt (by kernel_rfl) (by simp; rfl) ?_
          intro K hK
          refine And.intro (by first | exact ⟨by omega, by rw [ePairs_len]; omega⟩ | (simp only [ePairs_len]; omega)) ?_
          refine And.intro (VLe.of_eq (by rw [show (Int.toNat ((j : Nat) : Int)) = j by omega, ePairs_getD r j (by omega), ePair_eq])) ?_
          refine hK _ _ ?_
          clear hK K
          refine dw_seq ?_
          refine dw_k [] TSQ_ok (by kernel_rfl) hnt (by kernel_rfl) (by simp; rfl) ?_
          intro K hK
          refine ⟨_, _, _, Or.inl (he), by repeat first | exact trivial | refine And.intro ⟨rfl, rfl⟩ ?_, ?_⟩
          refine hK _ _ ?_
          clear hK K
          refine dw_cond (t := true) rfl ?_
          rw [if_pos rfl]
          refine dw_seq ?_
          refine dw_k [] TSQ_ok (by kernel_rfl) hnt (by kernel_rfl) (by simp; rfl) ?_
          intro K hK
          refine hK _ _ ?_
          clear hK K
          refine dw_ret ?_
          exact retv (N := 0) (.inr rfl) rfl (by repeat first | exact VLe.refl _ | exact VLe.nil _ | exact VLe.untag _ _ _ | refine VLe.ag ?_ | refine VLe.tu ?_ | refine VLeL.cons ?_ ?_ | exact VLeL.nil) (by repeat first | exact trivial | refine And.intro rfl ?_)
      · rw [List.take_of_length_le (by omega), List.take_of_length_le (by omega)] at hj
        rw [decide_eq_true hj]
        refine dw_seq ?_
        refine dw_k [(18, .v (.bool false))] TSQ_ok (by kernel_rfl) hnt (by kernel_rfl) (by simp; rfl) ?_
        intro K hK
        refine And.intro (by first | exact dfalse (by omega) | exact VLe.of_eq (by simp [*]; done) | exact dfalse (by first | omega | (simp only [List.length_append, List.length_take, List.length_cons, List.length_nil, eTms_len, eTys_len]; omega) | assumption | (simp_all; done)) | exact VLe.of_eq (by simp_all; done)) ?_
        refine hK _ _ ?_
        clear hK K
        refine dw_seq ?_
        refine dw_cond (t := false) rfl ?_
        rw [if_neg (by simp)]
        refine dw_exit ?_
        refine dw_seq ?_
        refine dw_k [] TSQ_ok (by kernel_rfl) hnt (by kernel_rfl) (by simp; rfl) ?_
        intro K hK
        refine hK _ _ ?_
        clear hK K
        refine dw_ret ?_
        exact retv (N := 0) (.inr rfl) rfl (by repeat first | exact VLe.refl _ | exact VLe.nil _ | exact VLe.untag _ _ _ | refine VLe.ag ?_ | refine VLe.tu ?_ | refine VLeL.cons ?_ ?_ | exact VLeL.nil) (by repeat first | exact trivial | refine And.intro rfl ?_)
  · have e : decide (l = r) = false := by rw [decide_eq_false_iff_not]; exact fun e => hlr (by rw [e])
    rw [e]
    refine call_of_dw 0 32 [ResultVar.tmp 6] TSQ_ok (by kernel_rfl) Tryz.func70 rfl Tryz.ntmps70 rfl (by simp) ?dwords ?dbody
    case dwords => simp [wordsOk, D.ok, D.oks, D.okss, rnames, inN, ckey, ePairs_ok]
    case dbody =>
      intro cx hnt hn0
      refine dw_seq ?_
      refine dw_k [] TSQ_ok (by kernel_rfl) hnt (by kernel_rfl) (by simp; rfl) ?_
      intro K hK
      refine hK _ _ ?_
      clear hK K
      refine dw_seq ?_
      refine dw_seq ?_
      refine dw_k [(11, .v (.int .i64 (↑l.length))), (13, .v (.int .i64 (↑r.length))), (14, .v (.bool true))] TSQ_ok (by kernel_rfl) hnt (by kernel_rfl) (by simp; rfl) ?_
      intro K hK
      refine And.intro (dintE (by rw [ePairs_len])) ?_
      refine And.intro (dintE (by rw [ePairs_len])) ?_
      refine And.intro (bneT (by omega)) ?_
      refine hK _ _ ?_
      clear hK K
      refine dw_cond (t := true) rfl ?_
      rw [if_pos rfl]
      refine dw_seq ?_
      refine dw_k [] TSQ_ok (by kernel_rfl) hnt (by kernel_rfl) (by simp; rfl) ?_
      intro K hK
      refine hK _ _ ?_
      clear hK K
      refine dw_ret ?_
      exact retv (N := 0) (.inr rfl) rfl (by repeat first | exact VLe.refl _ | exact VLe.nil _ | exact VLe.untag _ _ _ | refine VLe.ag ?_ | refine VLe.tu ?_ | refine VLeL.cons ?_ ?_ | exact VLeL.nil) (by repeat first | exact trivial | refine And.intro rfl ?_)
theorem sequal_d (l r : List (Int × Tm)) (hl : l.length ≤ 1000000) (hr : r.length ≤ 1000000) : PureC Tryz.prog 34 [.sl 5 (ePairs l) none, .sl 5 (ePairs r) none] (.v (.bool (decide (l = r)))) := by
  have he := eqPairs_d l r hl hr
  refine call_of_dw 0 8 [ResultVar.tmp 4] TSQ_ok (by kernel_rfl) Tryz.func34 rfl Tryz.ntmps34 rfl (by simp) ?dwords ?dbody
  case dwords => simp [wordsOk, D.ok, D.oks, D.okss, rnames, inN, ckey, ePairs_ok]
  case dbody =>
    intro cx hnt hn0
    refine dw_seq ?_
    refine dw_k [] TSQ_ok (by kernel_rfl) hnt (by kernel_rfl) (by simp; rfl) ?_
    intro K hK
    refine hK _ _ ?_
    clear hK K
    refine dw_seq ?_
    refine dw_k [] TSQ_ok (by kernel_rfl) hnt (by kernel_rfl) (by simp; rfl) ?_
    intro K hK
    refine ⟨_, _, _, Or.inl (he), by repeat first | exact trivial | refine And.intro ⟨rfl, rfl⟩ ?_, ?_⟩
    refine hK _ _ ?_
    clear hK K
    refine dw_ret ?_
    exact retv (N := 0) (.inr rfl) rfl (by repeat first | exact VLe.refl _ | exact VLe.nil _ | exact VLe.untag _ _ _ | refine VLe.ag ?_ | refine VLe.tu ?_ | refine VLeL.cons ?_ ?_ | exact VLeL.nil) (by repeat first | exact trivial | refine And.intro rfl ?_)
end Go.Proofs.YtiblklcfjakjmaaGreat

