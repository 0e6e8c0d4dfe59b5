/-
  Package slices' stable sort of pairs, walked in the deep way: the merge. Package slices' stable sort of pairs, walked in the deep way: the merge of many. Package slices' stable sort of pairs, walked in the deep way: the whole; subst.sorted, subst.Of. Package pattern, walked in the deep way: places, types. The laws' helpers of layers 8 and 9: Low, Of. Package pattern, walked in the deep way: turned, Take. Package pattern, walked in the deep way: Take. Package pattern, walked in the deep way: uses, Uses, Is. Places, uses and matching in plain Lean: the document's answer and the program's are one. Package subst's lists, walked in the deep way: Without, Set, Domain, Get. The document's places and uses, walked in the deep way: All, At, Has, Vars, Uses; loose indexes. The document's uses, and what is taken out, walked in the deep way. A loop over a function, whose round writes to what its own assignment laid. The reference's loose indexes, and terms that grow. The document's heads of a term. The document's Heads and Count. term.Count. slices.Sort and slices.Compact of ints of the call's own; what they hand back rises. A function that has run loops over functions leaves with a mark for each; rows of ints that grow within such rounds. term.Metas. How many types and terms: exactly what the reference counts. How many terms: exactly what the reference counts; the laws' Few. What the laws' Few tells of a term. The laws' Small (seats without Chk9).
-/
import Derived.Test.YtdmiekaeodcehaaRowLiftSubstsp5
import Derived.Test.YtdmiekaeodcehaaRowLiftSubstsp4
import Derived.Deep.QuietTactic
import Derived.BigQuiet
import Derived.WalkSmall
import Derived.Test.YtdmiekaeodcehaaRowLiftSubstsp1
import Derived.Lib.OwnBridge
import Derived.Sort.OwnSortedInts
import Derived.RangeFuncBox
set_option maxRecDepth 100000
set_option maxHeartbeats 1000000
set_option linter.unusedVariables false
set_option linter.unusedSimpArgs false
namespace Go.Proofs.Ytdmiekaeodcehaa
open Go.RowKit

theorem half_i (k : Nat) (h : k < 4611686018427387904) : IntKind.i64.wrap ((IntKind.u64.wrap (↑k : Int)).fdiv 2) = ((k / 2 : Nat) : Int) := by
  have e1 : IntKind.u64.wrap (↑k : Int) = ↑k := by
    simp only [IntKind.wrap, IntKind.bits, IntKind.signed]
    simp
    omega
  rw [e1, Int.fdiv_eq_ediv_of_nonneg _ (by omega), IntWalk.i64_in _ (by omega)]
  omega
namespace So
def ky (L : List (Int × Tm)) (i : Nat) : Int := ((L[i]?).map (·.1)).getD 0
theorem ky_at {L : List (Int × Tm)} {i : Nat} {x : Int × Tm} (h : L[i]? = some x) : ky L i = x.1 := by simp [ky, h]
theorem at_ex {α : Type} {L : List α} {n i : Nat} (hn : L.length = n) (hi : i < n) : ∃ x, L[i]? = some x := ⟨L[i]'(by omega), List.getElem?_eq_getElem (by omega)⟩
theorem left_one {x : Int × Tm} {Y1 Y2 : List (Int × Tm)} (hY : Srt (Y1 ++ Y2)) (h1 : ∀ y ∈ Y1, y.1 < x.1) (h2 : ∀ y ∈ Y2, x.1 ≤ y.1) : ss ([x] ++ (Y1 ++ Y2)) = Y1 ++ x :: Y2 := by
  have a := srt_app.1 hY
  have h := ss_cut (X1 := []) (X2 := [x]) (Y1 := Y1) (Y2 := Y2) (srt_one x) hY (fun _ h => by cases h) (fun y hy u hu => by rw [List.mem_singleton] at hu; subst hu; exact h1 y hy)
  rw [List.nil_append, List.nil_append, ss_self a.1, ss_self (l := [x] ++ Y2) (List.pairwise_cons.2 ⟨h2, a.2.1⟩)] at h
  exact h
theorem right_one {y : Int × Tm} {X1 X2 : List (Int × Tm)} (hX : Srt (X1 ++ X2)) (h1 : ∀ x ∈ X1, x.1 ≤ y.1) (h2 : ∀ x ∈ X2, y.1 < x.1) : ss (X1 ++ X2 ++ [y]) = X1 ++ y :: X2 := ss_snoc (ss_self hX).symm h1 h2
theorem sym_cut {A X Y Z L : List (Int × Tm)} {a m b mid s : Nat} (hX : Srt X) (hY : Srt Y) (hL : L = A ++ X ++ Y ++ Z) (ha : A.length = a) (hm : a + X.length = m) (hb : m + Y.length = b) (q1 : a ≤ s) (q2 : s ≤ m) (q3 : s ≤ mid) (q4 : mid + m ≤ s + b)
    (h1 : s = a ∨ mid + m = s + b ∨ ky L (s - 1) ≤ ky L (mid + m - s)) (h2 : s = mid ∨ s = m ∨ ky L (mid + m - 1 - s) < ky L s) :
    ∃ X1 X2 Y1 Y2, X = X1 ++ X2 ∧ Y = Y1 ++ Y2 ∧ a + X1.length = s ∧ s + Y1.length = mid ∧ (∀ x ∈ X1, ∀ y ∈ Y2, x.1 ≤ y.1) ∧ (∀ y ∈ Y1, ∀ x ∈ X2, y.1 < x.1) := by
  obtain ⟨X1, X2, rfl, hx⟩ : ∃ X1 X2, X = X1 ++ X2 ∧ a + X1.length = s := ⟨X.take (s - a), X.drop (s - a), (List.take_append_drop _ _).symm, by simp; omega⟩
  obtain ⟨Y1, Y2, rfl, hy⟩ : ∃ Y1 Y2, Y = Y1 ++ Y2 ∧ s + Y1.length = mid := ⟨Y.take (mid - s), Y.drop (mid - s), (List.take_append_drop _ _).symm, by simp; omega⟩
  rw [List.length_append] at hm hb
  have sx := srt_app.1 hX
  have sy := srt_app.1 hY
  refine ⟨X1, X2, Y1, Y2, rfl, rfl, hx, hy, fun x hxm y hym => ?_, fun y hym x hxm => ?_⟩
  · rcases snoc_cases X1 with rfl | ⟨U, u, rfl⟩
    · cases hxm
    cases Y2 with
    | nil => cases hym
    | cons v V =>
      simp at hx hm hb
      have e1 : L[s - 1]? = some u := at_ (P := A ++ U) (R := X2 ++ (Y1 ++ v :: V) ++ Z) (by rw [hL]; simp) (by simp; omega)
      have e2 : L[mid + m - s]? = some v := at_ (P := A ++ (U ++ [u] ++ X2) ++ Y1) (R := V ++ Z) (by rw [hL]; simp) (by simp; omega)
      rcases h1 with h1 | h1 | h1
      · omega
      · omega
      · rw [ky_at e1, ky_at e2] at h1
        have a1 : x.1 ≤ u.1 := by
          rcases List.mem_append.1 hxm with h | h
          · exact (srt_app.1 sx.1).2.2 x h u (by simp)
          · rw [List.mem_singleton] at h; rw [h]; exact Int.le_refl _
        have a2 : v.1 ≤ y.1 := by
          rcases List.mem_cons.1 hym with h | h
          · rw [h]; exact Int.le_refl _
          · exact (List.pairwise_cons.1 sy.2.1).1 y h
        omega
  · rcases snoc_cases Y1 with rfl | ⟨U, u, rfl⟩
    · cases hym
    cases X2 with
    | nil => cases hxm
    | cons v V =>
      simp at hy hm hb
      have e1 : L[mid + m - 1 - s]? = some u := at_ (P := A ++ (X1 ++ v :: V) ++ U) (R := Y2 ++ Z) (by rw [hL]; simp) (by simp; omega)
      have e2 : L[s]? = some v := at_ (P := A ++ X1) (R := V ++ (U ++ [u] ++ Y2) ++ Z) (by rw [hL]; simp) (by simp; omega)
      rcases h2 with h2 | h2 | h2
      · omega
      · omega
      · rw [ky_at e1, ky_at e2] at h2
        have a1 : y.1 ≤ u.1 := by
          rcases List.mem_append.1 hym with h | h
          · exact (srt_app.1 sy.1).2.2 y h u (by simp)
          · rw [List.mem_singleton] at h; rw [h]; exact Int.le_refl _
        have a2 : v.1 ≤ x.1 := by
          rcases List.mem_cons.1 hxm with h | h
          · rw [h]; exact Int.le_refl _
          · exact (List.pairwise_cons.1 sx.2.1).1 x h
        omega
end So
abbrev symIn (n a m b : Nat) : List D := [.ps 0 n, .v (.int .i64 ↑a), .v (.int .i64 ↑m), .v (.int .i64 ↑b), .fn 145 []]
abbrev symR (L : List (Int × Tm)) : List (Key × D) := [(.r 0, .rp 105 5 (ePairs L))]
theorem sym_left (A : List (Int × Tm)) (x : Int × Tm) (Y Z : List (Int × Tm)) (n a m b : Nat) (hn : (A ++ [x] ++ Y ++ Z).length = n) (ha : A.length = a) (hm : a + 1 = m) (hb : m + Y.length = b) (hY : So.Srt Y) (hM : n ≤ 1000000) :
  CallG Try.prog 207 (symIn n a m b) (symR (A ++ [x] ++ Y ++ Z)) (symR (A ++ So.ss ([x] ++ Y) ++ Z)) (.tu []) := by
 have hbn : b ≤ n := by simp at hn; omega
 obtain ⟨L, hL⟩ : ∃ L, A ++ [x] ++ Y ++ Z = L := ⟨_, rfl⟩
 rw [hL] at hn ⊢
 have hx : L[a]? = some x := at_ (P := A) (R := Y ++ Z) (by rw [← hL]; simp) ha
 have lx := pl_lt hn hx
 subst hb
 refine callG_of_dw 1 220 [] TSO_ok (by kernel_rfl) Try.func207 rfl Try.ntmps207 rfl (by simp) ?dwords ?dbody
 case dwords => simp [wordsG, rowN, rowsR, gkey, Key.eq, D.ok, D.oks, D.okss, rnames, inN, ckey, ePairs_ok]
 case dbody =>
  intro cx hnt hn0
  refine dw_seq ?_; refine dw_seq ?_; refine dwk [(27, .v (.int .i64 (↑1))), (28, .v (.bool true))] TSO_ok hnt fun K hK => ?_; refine And.intro auI ?_; refine And.intro (beqT rfl) ?_; refine hK _ _ ?_; clear hK K; refine dw_cond (t := true) rfl ?_; rw [if_pos rfl]; refine dw_seq ?_; refine dwk [] TSO_ok hnt fun K hK => ?_; refine hK _ _ ?_; clear hK K; refine dw_seq ?_; refine dwk [] TSO_ok hnt fun K hK => ?_
  refine hK _ _ ?_; clear hK K; refine dw_seq ?_; refine dw_block ?_
  refine dw_loop (ι := { p : List (Int × Tm) × List (Int × Tm) × List (Int × Tm) // p.1 ++ p.2.1 ++ p.2.2 = Y ∧ (∀ y ∈ p.1, y.1 < x.1) ∧ (∀ y ∈ p.2.2, x.1 ≤ y.1) }) (fun p => [(.t 0, .ps 0 n), (.t 1, .v (.int .i64 ↑a)), (.t 4, .fn 145 []), (.t 10, .v (.int .i64 ↑(m + p.1.1.length))), (.t 11, .v (.int .i64 ↑(m + p.1.1.length + p.1.2.1.length))), (.r 0, .rp 105 5 (ePairs L))]) 1 (fun p => p.1.2.1.length) (⟨([], Y, []), by simp, by simp, by simp⟩) ((VS.toK (by omega) (by repeat first | exact trivial | refine And.intro (And.intro (by first | rfl | simp [D.ok, D.oks, D.okss, D.okm, upto, keyOk, argsT]) (by first | exact Or.inl rfl | exact Or.inr ⟨_, rfl, (by repeat first | exact VLe.refl _ | exact VLe.nil _ | exact VLe.untag _ _ _ | refine VLe.ag ?_ | refine VLe.tu ?_ | refine VLeL.cons ?_ ?_ | exact VLeL.nil), trivial⟩ | simp [get, Key.eq, argsT])) ?_))) fun j => ?_
  obtain ⟨⟨Y1, Mi, Y2⟩, hs, h1, h2⟩ := j
  dsimp only at hs h1 h2 ⊢
  have hYl : Y1.length + Mi.length + Y2.length = Y.length := by rw [← hs]; simp; omega
  by_cases h0 : Mi.length = 0
  ·have : Mi = [] := List.length_eq_zero_iff.1 h0
   subst this
   rw [List.append_nil] at hs
   rw [List.length_nil, Nat.add_zero] at hYl ⊢
   refine dw_seq ?_; refine dw_seq ?_; refine dwk [(33, .v (.bool false))] TSO_ok hnt fun K hK => ?_; refine And.intro auF ?_; refine hK _ _ ?_; clear hK K; refine dw_cond (t := false) rfl ?_; rw [if_neg (by simp)]; refine dw_exit ?_; refine dw_seq ?_; refine dw_seq ?_; refine dwk [] TSO_ok hnt fun K hK => ?_; refine hK _ _ ?_; clear hK K; refine dw_block ?_
   refine dw_loop (ι := { p : List (Int × Tm) × List (Int × Tm) // p.1 ++ p.2 = Y1 }) (fun p => [(.t 0, .ps 0 n), (.t 10, .v (.int .i64 ↑(m + Y1.length))), (.t 13, .v (.int .i64 ↑(a + p.1.1.length))), (.r 0, .rp 105 5 (ePairs (A ++ p.1.1 ++ x :: p.1.2 ++ Y2 ++ Z)))]) 1 (fun p => p.1.2.length) (⟨([], Y1), rfl⟩) ((VS.toK (by omega) (by repeat first | exact trivial | refine And.intro (And.intro (by first | rfl | simp [D.ok, D.oks, D.okss, D.okm, upto, keyOk, ← hL, ← hs]) (by first | exact Or.inl rfl | exact Or.inr ⟨_, rfl, (by repeat first | exact VLe.refl _ | exact VLe.nil _ | exact VLe.untag _ _ _ | refine VLe.ag ?_ | refine VLe.tu ?_ | refine VLeL.cons ?_ ?_ | exact VLeL.nil), trivial⟩ | simp [get, Key.eq, ← hL, ← hs])) ?_))) fun j => ?_
   obtain ⟨⟨B1, B2⟩, hB⟩ := j
   dsimp only at hB ⊢
   have hBl : B1.length + B2.length = Y1.length := by rw [← hB]; simp
   cases B2 with
   | nil =>
    rw [List.length_nil] at hBl
    rw [List.append_nil] at hB
    have hf : So.ss ([x] ++ Y) = Y1 ++ x :: Y2 := by rw [← hs]; exact So.left_one (by rw [hs]; exact hY) h1 h2
    rw [hf]
    have e2 : A ++ B1 ++ [x] ++ Y2 ++ Z = A ++ (Y1 ++ x :: Y2) ++ Z := by rw [hB]; simp
    rw [e2]
    refine dw_seq ?_; refine dw_seq ?_; refine dwk [(57, .v (.int .i64 (↑(a + Y1.length)))), (58, .v (.bool false))] TSO_ok hnt fun K hK => ?_; refine And.intro auI ?_; refine And.intro auF ?_; refine hK _ _ ?_; clear hK K; refine dw_cond (t := false) rfl ?_; rw [if_neg (by simp)]; refine dw_exit ?_; refine dw_ret ?_
    exact reta rfl
   | cons y B2 =>
    rw [List.length_cons] at hBl
    obtain ⟨L2, hL2⟩ : ∃ L2, A ++ B1 ++ x :: (y :: B2) ++ Y2 ++ Z = L2 := ⟨_, rfl⟩
    rw [hL2]
    have hn2 : L2.length = n := by rw [← hL2, ← hn, ← hL, ← hs, ← hB]; simp; omega
    have gx : L2[a + B1.length]? = some x := at_ (P := A ++ B1) (R := y :: B2 ++ Y2 ++ Z) (by rw [← hL2]; simp) (by simp; omega)
    have gy : L2[a + B1.length + 1]? = some y := at_ (P := A ++ B1 ++ [x]) (R := B2 ++ Y2 ++ Z) (by rw [← hL2]; simp) (by simp; omega)
    have ly := pl_lt hn2 gy
    refine dw_seq ?_; refine dw_seq ?_; refine dwk [(57, .v (.int .i64 (↑(a + Y1.length)))), (58, .v (.bool true))] TSO_ok hnt fun K hK => ?_; refine And.intro auI ?_; refine And.intro auT ?_; refine hK _ _ ?_; clear hK K; refine dw_cond (t := true) rfl ?_; rw [if_pos rfl]; refine dw_skip ?_; refine dw_seq ?_; refine dw_block ?_; refine dwkD [(65, .v (.int .i64 (↑(a + B1.length + 1)))), (68, .v (.int .i64 (↑(a + B1.length + 1)))), (69, .pr 0 n 5 ((a + B1.length + 1)) 0), (70, .ag [.v (.int .i64 y.1), .sl 2 (eTys y.2.binds) none, .v (.int .i64 y.2.kind), .v (.int .i64 y.2.index), .sl 4 (eTms y.2.args) none]), (73, .pr 0 n 5 ((a + B1.length)) 0), (74, .ag [.v (.int .i64 x.1), .sl 2 (eTys x.2.binds) none, .v (.int .i64 x.2.kind), .v (.int .i64 x.2.index), .sl 4 (eTms x.2.args) none]), (75, .pr 0 n 5 ((a + B1.length)) 0), (76, .pr 0 n 5 ((a + B1.length + 1)) 0)] TSO_ok hnt fun K hK => ?_
    refine And.intro auI ?_; refine And.intro auI ?_; refine And.intro (by constructor <;> omega) ?_; refine And.intro (by first | rfl | exact VLe.of_eq (by simp)) ?_; refine And.intro (pl_ok hn2 gy) ?_; refine And.intro (pl_eq gy) ?_; refine And.intro (by constructor <;> omega) ?_; refine And.intro (by first | rfl | exact VLe.of_eq (by simp)) ?_; refine And.intro (pl_ok hn2 gx) ?_; refine And.intro (pl_eq gx) ?_
    refine And.intro (by constructor <;> omega) ?_; refine And.intro (by first | rfl | exact VLe.of_eq (by simp)) ?_; refine And.intro (st_ok hn2 gx) ?_; refine And.intro (by constructor <;> omega) ?_; refine And.intro (by first | rfl | exact VLe.of_eq (by simp)) ?_; refine And.intro (st_ok2 hn2 gy) ?_; refine hK _ _ (by kernel_rfl) ?_; clear hK K
    rw [eP_swap (P := A ++ B1) (Q := []) (R := B2 ++ Y2 ++ Z) (L' := A ++ (B1 ++ [y]) ++ x :: B2 ++ Y2 ++ Z) (by rw [← hL2]; simp) (by simp; omega) (by simp) (by simp)]
    refine dwk [(60, .v (.int .i64 (↑(a + (B1 ++ [y]).length))))] TSO_ok hnt fun K hK => ?_; refine And.intro (dintE (by rw [IntWalk.i64_in _ (by omega)]; simp; omega)) ?_; refine hK _ _ ?_; clear hK K
    refine ⟨⟨(B1 ++ [y], B2), by rw [← hB]; simp⟩, by simp, VS.toA⟩
  ·obtain ⟨M1, y, M2, rfl, hh⟩ : ∃ M1 y M2, Mi = M1 ++ y :: M2 ∧ m + Y1.length + M1.length = (m + Y1.length + (m + Y1.length + Mi.length)) / 2 := by
    have hlt : Mi.length / 2 < Mi.length := by omega
    refine ⟨Mi.take (Mi.length / 2), Mi[Mi.length / 2], Mi.drop (Mi.length / 2 + 1), ?_, ?_⟩
    ·rw [← List.drop_eq_getElem_cons hlt, List.take_append_drop]
    ·rw [List.length_take, Nat.min_eq_left (by omega)]; omega
   have hMl : (M1 ++ y :: M2).length = M1.length + M2.length + 1 := by simp; omega
   have hy : L[m + Y1.length + M1.length]? = some y := at_ (P := A ++ [x] ++ Y1 ++ M1) (R := M2 ++ Y2 ++ Z) (by rw [← hL, ← hs]; simp) (by simp; omega)
   have ho := sorder_d y x
   rw [ePair_eq, ePair_eq] at ho
   have hsrt := hY
   rw [← hs] at hsrt
   have a1 := (So.srt_app.1 (So.srt_app.1 hsrt).1).2.1
   have a2 := So.srt_app.1 a1
   obtain ⟨c, hc⟩ : ∃ c, m + Y1.length + (M1 ++ y :: M2).length = c := ⟨_, rfl⟩
   rw [hc] at hh ⊢
   by_cases hlt : y.1 < x.1
   ·skip
    refine dw_seq ?_; refine dw_seq ?_; refine dwk [(33, .v (.bool true))] TSO_ok hnt fun K hK => ?_; refine And.intro auT ?_; refine hK _ _ ?_; clear hK K; refine dw_cond (t := true) rfl ?_; rw [if_pos rfl]; refine dw_skip ?_; refine dw_block ?_; refine dw_seq ?_; refine dwk [(36, .v (.int .i64 (↑(m + Y1.length + c)))), (39, .v (.int .i64 (↑(m + Y1.length + M1.length))))] TSO_ok hnt fun K hK => ?_; refine And.intro auI ?_
    refine And.intro (dintE (by rw [hh]; exact half_i _ (by omega))) ?_; refine hK _ _ ?_; clear hK K; refine dw_seq ?_; refine dwkD [(43, .pr 0 n 5 ((m + Y1.length + M1.length)) 0), (44, .ag [.v (.int .i64 y.1), .sl 2 (eTys y.2.binds) none, .v (.int .i64 y.2.kind), .v (.int .i64 y.2.index), .sl 4 (eTms y.2.args) none]), (47, .pr 0 n 5 (a) 0), (48, .ag [.v (.int .i64 x.1), .sl 2 (eTys x.2.binds) none, .v (.int .i64 x.2.kind), .v (.int .i64 x.2.index), .sl 4 (eTms x.2.args) none]), (50, .v (.bool true))] TSO_ok hnt fun K hK => ?_
    refine And.intro (by constructor <;> omega) ?_; refine And.intro (by first | rfl | exact VLe.of_eq (by simp)) ?_; refine And.intro (pl_ok hn hy) ?_; refine And.intro (pl_eq hy) ?_; refine And.intro (by constructor <;> omega) ?_; refine And.intro (by first | rfl | exact VLe.of_eq (by simp)) ?_; refine And.intro (pl_ok hn hx) ?_; refine And.intro (pl_eq hx) ?_; refine dcl (ho) ?_; refine And.intro (dtrue (cmpI_lt.2 hlt)) ?_
    refine hK _ _ (by kernel_rfl) ?_; clear hK K; refine dw_cond (t := true) rfl ?_; rw [if_pos rfl]; refine dwk [(52, .v (.int .i64 (↑(m + (Y1 ++ (M1 ++ [y])).length))))] TSO_ok hnt fun K hK => ?_; refine And.intro (dintE (by rw [IntWalk.i64_in _ (by omega)]; simp; omega)) ?_; refine hK _ _ ?_; clear hK K
    have e3 : c = m + (Y1 ++ (M1 ++ [y])).length + M2.length := by rw [← hc]; simp; omega
    rw [e3]
    refine ⟨⟨(Y1 ++ (M1 ++ [y]), M2, Y2), by rw [← hs]; simp, fun u hu => ?g1, h2⟩, by simp; omega, VS.toA⟩
    case g1 =>
     rcases List.mem_append.1 hu with hu | hu
     ·exact h1 u hu
     ·rcases List.mem_append.1 hu with hu | hu
      ·have := a2.2.2 u hu y (by simp); omega
      ·rw [List.mem_singleton] at hu; subst hu; exact hlt
   ·skip
    refine dw_seq ?_; refine dw_seq ?_; refine dwk [(33, .v (.bool true))] TSO_ok hnt fun K hK => ?_; refine And.intro auT ?_; refine hK _ _ ?_; clear hK K; refine dw_cond (t := true) rfl ?_; rw [if_pos rfl]; refine dw_skip ?_; refine dw_block ?_; refine dw_seq ?_; refine dwk [(36, .v (.int .i64 (↑(m + Y1.length + c)))), (39, .v (.int .i64 (↑(m + Y1.length + M1.length))))] TSO_ok hnt fun K hK => ?_; refine And.intro auI ?_
    refine And.intro (dintE (by rw [hh]; exact half_i _ (by omega))) ?_; refine hK _ _ ?_; clear hK K; refine dw_seq ?_; refine dwkD [(43, .pr 0 n 5 ((m + Y1.length + M1.length)) 0), (44, .ag [.v (.int .i64 y.1), .sl 2 (eTys y.2.binds) none, .v (.int .i64 y.2.kind), .v (.int .i64 y.2.index), .sl 4 (eTms y.2.args) none]), (47, .pr 0 n 5 (a) 0), (48, .ag [.v (.int .i64 x.1), .sl 2 (eTys x.2.binds) none, .v (.int .i64 x.2.kind), .v (.int .i64 x.2.index), .sl 4 (eTms x.2.args) none]), (50, .v (.bool false))] TSO_ok hnt fun K hK => ?_
    refine And.intro (by constructor <;> omega) ?_; refine And.intro (by first | rfl | exact VLe.of_eq (by simp)) ?_; refine And.intro (pl_ok hn hy) ?_; refine And.intro (pl_eq hy) ?_; refine And.intro (by constructor <;> omega) ?_; refine And.intro (by first | rfl | exact VLe.of_eq (by simp)) ?_; refine And.intro (pl_ok hn hx) ?_; refine And.intro (pl_eq hx) ?_; refine dcl (ho) ?_; refine And.intro (dfalse (fun h => hlt (cmpI_lt.1 h))) ?_
    refine hK _ _ (by kernel_rfl) ?_; clear hK K; refine dw_cond (t := false) rfl ?_; rw [if_neg (by simp)]; refine dwk [] TSO_ok hnt fun K hK => ?_; refine hK _ _ ?_; clear hK K
    refine ⟨⟨(Y1, M1, y :: M2 ++ Y2), by rw [← hs]; simp, h1, fun u hu => ?g2⟩, by simp, VS.toA⟩
    case g2 =>
     rcases List.mem_append.1 hu with hu | hu
     ·rcases List.mem_cons.1 hu with rfl | hu
      ·omega
      ·have := (List.pairwise_cons.1 a2.2.1).1 u hu; omega
     ·exact h2 u hu
theorem sym_right (A : List (Int × Tm)) (X : List (Int × Tm)) (y : Int × Tm) (Z : List (Int × Tm)) (n a m b : Nat) (hn : (A ++ X ++ [y] ++ Z).length = n) (ha : A.length = a) (hm : a + X.length = m) (hb : m + 1 = b) (hX : So.Srt X) (h1X : X.length ≠ 1) (hM : n ≤ 1000000) :
  CallG Try.prog 207 (symIn n a m b) (symR (A ++ X ++ [y] ++ Z)) (symR (A ++ So.ss (X ++ [y]) ++ Z)) (.tu []) := by
 have hbn : b ≤ n := by simp at hn; omega
 obtain ⟨L, hL⟩ : ∃ L, A ++ X ++ [y] ++ Z = L := ⟨_, rfl⟩
 rw [hL] at hn ⊢
 have hy : L[m]? = some y := at_ (P := A ++ X) (R := Z) (by rw [← hL]; simp) (by simp; omega)
 have ly := pl_lt hn hy
 subst hm
 refine callG_of_dw 1 220 [] TSO_ok (by kernel_rfl) Try.func207 rfl Try.ntmps207 rfl (by simp) ?dwords ?dbody
 case dwords => simp [wordsG, rowN, rowsR, gkey, Key.eq, D.ok, D.oks, D.okss, rnames, inN, ckey, ePairs_ok]
 case dbody =>
  intro cx hnt hn0
  refine dw_seq ?_; refine dw_seq ?_; refine dwk [(27, .v (.int .i64 (↑X.length))), (28, .v (.bool false))] TSO_ok hnt fun K hK => ?_; refine And.intro auI ?_; refine And.intro (beqF (by omega)) ?_; refine hK _ _ ?_; clear hK K; refine dw_cond (t := false) rfl ?_; rw [if_neg (by simp)]; refine dw_skip ?_; refine dw_seq ?_; refine dw_seq ?_; refine dwk [(79, .v (.int .i64 (↑1))), (80, .v (.bool true))] TSO_ok hnt fun K hK => ?_
  refine And.intro auI ?_; refine And.intro (beqT rfl) ?_; refine hK _ _ ?_; clear hK K; refine dw_cond (t := true) rfl ?_; rw [if_pos rfl]; refine dw_seq ?_; refine dwk [] TSO_ok hnt fun K hK => ?_; refine hK _ _ ?_; clear hK K; refine dw_seq ?_; refine dwk [] TSO_ok hnt fun K hK => ?_; refine hK _ _ ?_; clear hK K; refine dw_seq ?_; refine dw_block ?_
  refine dw_loop (ι := { p : List (Int × Tm) × List (Int × Tm) × List (Int × Tm) // p.1 ++ p.2.1 ++ p.2.2 = X ∧ (∀ x ∈ p.1, x.1 ≤ y.1) ∧ (∀ x ∈ p.2.2, y.1 < x.1) }) (fun p => [(.t 0, .ps 0 n), (.t 2, .v (.int .i64 ↑(a + X.length))), (.t 4, .fn 145 []), (.t 14, .v (.int .i64 ↑(a + p.1.1.length))), (.t 15, .v (.int .i64 ↑(a + p.1.1.length + p.1.2.1.length))), (.r 0, .rp 105 5 (ePairs L))]) 1 (fun p => p.1.2.1.length) (⟨([], X, []), by simp, by simp, by simp⟩) ((VS.toK (by omega) (by repeat first | exact trivial | refine And.intro (And.intro (by first | rfl | simp [D.ok, D.oks, D.okss, D.okm, upto, keyOk, argsT]) (by first | exact Or.inl rfl | exact Or.inr ⟨_, rfl, (by repeat first | exact VLe.refl _ | exact VLe.nil _ | exact VLe.untag _ _ _ | refine VLe.ag ?_ | refine VLe.tu ?_ | refine VLeL.cons ?_ ?_ | exact VLeL.nil), trivial⟩ | simp [get, Key.eq, argsT])) ?_))) fun j => ?_
  obtain ⟨⟨X1, Mi, X2⟩, hs, h1, h2⟩ := j
  dsimp only at hs h1 h2 ⊢
  have hXl : X1.length + Mi.length + X2.length = X.length := by rw [← hs]; simp; omega
  by_cases h0 : Mi.length = 0
  ·have : Mi = [] := List.length_eq_zero_iff.1 h0
   subst this
   rw [List.append_nil] at hs
   rw [List.length_nil, Nat.add_zero] at hXl ⊢
   refine dw_seq ?_; refine dw_seq ?_; refine dwk [(85, .v (.bool false))] TSO_ok hnt fun K hK => ?_; refine And.intro auF ?_; refine hK _ _ ?_; clear hK K; refine dw_cond (t := false) rfl ?_; rw [if_neg (by simp)]; refine dw_exit ?_; refine dw_seq ?_; refine dw_seq ?_; refine dwk [(17, .v (.int .i64 ↑(a + X1.length + X2.length)))] TSO_ok hnt fun K hK => ?_; refine And.intro (VLe.of_eq (by rw [← hXl, Nat.add_assoc])) ?_
   refine hK _ _ ?_; clear hK K; refine dw_block ?_
   refine dw_loop (ι := { p : List (Int × Tm) × List (Int × Tm) // p.1 ++ p.2 = X2 }) (fun p => [(.t 0, .ps 0 n), (.t 14, .v (.int .i64 ↑(a + X1.length))), (.t 17, .v (.int .i64 ↑(a + X1.length + p.1.1.length))), (.r 0, .rp 105 5 (ePairs (A ++ X1 ++ p.1.1 ++ y :: p.1.2 ++ Z)))]) 1 (fun p => p.1.1.length) (⟨(X2, []), by simp⟩) ((VS.toK (by omega) (by repeat first | exact trivial | refine And.intro (And.intro (by first | rfl | simp [D.ok, D.oks, D.okss, D.okm, upto, keyOk, ← hL, ← hs]) (by first | exact Or.inl rfl | exact Or.inr ⟨_, rfl, (by repeat first | exact VLe.refl _ | exact VLe.nil _ | exact VLe.untag _ _ _ | refine VLe.ag ?_ | refine VLe.tu ?_ | refine VLeL.cons ?_ ?_ | exact VLeL.nil), trivial⟩ | simp [get, Key.eq, ← hL, ← hs])) ?_))) fun j => ?_
   obtain ⟨⟨B1, B2⟩, hB⟩ := j
   dsimp only at hB ⊢
   have hBl : B1.length + B2.length = X2.length := by rw [← hB]; simp
   rcases snoc_cases B1 with rfl | ⟨B, x, rfl⟩
   ·rw [List.nil_append] at hB
    have hf : So.ss (X ++ [y]) = X1 ++ y :: X2 := by rw [← hs]; exact So.right_one (by rw [hs]; exact hX) h1 h2
    rw [hf, List.append_nil]
    have e2 : A ++ X1 ++ y :: B2 ++ Z = A ++ (X1 ++ y :: X2) ++ Z := by rw [hB]; simp
    rw [e2, List.length_nil, Nat.add_zero]
    refine dw_seq ?_; refine dw_seq ?_; refine dwk [(110, .v (.bool false))] TSO_ok hnt fun K hK => ?_; refine And.intro auF ?_; refine hK _ _ ?_; clear hK K; refine dw_cond (t := false) rfl ?_; rw [if_neg (by simp)]; refine dw_exit ?_; refine dw_ret ?_
    exact reta rfl
   ·obtain ⟨k, hk⟩ : ∃ k, a + X1.length + B.length = k := ⟨_, rfl⟩
    have hk2 : a + X1.length + (B ++ [x]).length = k + 1 := by simp; omega
    rw [hk2]
    obtain ⟨L2, hL2⟩ : ∃ L2, A ++ X1 ++ (B ++ [x]) ++ y :: B2 ++ Z = L2 := ⟨_, rfl⟩
    rw [hL2]
    have hn2 : L2.length = n := by rw [← hL2, ← hn, ← hL, ← hs, ← hB]; simp; omega
    have gx : L2[k]? = some x := at_ (P := A ++ X1 ++ B) (R := y :: B2 ++ Z) (by rw [← hL2]; simp) (by simp; omega)
    have gy : L2[k + 1]? = some y := at_ (P := A ++ X1 ++ B ++ [x]) (R := B2 ++ Z) (by rw [← hL2]; simp) (by simp; omega)
    have ly2 := pl_lt hn2 gy
    refine dw_seq ?_; refine dw_seq ?_; refine dwk [(110, .v (.bool true))] TSO_ok hnt fun K hK => ?_; refine And.intro auT ?_; refine hK _ _ ?_; clear hK K; refine dw_cond (t := true) rfl ?_; rw [if_pos rfl]; refine dw_skip ?_; refine dw_seq ?_; refine dw_block ?_; refine dwkD [(117, .v (.int .i64 (↑k))), (120, .v (.int .i64 (↑k))), (121, .pr 0 n 5 (k) 0), (122, .ag [.v (.int .i64 x.1), .sl 2 (eTys x.2.binds) none, .v (.int .i64 x.2.kind), .v (.int .i64 x.2.index), .sl 4 (eTms x.2.args) none]), (125, .pr 0 n 5 ((k + 1)) 0), (126, .ag [.v (.int .i64 y.1), .sl 2 (eTys y.2.binds) none, .v (.int .i64 y.2.kind), .v (.int .i64 y.2.index), .sl 4 (eTms y.2.args) none]), (127, .pr 0 n 5 ((k + 1)) 0), (128, .pr 0 n 5 (k) 0)] TSO_ok hnt fun K hK => ?_
    refine And.intro auI ?_; refine And.intro auI ?_; refine And.intro (by constructor <;> omega) ?_; refine And.intro (by first | rfl | exact VLe.of_eq (by simp)) ?_; refine And.intro (pl_ok hn2 gx) ?_; refine And.intro (pl_eq gx) ?_; refine And.intro (by constructor <;> omega) ?_; refine And.intro (by first | rfl | exact VLe.of_eq (by simp)) ?_; refine And.intro (pl_ok hn2 gy) ?_; refine And.intro (pl_eq gy) ?_
    refine And.intro (by constructor <;> omega) ?_; refine And.intro (by first | rfl | exact VLe.of_eq (by simp)) ?_; refine And.intro (st_ok hn2 gy) ?_; refine And.intro (by constructor <;> omega) ?_; refine And.intro (by first | rfl | exact VLe.of_eq (by simp)) ?_; refine And.intro (st_ok2 hn2 gx) ?_; refine hK _ _ (by kernel_rfl) ?_; clear hK K
    rw [eP_swap' (P := A ++ X1 ++ B) (Q := []) (R := B2 ++ Z) (L' := A ++ X1 ++ B ++ y :: (x :: B2) ++ Z) (by rw [← hL2]; simp) (by simp; omega) (by simp) (by simp)]
    refine dwk [(112, .v (.int .i64 (↑k)))] TSO_ok hnt fun K hK => ?_; refine And.intro auI ?_; refine hK _ _ ?_; clear hK K
    rw [← hk]
    refine ⟨⟨(B, x :: B2), by rw [← hB]; simp⟩, by simp, VS.toA⟩
  ·obtain ⟨M1, x, M2, rfl, hh⟩ : ∃ M1 x M2, Mi = M1 ++ x :: M2 ∧ a + X1.length + M1.length = (a + X1.length + (a + X1.length + Mi.length)) / 2 := by
    have hlt : Mi.length / 2 < Mi.length := by omega
    refine ⟨Mi.take (Mi.length / 2), Mi[Mi.length / 2], Mi.drop (Mi.length / 2 + 1), ?_, ?_⟩
    ·rw [← List.drop_eq_getElem_cons hlt, List.take_append_drop]
    ·rw [List.length_take, Nat.min_eq_left (by omega)]; omega
   have hMl : (M1 ++ x :: M2).length = M1.length + M2.length + 1 := by simp; omega
   have hx : L[a + X1.length + M1.length]? = some x := at_ (P := A ++ X1 ++ M1) (R := M2 ++ X2 ++ [y] ++ Z) (by rw [← hL, ← hs]; simp) (by simp; omega)
   have ho := sorder_d y x
   rw [ePair_eq, ePair_eq] at ho
   have hsrt := hX
   rw [← hs] at hsrt
   have a1 := (So.srt_app.1 (So.srt_app.1 hsrt).1).2.1
   have a2 := So.srt_app.1 a1
   obtain ⟨c, hc⟩ : ∃ c, a + X1.length + (M1 ++ x :: M2).length = c := ⟨_, rfl⟩
   rw [hc] at hh ⊢
   by_cases hlt : y.1 < x.1
   ·skip
    refine dw_seq ?_; refine dw_seq ?_; refine dwk [(85, .v (.bool true))] TSO_ok hnt fun K hK => ?_; refine And.intro auT ?_; refine hK _ _ ?_; clear hK K; refine dw_cond (t := true) rfl ?_; rw [if_pos rfl]; refine dw_skip ?_; refine dw_block ?_; refine dw_seq ?_; refine dwk [(88, .v (.int .i64 (↑(a + X1.length + c)))), (91, .v (.int .i64 (↑(a + X1.length + M1.length))))] TSO_ok hnt fun K hK => ?_; refine And.intro auI ?_
    refine And.intro (dintE (by rw [hh]; exact half_i _ (by omega))) ?_; refine hK _ _ ?_; clear hK K; refine dw_seq ?_; refine dwkD [(95, .pr 0 n 5 ((a + X.length)) 0), (96, .ag [.v (.int .i64 y.1), .sl 2 (eTys y.2.binds) none, .v (.int .i64 y.2.kind), .v (.int .i64 y.2.index), .sl 4 (eTms y.2.args) none]), (99, .pr 0 n 5 ((a + X1.length + M1.length)) 0), (100, .ag [.v (.int .i64 x.1), .sl 2 (eTys x.2.binds) none, .v (.int .i64 x.2.kind), .v (.int .i64 x.2.index), .sl 4 (eTms x.2.args) none]), (102, .v (.bool true))] TSO_ok hnt fun K hK => ?_
    refine And.intro (by constructor <;> omega) ?_; refine And.intro (by first | rfl | exact VLe.of_eq (by simp)) ?_; refine And.intro (pl_ok hn hy) ?_; refine And.intro (pl_eq hy) ?_; refine And.intro (by constructor <;> omega) ?_; refine And.intro (by first | rfl | exact VLe.of_eq (by simp)) ?_; refine And.intro (pl_ok hn hx) ?_; refine And.intro (pl_eq hx) ?_; refine dcl (ho) ?_; refine And.intro (dtrue (cmpI_lt.2 hlt)) ?_
    refine hK _ _ (by kernel_rfl) ?_; clear hK K; refine dw_cond (t := false) rfl ?_; rw [if_neg (by simp)]; refine dwk [] TSO_ok hnt fun K hK => ?_; refine hK _ _ ?_; clear hK K
    refine ⟨⟨(X1, M1, x :: M2 ++ X2), by rw [← hs]; simp, h1, fun u hu => ?g2⟩, by simp, VS.toA⟩
    case g2 =>
     rcases List.mem_append.1 hu with hu | hu
     ·rcases List.mem_cons.1 hu with rfl | hu
      ·exact hlt
      ·have := (List.pairwise_cons.1 a2.2.1).1 u hu; omega
     ·exact h2 u hu
   ·skip
    refine dw_seq ?_; refine dw_seq ?_; refine dwk [(85, .v (.bool true))] TSO_ok hnt fun K hK => ?_; refine And.intro auT ?_; refine hK _ _ ?_; clear hK K; refine dw_cond (t := true) rfl ?_; rw [if_pos rfl]; refine dw_skip ?_; refine dw_block ?_; refine dw_seq ?_; refine dwk [(88, .v (.int .i64 (↑(a + X1.length + c)))), (91, .v (.int .i64 (↑(a + X1.length + M1.length))))] TSO_ok hnt fun K hK => ?_; refine And.intro auI ?_
    refine And.intro (dintE (by rw [hh]; exact half_i _ (by omega))) ?_; refine hK _ _ ?_; clear hK K; refine dw_seq ?_; refine dwkD [(95, .pr 0 n 5 ((a + X.length)) 0), (96, .ag [.v (.int .i64 y.1), .sl 2 (eTys y.2.binds) none, .v (.int .i64 y.2.kind), .v (.int .i64 y.2.index), .sl 4 (eTms y.2.args) none]), (99, .pr 0 n 5 ((a + X1.length + M1.length)) 0), (100, .ag [.v (.int .i64 x.1), .sl 2 (eTys x.2.binds) none, .v (.int .i64 x.2.kind), .v (.int .i64 x.2.index), .sl 4 (eTms x.2.args) none]), (102, .v (.bool false))] TSO_ok hnt fun K hK => ?_
    refine And.intro (by constructor <;> omega) ?_; refine And.intro (by first | rfl | exact VLe.of_eq (by simp)) ?_; refine And.intro (pl_ok hn hy) ?_; refine And.intro (pl_eq hy) ?_; refine And.intro (by constructor <;> omega) ?_; refine And.intro (by first | rfl | exact VLe.of_eq (by simp)) ?_; refine And.intro (pl_ok hn hx) ?_; refine And.intro (pl_eq hx) ?_; refine dcl (ho) ?_; refine And.intro (dfalse (fun h => hlt (cmpI_lt.1 h))) ?_
    refine hK _ _ (by kernel_rfl) ?_; clear hK K; refine dw_cond (t := true) rfl ?_; rw [if_pos rfl]; refine dwk [(105, .v (.int .i64 (↑(a + (X1 ++ (M1 ++ [x])).length))))] TSO_ok hnt fun K hK => ?_; refine And.intro (dintE (by rw [IntWalk.i64_in _ (by omega)]; simp; omega)) ?_; refine hK _ _ ?_; clear hK K
    have e3 : c = a + (X1 ++ (M1 ++ [x])).length + M2.length := by rw [← hc]; simp; omega
    rw [e3]
    refine ⟨⟨(X1 ++ (M1 ++ [x]), M2, X2), by rw [← hs]; simp, fun u hu => ?g1, h2⟩, by simp; omega, VS.toA⟩
    case g1 =>
     rcases List.mem_append.1 hu with hu | hu
     ·exact h1 u hu
     ·rcases List.mem_append.1 hu with hu | hu
      ·have := a2.2.2 u hu x (by simp); omega
      ·rw [List.mem_singleton] at hu; subst hu; omega
end Go.Proofs.Ytdmiekaeodcehaa

namespace Go.Proofs.Ytdmiekaeodcehaa
open Go.RowKit

def SymC (N : Nat) : Prop := ∀ (A X Y Z : List (Int × Tm)) (n a m b : Nat), X.length + Y.length ≤ N → (A ++ X ++ Y ++ Z).length = n → A.length = a → a + X.length = m → m + Y.length = b → 0 < X.length → 0 < Y.length → So.Srt X → So.Srt Y → n ≤ 1000000 →
  CallG Try.prog 207 (symIn n a m b) (symR (A ++ X ++ Y ++ Z)) (symR (A ++ So.ss (X ++ Y) ++ Z)) (.tu [])
set_option maxHeartbeats 4000000 in
theorem sym_step (N : Nat) (ih : ∀ k, k < N → SymC k) (A X Y Z : List (Int × Tm)) (n a m b : Nat) (hN : X.length + Y.length ≤ N) (hn : (A ++ X ++ Y ++ Z).length = n) (ha : A.length = a) (hm : a + X.length = m) (hb : m + Y.length = b) (hX2 : 2 ≤ X.length) (hY2 : 2 ≤ Y.length) (hX : So.Srt X) (hY : So.Srt Y) (hM : n ≤ 1000000) :
  CallG Try.prog 207 (symIn n a m b) (symR (A ++ X ++ Y ++ Z)) (symR (A ++ So.ss (X ++ Y) ++ Z)) (.tu []) := by
 have hbn : b + Z.length = n := by simp at hn; omega
 obtain ⟨L, hL⟩ : ∃ L, A ++ X ++ Y ++ Z = L := ⟨_, rfl⟩
 rw [hL] at hn ⊢
 obtain ⟨mid, hmid⟩ : ∃ mid, mid = (a + b) / 2 := ⟨_, rfl⟩
 obtain ⟨lo, hi, hlo⟩ : ∃ lo hi, (mid < m ∧ lo + b = mid + m ∧ hi = mid) ∨ (m ≤ mid ∧ lo = a ∧ hi = m) := by
  by_cases h : mid < m
  ·exact ⟨mid + m - b, mid, .inl ⟨h, by omega, rfl⟩⟩
  ·exact ⟨a, m, .inr ⟨by omega, rfl, rfl⟩⟩
 obtain ⟨q, hq⟩ : ∃ q, q + 1 = mid + m := ⟨mid + m - 1, by omega⟩
 refine callG_of_dw 1 220 [] TSO_ok (by kernel_rfl) Try.func207 rfl Try.ntmps207 rfl (by simp) ?dwords ?dbody
 case dwords => simp [wordsG, rowN, rowsR, gkey, Key.eq, D.ok, D.oks, D.okss, rnames, inN, ckey, ePairs_ok]
 case dbody =>
  intro cx hnt hn0
  refine dw_seq ?_; refine dw_seq ?_; refine dwk [(27, .v (.int .i64 (↑X.length))), (28, .v (.bool false))] TSO_ok hnt fun K hK => ?_; refine And.intro auI ?_; refine And.intro (beqF (by omega)) ?_; refine hK _ _ ?_; clear hK K; refine dw_cond (t := false) rfl ?_; rw [if_neg (by simp)]; refine dw_skip ?_; refine dw_seq ?_; refine dw_seq ?_; refine dwk [(79, .v (.int .i64 (↑Y.length))), (80, .v (.bool false))] TSO_ok hnt fun K hK => ?_
  refine And.intro auI ?_; refine And.intro (beqF (by omega)) ?_; refine hK _ _ ?_; clear hK K; refine dw_cond (t := false) rfl ?_; rw [if_neg (by simp)]; refine dw_skip ?_; refine dw_seq ?_; refine dwk [(131, .v (.int .i64 (↑(a + b)))), (134, .v (.int .i64 (↑mid)))] TSO_ok hnt fun K hK => ?_; refine And.intro auI ?_; refine And.intro (dintE (by rw [hmid]; exact half_i _ (by omega))) ?_; refine hK _ _ ?_; clear hK K
  refine dw_seq ?_; refine dwk [(137, .v (.int .i64 (↑(mid + m))))] TSO_ok hnt fun K hK => ?_; refine And.intro auI ?_; refine hK _ _ ?_; clear hK K; refine dw_seq ?_; refine dwk [] TSO_ok hnt fun K hK => ?_; refine hK _ _ ?_; clear hK K
  refine dw_cut (τ := [(.t 0, .ps 0 n), (.t 1, .v (.int .i64 ↑a)), (.t 2, .v (.int .i64 ↑m)), (.t 3, .v (.int .i64 ↑b)), (.t 4, .fn 145 []), (.t 18, .v (.int .i64 ↑mid)), (.t 19, .v (.int .i64 ↑(mid + m))), (.t 20, .v (.int .i64 ↑lo)), (.t 21, .v (.int .i64 ↑hi)), (.r 0, .rp 105 5 (ePairs L))]) (N1 := 1) ?_ ?_
  ·rcases hlo with ⟨g1, g2, g3⟩ | ⟨g1, g2, g3⟩
   ·rw [g3]
    refine dw_seq ?_; refine dwk [(140, .v (.bool true))] TSO_ok hnt fun K hK => ?_; refine And.intro auT ?_; refine hK _ _ ?_; clear hK K; refine dw_cond (t := true) rfl ?_; rw [if_pos rfl]; refine dw_seq ?_; refine dwk [(143, .v (.int .i64 (↑lo)))] TSO_ok hnt fun K hK => ?_; refine And.intro auI ?_; refine hK _ _ ?_; clear hK K; refine dwk [] TSO_ok hnt fun K hK => ?_; refine hK _ _ ?_; clear hK K
    exact cut_ok (VS.toK (by omega) (by repeat first | exact trivial | refine And.intro (And.intro (by first | rfl | simp [D.ok, D.oks, D.okss, D.okm, upto, keyOk, argsT]) (by first | exact Or.inl rfl | exact Or.inr ⟨_, rfl, (by repeat first | exact VLe.refl _ | exact VLe.nil _ | exact VLe.untag _ _ _ | refine VLe.ag ?_ | refine VLe.tu ?_ | refine VLeL.cons ?_ ?_ | exact VLeL.nil), trivial⟩ | simp [get, Key.eq, argsT])) ?_))
   ·rw [g2, g3]
    refine dw_seq ?_; refine dwk [(140, .v (.bool false))] TSO_ok hnt fun K hK => ?_; refine And.intro auF ?_; refine hK _ _ ?_; clear hK K; refine dw_cond (t := false) rfl ?_; rw [if_neg (by simp)]; refine dw_seq ?_; refine dwk [] TSO_ok hnt fun K hK => ?_; refine hK _ _ ?_; clear hK K; refine dwk [] TSO_ok hnt fun K hK => ?_; refine hK _ _ ?_; clear hK K
    exact cut_ok (VS.toK (by omega) (by repeat first | exact trivial | refine And.intro (And.intro (by first | rfl | simp [D.ok, D.oks, D.okss, D.okm, upto, keyOk, argsT]) (by first | exact Or.inl rfl | exact Or.inr ⟨_, rfl, (by repeat first | exact VLe.refl _ | exact VLe.nil _ | exact VLe.untag _ _ _ | refine VLe.ag ?_ | refine VLe.tu ?_ | refine VLeL.cons ?_ ?_ | exact VLeL.nil), trivial⟩ | simp [get, Key.eq, argsT])) ?_))
  ·skip
   refine dw_seq ?_; refine dwk [(148, .v (.int .i64 (↑q)))] TSO_ok hnt fun K hK => ?_; refine And.intro auI ?_; refine hK _ _ ?_; clear hK K; refine dw_seq ?_; refine dw_block ?_
   refine dw_loop (ι := { p : Nat × Nat // lo ≤ p.1 ∧ p.1 ≤ p.2 ∧ p.2 ≤ hi ∧ (p.1 = lo ∨ So.ky L (p.1 - 1) ≤ So.ky L (mid + m - p.1)) ∧ (p.2 = hi ∨ So.ky L (mid + m - 1 - p.2) < So.ky L p.2) }) (fun p => [(.t 0, .ps 0 n), (.t 1, .v (.int .i64 ↑a)), (.t 2, .v (.int .i64 ↑m)), (.t 3, .v (.int .i64 ↑b)), (.t 4, .fn 145 []), (.t 18, .v (.int .i64 ↑mid)), (.t 19, .v (.int .i64 ↑(mid + m))), (.t 20, .v (.int .i64 ↑p.1.1)), (.t 21, .v (.int .i64 ↑p.1.2)), (.t 22, .v (.int .i64 ↑q)), (.r 0, .rp 105 5 (ePairs L))]) 1 (fun p => p.1.2 - p.1.1) (⟨(lo, hi), Nat.le_refl _, by dsimp only; omega, Nat.le_refl _, .inl rfl, .inl rfl⟩) (VS.toA) fun j => ?_
   obtain ⟨⟨s, r⟩, k1, k2, k3, k4, k5⟩ := j
   dsimp only at k1 k2 k3 k4 k5 ⊢
   by_cases hsr : s < r
   ·obtain ⟨c, hc⟩ : ∃ c, c = (s + r) / 2 := ⟨_, rfl⟩
    have hcm : c < m := by omega
    obtain ⟨d, hd⟩ : ∃ d, d + c = q := ⟨q - c, by omega⟩
    obtain ⟨x, hx⟩ := So.at_ex hn (show c < n by omega)
    obtain ⟨y, hy⟩ := So.at_ex hn (show d < n by omega)
    have ex := So.ky_at hx
    have ey := So.ky_at hy
    have ho := sorder_d y x
    rw [ePair_eq, ePair_eq] at ho
    by_cases hlt : y.1 < x.1
    ·skip
     refine dw_seq ?_; refine dw_seq ?_; refine dwk [(151, .v (.bool true))] TSO_ok hnt fun K hK => ?_; refine And.intro auT ?_; refine hK _ _ ?_; clear hK K; refine dw_cond (t := true) rfl ?_; rw [if_pos rfl]; refine dw_skip ?_; refine dw_block ?_; refine dw_seq ?_; refine dwk [(154, .v (.int .i64 (↑(s + r)))), (157, .v (.int .i64 (↑c)))] TSO_ok hnt fun K hK => ?_; refine And.intro auI ?_; refine And.intro (dintE (by rw [hc]; exact half_i _ (by omega))) ?_
     refine hK _ _ ?_; clear hK K; refine dw_seq ?_; refine dwkD [(162, .v (.int .i64 (↑d))), (163, .pr 0 n 5 (d) 0), (164, .ag [.v (.int .i64 y.1), .sl 2 (eTys y.2.binds) none, .v (.int .i64 y.2.kind), .v (.int .i64 y.2.index), .sl 4 (eTms y.2.args) none]), (167, .pr 0 n 5 (c) 0), (168, .ag [.v (.int .i64 x.1), .sl 2 (eTys x.2.binds) none, .v (.int .i64 x.2.kind), .v (.int .i64 x.2.index), .sl 4 (eTms x.2.args) none]), (170, .v (.bool true))] TSO_ok hnt fun K hK => ?_
     refine And.intro auI ?_; refine And.intro (by constructor <;> omega) ?_; refine And.intro (by first | rfl | exact VLe.of_eq (by simp)) ?_; refine And.intro (pl_ok hn hy) ?_; refine And.intro (pl_eq hy) ?_; refine And.intro (by constructor <;> omega) ?_; refine And.intro (by first | rfl | exact VLe.of_eq (by simp)) ?_; refine And.intro (pl_ok hn hx) ?_; refine And.intro (pl_eq hx) ?_; refine dcl (ho) ?_
     refine And.intro (dtrue (cmpI_lt.2 hlt)) ?_; refine hK _ _ (by kernel_rfl) ?_; clear hK K; refine dw_cond (t := false) rfl ?_; rw [if_neg (by simp)]; refine dwk [] TSO_ok hnt fun K hK => ?_; refine hK _ _ ?_; clear hK K
     refine ⟨⟨(s, c), k1, by dsimp only; omega, by dsimp only; omega, k4, .inr (by dsimp only; rw [show mid + m - 1 - c = d by omega, ex, ey]; exact hlt)⟩, by first | omega | (dsimp only; omega), VS.toA⟩
    ·skip
     refine dw_seq ?_; refine dw_seq ?_; refine dwk [(151, .v (.bool true))] TSO_ok hnt fun K hK => ?_; refine And.intro auT ?_; refine hK _ _ ?_; clear hK K; refine dw_cond (t := true) rfl ?_; rw [if_pos rfl]; refine dw_skip ?_; refine dw_block ?_; refine dw_seq ?_; refine dwk [(154, .v (.int .i64 (↑(s + r)))), (157, .v (.int .i64 (↑c)))] TSO_ok hnt fun K hK => ?_; refine And.intro auI ?_; refine And.intro (dintE (by rw [hc]; exact half_i _ (by omega))) ?_
     refine hK _ _ ?_; clear hK K; refine dw_seq ?_; refine dwkD [(162, .v (.int .i64 (↑d))), (163, .pr 0 n 5 (d) 0), (164, .ag [.v (.int .i64 y.1), .sl 2 (eTys y.2.binds) none, .v (.int .i64 y.2.kind), .v (.int .i64 y.2.index), .sl 4 (eTms y.2.args) none]), (167, .pr 0 n 5 (c) 0), (168, .ag [.v (.int .i64 x.1), .sl 2 (eTys x.2.binds) none, .v (.int .i64 x.2.kind), .v (.int .i64 x.2.index), .sl 4 (eTms x.2.args) none]), (170, .v (.bool false))] TSO_ok hnt fun K hK => ?_
     refine And.intro auI ?_; refine And.intro (by constructor <;> omega) ?_; refine And.intro (by first | rfl | exact VLe.of_eq (by simp)) ?_; refine And.intro (pl_ok hn hy) ?_; refine And.intro (pl_eq hy) ?_; refine And.intro (by constructor <;> omega) ?_; refine And.intro (by first | rfl | exact VLe.of_eq (by simp)) ?_; refine And.intro (pl_ok hn hx) ?_; refine And.intro (pl_eq hx) ?_; refine dcl (ho) ?_
     refine And.intro (dfalse (fun h => hlt (cmpI_lt.1 h))) ?_; refine hK _ _ (by kernel_rfl) ?_; clear hK K; refine dw_cond (t := true) rfl ?_; rw [if_pos rfl]; refine dwk [(173, .v (.int .i64 (↑(c + 1))))] TSO_ok hnt fun K hK => ?_; refine And.intro auI ?_; refine hK _ _ ?_; clear hK K
     refine ⟨⟨(c + 1, r), by dsimp only; omega, by dsimp only; omega, k3, .inr (by dsimp only; rw [show c + 1 - 1 = c by omega, show mid + m - (c + 1) = d by omega, ex, ey]; omega), k5⟩, by first | omega | (dsimp only; omega), VS.toA⟩
   ·have hrs : r = s := by omega
    subst hrs
    obtain ⟨X1, X2, Y1, Y2, rfl, rfl, e1, e2, h1, h2⟩ := So.sym_cut (mid := mid) (s := r) hX hY hL.symm ha hm hb (by omega) (by omega) (by omega) (by omega) (by
      rcases k4 with k4 | k4
      ·omega
      ·exact .inr (.inr k4)) (by
      rcases k5 with k5 | k5
      ·omega
      ·exact .inr (.inr k5))
    rw [List.length_append] at hm hb hX2 hY2
    rw [List.length_append, List.length_append] at hN
    obtain ⟨e, he⟩ : ∃ e, e + r = mid + m := ⟨mid + m - r, by omega⟩
    have hcut := So.ss_cut hX hY h1 h2
    have sx := So.srt_app.1 hX
    have sy := So.srt_app.1 hY
    have hlen : A.length + X1.length + X2.length + Y1.length + Y2.length + Z.length = n := by omega
    rw [hcut]
    refine dw_seq ?_; refine dw_seq ?_; refine dwk [(151, .v (.bool false))] TSO_ok hnt fun K hK => ?_; refine And.intro auF ?_; refine hK _ _ ?_; clear hK K; refine dw_cond (t := false) rfl ?_; rw [if_neg (by simp)]; refine dw_exit ?_; refine dw_seq ?_; refine dwk [(177, .v (.int .i64 (↑e)))] TSO_ok hnt fun K hK => ?_; refine And.intro auI ?_; refine hK _ _ ?_; clear hK K
    refine dw_cut (τ := [(.t 0, .ps 0 n), (.t 1, .v (.int .i64 ↑a)), (.t 3, .v (.int .i64 ↑b)), (.t 4, .fn 145 []), (.t 18, .v (.int .i64 ↑mid)), (.t 20, .v (.int .i64 ↑r)), (.t 24, .v (.int .i64 ↑e)), (.r 0, .rp 105 5 (ePairs (A ++ X1 ++ Y1 ++ (X2 ++ (Y2 ++ Z)))))]) (N1 := 1) ?_ ?_
    ·by_cases c1 : r < m
     ·by_cases c2 : m < e
      ·have hrot := rotate_d (A ++ X1) X2 Y1 (Y2 ++ Z) n r m e (by simp; omega) (by simp; omega) (by omega) (by omega) (by omega) (by omega) hM
       have f1 : A ++ X1 ++ Y1 ++ X2 ++ (Y2 ++ Z) = A ++ X1 ++ Y1 ++ (X2 ++ (Y2 ++ Z)) := by simp
       have f2 : L = A ++ X1 ++ X2 ++ Y1 ++ (Y2 ++ Z) := by rw [← hL]; simp
       rw [f1] at hrot
       rw [f2]
       refine dw_seq ?_; refine dwk [(180, .v (.bool true)), (184, .v (.bool true))] TSO_ok hnt fun K hK => ?_; refine And.intro auT ?_; refine And.intro auT ?_; refine hK _ _ ?_; clear hK K; refine dw_cond (t := true) rfl ?_; rw [if_pos rfl]; refine dwk [] TSO_ok hnt fun K hK => ?_; refine dcn (CallG.n (hrot) _) ?_; refine hK _ _ ?_; clear hK K
       exact cut_ok VS.toA
      ·have : Y1 = [] := List.length_eq_zero_iff.1 (by omega)
       have f2 : L = A ++ X1 ++ Y1 ++ (X2 ++ (Y2 ++ Z)) := by rw [← hL, this]; simp
       rw [f2]
       refine dw_seq ?_; refine dwk [(180, .v (.bool true)), (184, .v (.bool false))] TSO_ok hnt fun K hK => ?_; refine And.intro auT ?_; refine And.intro auF ?_; refine hK _ _ ?_; clear hK K; refine dw_cond (t := false) rfl ?_; rw [if_neg (by simp)]; refine dw_skip ?_
       exact cut_ok VS.toA
     ·have : X2 = [] := List.length_eq_zero_iff.1 (by omega)
      have f2 : L = A ++ X1 ++ Y1 ++ (X2 ++ (Y2 ++ Z)) := by rw [← hL, this]; simp
      rw [f2]
      refine dw_seq ?_; refine dwk [(180, .v (.bool false))] TSO_ok hnt fun K hK => ?_; refine And.intro auF ?_; refine hK _ _ ?_; clear hK K; refine dw_cond (t := false) rfl ?_; rw [if_neg (by simp)]; refine dw_skip ?_
      exact cut_ok VS.toA
    ·skip
     refine dw_cut (τ := [(.t 0, .ps 0 n), (.t 3, .v (.int .i64 ↑b)), (.t 4, .fn 145 []), (.t 18, .v (.int .i64 ↑mid)), (.t 24, .v (.int .i64 ↑e)), (.r 0, .rp 105 5 (ePairs (A ++ So.ss (X1 ++ Y1) ++ X2 ++ Y2 ++ Z)))]) (N1 := 1) ?_ ?_
     ·have f1 : A ++ So.ss (X1 ++ Y1) ++ (X2 ++ (Y2 ++ Z)) = A ++ So.ss (X1 ++ Y1) ++ X2 ++ Y2 ++ Z := by simp
      by_cases c1 : a < r
      ·by_cases c2 : r < mid
       ·have hs := ih (X1.length + Y1.length) (by omega) A X1 Y1 (X2 ++ (Y2 ++ Z)) n a r mid (Nat.le_refl _) (by simp; omega) ha e1 e2 (by omega) (by omega) sx.1 sy.1 hM
        rw [f1] at hs
        refine dw_seq ?_; refine dwk [(194, .v (.bool true)), (198, .v (.bool true))] TSO_ok hnt fun K hK => ?_; refine And.intro auT ?_; refine And.intro auT ?_; refine hK _ _ ?_; clear hK K; refine dw_cond (t := true) rfl ?_; rw [if_pos rfl]; refine dwk [] TSO_ok hnt fun K hK => ?_; refine dcn (CallG.n (hs) _) ?_; refine hK _ _ ?_; clear hK K
        exact cut_ok VS.toA
       ·have hy0 : Y1 = [] := List.length_eq_zero_iff.1 (by omega)
        have hss : So.ss (X1 ++ Y1) = X1 ++ Y1 := So.ss_self (by rw [hy0, List.append_nil]; exact sx.1)
        rw [← f1, hss, ← List.append_assoc A X1 Y1]
        refine dw_seq ?_; refine dwk [(194, .v (.bool true)), (198, .v (.bool false))] TSO_ok hnt fun K hK => ?_; refine And.intro auT ?_; refine And.intro auF ?_; refine hK _ _ ?_; clear hK K; refine dw_cond (t := false) rfl ?_; rw [if_neg (by simp)]; refine dw_skip ?_
        exact cut_ok VS.toA
      ·have hx0 : X1 = [] := List.length_eq_zero_iff.1 (by omega)
       have hss : So.ss (X1 ++ Y1) = X1 ++ Y1 := So.ss_self (by rw [hx0, List.nil_append]; exact sy.1)
       rw [← f1, hss, ← List.append_assoc A X1 Y1]
       refine dw_seq ?_; refine dwk [(194, .v (.bool false))] TSO_ok hnt fun K hK => ?_; refine And.intro auF ?_; refine hK _ _ ?_; clear hK K; refine dw_cond (t := false) rfl ?_; rw [if_neg (by simp)]; refine dw_skip ?_
       exact cut_ok VS.toA
     ·have f3 : A ++ (So.ss (X1 ++ Y1) ++ So.ss (X2 ++ Y2)) ++ Z = A ++ So.ss (X1 ++ Y1) ++ So.ss (X2 ++ Y2) ++ Z := by simp
      rw [f3]
      by_cases c1 : mid < e
      ·by_cases c2 : e < b
       ·have hs := ih (X2.length + Y2.length) (by omega) (A ++ So.ss (X1 ++ Y1)) X2 Y2 Z n mid e b (Nat.le_refl _) (by simp [So.ss_len]; omega) (by simp [So.ss_len]; omega) (by omega) (by omega) (by omega) (by omega) sx.2.1 sy.2.1 hM
        refine dw_seq ?_; refine dwk [(208, .v (.bool true)), (212, .v (.bool true))] TSO_ok hnt fun K hK => ?_; refine And.intro auT ?_; refine And.intro auT ?_; refine hK _ _ ?_; clear hK K; refine dw_cond (t := true) rfl ?_; rw [if_pos rfl]; refine dwk [] TSO_ok hnt fun K hK => ?_; refine dcn (CallG.n (hs) _) ?_; refine hK _ _ ?_; clear hK K
        exact reta rfl
       ·have hy0 : Y2 = [] := List.length_eq_zero_iff.1 (by omega)
        have hss : So.ss (X2 ++ Y2) = X2 ++ Y2 := So.ss_self (by rw [hy0, List.append_nil]; exact sx.2.1)
        rw [hss, ← List.append_assoc _ X2 Y2]
        refine dw_seq ?_; refine dwk [(208, .v (.bool true)), (212, .v (.bool false))] TSO_ok hnt fun K hK => ?_; refine And.intro auT ?_; refine And.intro auF ?_; refine hK _ _ ?_; clear hK K; refine dw_cond (t := false) rfl ?_; rw [if_neg (by simp)]; refine dw_skip ?_
        exact reta rfl
      ·have hx0 : X2 = [] := List.length_eq_zero_iff.1 (by omega)
       have hss : So.ss (X2 ++ Y2) = X2 ++ Y2 := So.ss_self (by rw [hx0, List.nil_append]; exact sy.2.1)
       rw [hss, ← List.append_assoc _ X2 Y2]
       refine dw_seq ?_; refine dwk [(208, .v (.bool false))] TSO_ok hnt fun K hK => ?_; refine And.intro auF ?_; refine hK _ _ ?_; clear hK K; refine dw_cond (t := false) rfl ?_; rw [if_neg (by simp)]; refine dw_skip ?_
       exact reta rfl
theorem sym_all (N : Nat) : SymC N := by
  induction N using Nat.strongRecOn with
  | ind N ih =>
    intro A X Y Z n a m b hN hn ha hm hb h1 h2 hX hY hM
    by_cases c1 : X.length = 1
    · obtain ⟨x, rfl⟩ := List.length_eq_one_iff.1 c1
      exact sym_left A x Y Z n a m b hn ha (by simpa using hm) hb hY hM
    · by_cases c2 : Y.length = 1
      · obtain ⟨y, rfl⟩ := List.length_eq_one_iff.1 c2
        exact sym_right A X y Z n a m b hn ha hm (by simpa using hb) hX c1 hM
      · exact sym_step N ih A X Y Z n a m b hN hn ha hm hb (by omega) (by omega) hX hY hM
theorem symM_d (A X Y Z : List (Int × Tm)) (n a m b : Nat) (hn : (A ++ X ++ Y ++ Z).length = n) (ha : A.length = a) (hm : a + X.length = m) (hb : m + Y.length = b) (h1 : 0 < X.length) (h2 : 0 < Y.length) (hX : So.Srt X) (hY : So.Srt Y) (hM : n ≤ 1000000) :
    CallG Try.prog 207 (symIn n a m b) (symR (A ++ X ++ Y ++ Z)) (symR (A ++ So.ss (X ++ Y) ++ Z)) (.tu []) := sym_all _ A X Y Z n a m b (Nat.le_refl _) hn ha hm hb h1 h2 hX hY hM
end Go.Proofs.Ytdmiekaeodcehaa

namespace Go.Proofs.Ytdmiekaeodcehaa
open Go.RowKit
def TSP_105 : TI := ⟨5, true, [Value.int IntKind.i64 0, Value.slice none 0 0, Value.int IntKind.i64 0, Value.int IntKind.i64 0, Value.slice none 0 0], [(0, 1, false), (1, 4, true)], none, 72, 6, none, false⟩
theorem TSP_105_ok : TypOk Try.prog 105 TSP_105 := ⟨by kernel_rfl, by kernel_rfl, by kernel_rfl, by kernel_rfl, by kernel_rfl⟩
def TSP_53 : TI := ⟨1, false, [Value.slice none 0 0], [], some 105, 24, 5, none, false⟩
theorem TSP_53_ok : TypOk Try.prog 53 TSP_53 := ⟨by kernel_rfl, by kernel_rfl, by kernel_rfl, by kernel_rfl, by kernel_rfl⟩
def TSP_52 : TI := ⟨1, false, [Value.slice none 0 0], [], some 105, 24, 5, none, false⟩
theorem TSP_52_ok : TypOk Try.prog 52 TSP_52 := ⟨by kernel_rfl, by kernel_rfl, by kernel_rfl, by kernel_rfl, by kernel_rfl⟩
def TSP_3 : TI := ⟨1, false, [Value.int IntKind.i64 0], [], none, 8, 2, none, false⟩
theorem TSP_3_ok : TypOk Try.prog 3 TSP_3 := ⟨by kernel_rfl, by kernel_rfl, by kernel_rfl, by kernel_rfl, by kernel_rfl⟩
def TSP_34 : TI := ⟨4, true, [Value.slice none 0 0, Value.int IntKind.i64 0, Value.int IntKind.i64 0, Value.slice none 0 0], [(0, 1, false), (1, 2, true), (3, 1, false)], none, 64, 6, none, false⟩
theorem TSP_34_ok : TypOk Try.prog 34 TSP_34 := ⟨by kernel_rfl, by kernel_rfl, by kernel_rfl, by kernel_rfl, by kernel_rfl⟩
def TSP_232 : TI := ⟨1, false, [Value.nilFunc], [], none, 8, 8, none, false⟩
theorem TSP_232_ok : TypOk Try.prog 232 TSP_232 := ⟨by kernel_rfl, by kernel_rfl, by kernel_rfl, by kernel_rfl, by kernel_rfl⟩
def TSP : List (Nat × TI) := [(105, TSP_105), (53, TSP_53), (52, TSP_52), (3, TSP_3), (34, TSP_34), (232, TSP_232)]
theorem TSP_ok : TabOk Try.prog TSP := (((((((TabOk.nil _).cons TSP_232_ok).cons TSP_34_ok).cons TSP_3_ok).cons TSP_52_ok).cons TSP_53_ok).cons TSP_105_ok)

namespace So
theorem Ch.two {α : Type} {s : Nat} {Q : List (Int × α)} (h : Ch s Q) (hl : 2 * s ≤ Q.length) (hs : 0 < s) : ∃ c d l, Q = c ++ d ++ l ∧ c.length = s ∧ d.length = s ∧ Srt c ∧ Srt d ∧ Ch s l := by
  obtain ⟨c, l, rfl, hc, hsc, hch⟩ := h.more (by omega)
  rw [List.length_append] at hl
  by_cases h1 : s < l.length
  · obtain ⟨d, l2, rfl, hd, hsd, hch2⟩ := hch.more h1
    exact ⟨c, d, l2, by rw [List.append_assoc], hc, hd, hsc, hsd, hch2⟩
  · exact ⟨c, l, [], by simp, hc, by omega, hsc, hch.one (by omega) hs, .last [] (by simp) srt_nil⟩
end So
set_option maxHeartbeats 4000000 in
theorem stableC_d (l : List (Int × Tm)) (n : Nat) (hn : l.length = n) (hM : n ≤ 1000000) :
  CallG Try.prog 196 [.ps 0 n, .v (.int .i64 ↑n), .fn 145 []] (symR l) (symR (So.ss l)) (.tu []) := by
 refine callG_of_dw 1 63 [] TSO_ok (by kernel_rfl) Try.func196 rfl Try.ntmps196 rfl (by simp) ?dwords ?dbody
 case dwords => simp [wordsG, rowN, rowsR, gkey, Key.eq, D.ok, D.oks, D.okss, rnames, inN, ckey, ePairs_ok]
 case dbody =>
  intro cx hnt hn0
  refine dw_seq ?_; refine dwk [] TSO_ok hnt fun K hK => ?_; refine hK _ _ ?_; clear hK K; refine dw_seq ?_; refine dwk [] TSO_ok hnt fun K hK => ?_; refine hK _ _ ?_; clear hK K; refine dw_seq ?_; refine dw_block ?_
  refine dw_loop (ι := { p : List (Int × Tm) × List (Int × Tm) // So.Fu 20 p.1 ∧ So.Same (p.1 ++ p.2) l ∧ p.1.length + p.2.length = n }) (fun p => [(.t 0, .ps 0 n), (.t 1, .v (.int .i64 ↑n)), (.t 2, .fn 145 []), (.t 6, .v (.int .i64 20)), (.t 7, .v (.int .i64 ↑p.1.1.length)), (.t 8, .v (.int .i64 ↑(p.1.1.length + 20))), (.r 0, .rp 105 5 (ePairs (p.1.1 ++ p.1.2)))]) 1 (fun p => p.1.2.length) (⟨([], l), .nil, So.Same.refl _, by simpa using hn⟩) ((VS.toK (by omega) (by repeat first | exact trivial | refine And.intro (And.intro (by first | rfl | simp [D.ok, D.oks, D.okss, D.okm, upto, keyOk, argsT]) (by first | exact Or.inl rfl | exact Or.inr ⟨_, rfl, (by repeat first | exact VLe.refl _ | exact VLe.nil _ | exact VLe.untag _ _ _ | refine VLe.ag ?_ | refine VLe.tu ?_ | refine VLeL.cons ?_ ?_ | exact VLeL.nil), trivial⟩ | simp [get, Key.eq, argsT])) ?_))) fun j => ?_
  obtain ⟨⟨P, Q⟩, hF, hS, hl⟩ := j
  dsimp only at hF hS hl ⊢
  by_cases hb : P.length + 20 ≤ n
  ·obtain ⟨Q1, Q2, rfl, h20⟩ : ∃ Q1 Q2, Q = Q1 ++ Q2 ∧ Q1.length = 20 := ⟨Q.take 20, Q.drop 20, (List.take_append_drop _ _).symm, by simp; omega⟩
   rw [List.length_append] at hl
   have hins := insSort_d P Q1 Q2 n P.length (P.length + 20) (by simp; omega) rfl (by omega) hM
   rw [← List.append_assoc]
   refine dw_seq ?_; refine dw_seq ?_; refine dwk [(13, .v (.bool true))] TSO_ok hnt fun K hK => ?_; refine And.intro auT ?_; refine hK _ _ ?_; clear hK K; refine dw_cond (t := true) rfl ?_; rw [if_pos rfl]; refine dw_skip ?_; refine dw_block ?_; refine dw_seq ?_; refine dwk [] TSO_ok hnt fun K hK => ?_; refine dcn (CallG.n (hins) _) ?_; refine hK _ _ ?_; clear hK K; refine dw_seq ?_; refine dwk [(7, .v (.int .i64 ↑(P ++ So.ss Q1).length))] TSO_ok hnt fun K hK => ?_
   refine And.intro (VLe.of_eq (by rw [List.length_append, So.ss_len, h20])) ?_; refine hK _ _ ?_; clear hK K; refine dwk [(22, .v (.int .i64 (↑((P ++ So.ss Q1).length + 20))))] TSO_ok hnt fun K hK => ?_; refine And.intro (dintE (by rw [IntWalk.i64_in _ (by omega)]; simp [So.ss_len]; omega)) ?_; refine hK _ _ ?_; clear hK K
   refine ⟨⟨(P ++ So.ss Q1, Q2), hF.snoc (by rw [So.ss_len, h20]) (So.ss_srt _), So.Same.trans (by simpa using ((So.Same.refl P).app ((So.ss_same Q1).app (So.Same.refl Q2)))) (by simpa using hS), by simp [So.ss_len]; omega⟩, by simp; omega, VS.toA⟩
  ·have hins := insSort_d P Q [] n P.length n (by simp; omega) rfl hl hM
   rw [List.append_nil, List.append_nil] at hins
   refine dw_seq ?_; refine dw_seq ?_; refine dwk [(13, .v (.bool false))] TSO_ok hnt fun K hK => ?_; refine And.intro auF ?_; refine hK _ _ ?_; clear hK K; refine dw_cond (t := false) rfl ?_; rw [if_neg (by simp)]; refine dw_exit ?_; refine dw_seq ?_; refine dwk [] TSO_ok hnt fun K hK => ?_; refine dcn (CallG.n (hins) _) ?_; refine hK _ _ ?_; clear hK K; refine dw_block ?_
   refine dw_loop (ι := { p : Nat × List (Int × Tm) // 0 < p.1 ∧ p.1 ≤ 20 + 2 * n ∧ So.Ch p.1 p.2 ∧ So.Same p.2 l ∧ p.2.length = n }) (fun p => [(.t 0, .ps 0 n), (.t 1, .v (.int .i64 ↑n)), (.t 2, .fn 145 []), (.t 6, .v (.int .i64 ↑p.1.1)), (.r 0, .rp 105 5 (ePairs p.1.2))]) 1 (fun p => n - p.1.1) (⟨(20, P ++ So.ss Q), by dsimp only; omega, by dsimp only; omega, hF.ch (.last _ (by rw [So.ss_len]; omega) (So.ss_srt _)), ((So.Same.refl P).app (So.ss_same Q)).trans hS, by simp [So.ss_len]; omega⟩) (VS.toA) fun j => ?_
   clear hins hF hS hl hb P Q
   obtain ⟨⟨s, L⟩, h0, hbd, hC, hS, hl⟩ := j
   dsimp only at h0 hbd hC hS hl ⊢
   by_cases hsn : s < n
   ·skip
    refine dw_seq ?_; refine dw_seq ?_; refine dwk [(30, .v (.bool true))] TSO_ok hnt fun K hK => ?_; refine And.intro auT ?_; refine hK _ _ ?_; clear hK K; refine dw_cond (t := true) rfl ?_; rw [if_pos rfl]; refine dw_skip ?_; refine dw_block ?_; refine dw_seq ?_; refine dwk [(32, .v (.int .i64 (↑(2 * s)))), (8, .v (.int .i64 ↑(0 + 2 * s)))] TSO_ok hnt fun K hK => ?_; refine And.intro auI ?_; refine And.intro (VLe.of_eq (by rw [Nat.zero_add])) ?_
    refine hK _ _ ?_; clear hK K; refine dw_seq ?_; refine dw_block ?_
    refine dw_loop (ι := { p : List (Int × Tm) × List (Int × Tm) // So.Fu (2 * s) p.1 ∧ So.Ch s p.2 ∧ So.Same (p.1 ++ p.2) l ∧ p.1.length + p.2.length = n }) (fun p => [(.t 0, .ps 0 n), (.t 1, .v (.int .i64 ↑n)), (.t 2, .fn 145 []), (.t 6, .v (.int .i64 ↑s)), (.t 7, .v (.int .i64 ↑p.1.1.length)), (.t 8, .v (.int .i64 ↑(p.1.1.length + 2 * s))), (.r 0, .rp 105 5 (ePairs (p.1.1 ++ p.1.2)))]) 1 (fun p => p.1.2.length) (⟨([], L), .nil, hC, hS, by simpa using hl⟩) ((VS.toK (by omega) (by repeat first | exact trivial | refine And.intro (And.intro (by first | rfl | simp [D.ok, D.oks, D.okss, D.okm, upto, keyOk, Nat.zero_add]) (by first | exact Or.inl rfl | exact Or.inr ⟨_, rfl, (by repeat first | exact VLe.refl _ | exact VLe.nil _ | exact VLe.untag _ _ _ | refine VLe.ag ?_ | refine VLe.tu ?_ | refine VLeL.cons ?_ ?_ | exact VLeL.nil), trivial⟩ | simp [get, Key.eq, Nat.zero_add])) ?_))) fun j => ?_
    clear hC hS hl L
    obtain ⟨⟨P, Q⟩, hF, hC, hS, hl⟩ := j
    dsimp only at hF hC hS hl ⊢
    by_cases hb : P.length + 2 * s ≤ n
    ·obtain ⟨c, d, Q2, rfl, hc, hd, sc, sd, hC2⟩ := hC.two (by omega) h0
     rw [List.length_append, List.length_append] at hl
     have hm := symM_d P c d Q2 n P.length (P.length + s) (P.length + 2 * s) (by simp; omega) rfl (by omega) (by omega) (by omega) (by omega) sc sd hM
     have e1 : P ++ (c ++ d ++ Q2) = P ++ c ++ d ++ Q2 := by simp
     rw [e1]
     refine dw_seq ?_; refine dw_seq ?_; refine dwk [(35, .v (.bool true))] TSO_ok hnt fun K hK => ?_; refine And.intro auT ?_; refine hK _ _ ?_; clear hK K; refine dw_cond (t := true) rfl ?_; rw [if_pos rfl]; refine dw_skip ?_; refine dw_block ?_; refine dw_seq ?_; refine dwk [(40, .v (.int .i64 (↑(P.length + s))))] TSO_ok hnt fun K hK => ?_; refine And.intro auI ?_; refine dcn (CallG.n (hm) _) ?_; refine hK _ _ ?_; clear hK K
     refine dw_seq ?_; refine dwk [(7, .v (.int .i64 ↑(P ++ So.ss (c ++ d)).length))] TSO_ok hnt fun K hK => ?_; refine And.intro (VLe.of_eq (by rw [List.length_append, So.ss_len, List.length_append, hc, hd, Nat.two_mul])) ?_; refine hK _ _ ?_; clear hK K; refine dwk [(47, .v (.int .i64 (↑(2 * s)))), (48, .v (.int .i64 (↑((P ++ So.ss (c ++ d)).length + 2 * s))))] TSO_ok hnt fun K hK => ?_; refine And.intro auI ?_
     refine And.intro (dintE (by rw [IntWalk.i64_in _ (by omega)]; simp [So.ss_len]; omega)) ?_; refine hK _ _ ?_; clear hK K
     refine ⟨⟨(P ++ So.ss (c ++ d), Q2), hF.snoc (by rw [So.ss_len, List.length_append]; omega) (So.ss_srt _), hC2, So.Same.trans (by simpa using ((So.Same.refl P).app ((So.ss_same (c ++ d)).app (So.Same.refl Q2)))) (by simpa using hS), by simp [So.ss_len]; omega⟩, by simp; omega, VS.toA⟩
    ·by_cases hq : s < Q.length
     ·obtain ⟨c, d, rfl, hc, sc, hC2⟩ := hC.more hq
      rw [List.length_append] at hl hq
      have sd := hC2.one (by omega) h0
      have hm := symM_d P c d [] n P.length (P.length + s) n (by simp; omega) rfl (by omega) (by omega) (by omega) (by omega) sc sd hM
      have e1 : P ++ (c ++ d) = P ++ c ++ d := by simp
      rw [List.append_nil, List.append_nil] at hm
      rw [e1]
      refine dw_seq ?_; refine dw_seq ?_; refine dwk [(35, .v (.bool false))] TSO_ok hnt fun K hK => ?_; refine And.intro auF ?_; refine hK _ _ ?_; clear hK K; refine dw_cond (t := false) rfl ?_; rw [if_neg (by simp)]; refine dw_exit ?_; refine dw_seq ?_; refine dw_seq ?_; refine dwk [(51, .v (.int .i64 (↑(P.length + s))))] TSO_ok hnt fun K hK => ?_; refine And.intro auI ?_; refine hK _ _ ?_; clear hK K
      refine dw_seq ?_; refine dwk [(54, .v (.bool true))] TSO_ok hnt fun K hK => ?_; refine And.intro auT ?_; refine hK _ _ ?_; clear hK K; refine dw_cond (t := true) rfl ?_; rw [if_pos rfl]; refine dwk [] TSO_ok hnt fun K hK => ?_; refine dcn (CallG.n (hm) _) ?_; refine hK _ _ ?_; clear hK K; refine dwk [(62, .v (.int .i64 (↑(2 * s))))] TSO_ok hnt fun K hK => ?_; refine And.intro auI ?_; refine hK _ _ ?_; clear hK K
      refine ⟨⟨(2 * s, P ++ So.ss (c ++ d)), by dsimp only; omega, by dsimp only; omega, hF.ch (.last _ (by rw [So.ss_len, List.length_append]; omega) (So.ss_srt _)), So.Same.trans ((So.Same.refl P).app (So.ss_same (c ++ d))) hS, by simp [So.ss_len]; omega⟩, by first | omega | (dsimp only; omega), VS.toA⟩
     ·have sq := hC.one (by omega) h0
      refine dw_seq ?_; refine dw_seq ?_; refine dwk [(35, .v (.bool false))] TSO_ok hnt fun K hK => ?_; refine And.intro auF ?_; refine hK _ _ ?_; clear hK K; refine dw_cond (t := false) rfl ?_; rw [if_neg (by simp)]; refine dw_exit ?_; refine dw_seq ?_; refine dw_seq ?_; refine dwk [(51, .v (.int .i64 (↑(P.length + s))))] TSO_ok hnt fun K hK => ?_; refine And.intro auI ?_; refine hK _ _ ?_; clear hK K
      refine dw_seq ?_; refine dwk [(54, .v (.bool false))] TSO_ok hnt fun K hK => ?_; refine And.intro auF ?_; refine hK _ _ ?_; clear hK K; refine dw_cond (t := false) rfl ?_; rw [if_neg (by simp)]; refine dw_skip ?_; refine dwk [(62, .v (.int .i64 (↑(2 * s))))] TSO_ok hnt fun K hK => ?_; refine And.intro auI ?_; refine hK _ _ ?_; clear hK K
      refine ⟨⟨(2 * s, P ++ Q), by dsimp only; omega, by dsimp only; omega, hF.ch (.last _ (by omega) sq), hS, by simp; omega⟩, by first | omega | (dsimp only; omega), VS.toA⟩
   ·have hsrt := hC.one (by omega) h0
    have hfin : So.ss l = L := So.ss_eq hsrt hS
    rw [hfin]
    refine dw_seq ?_; refine dw_seq ?_; refine dwk [(30, .v (.bool false))] TSO_ok hnt fun K hK => ?_; refine And.intro auF ?_; refine hK _ _ ?_; clear hK K; refine dw_cond (t := false) rfl ?_; rw [if_neg (by simp)]; refine dw_exit ?_
    exact reta rfl
theorem stable_d (l : List (Int × Tm)) (n : Nat) (hn : l.length = n) (hM : n ≤ 1000000) :
  CallG Try.prog 177 [.ps 0 n, .fn 145 []] (symR l) (symR (So.ss l)) (.tu []) := by
 have hs := stableC_d l n hn hM
 refine callG_of_dw 1 9 [] TSO_ok (by kernel_rfl) Try.func177 rfl Try.ntmps177 rfl (by simp) ?dwords ?dbody
 case dwords => simp [wordsG, rowN, rowsR, gkey, Key.eq, D.ok, D.oks, D.okss, rnames, inN, ckey, ePairs_ok]
 case dbody =>
  intro cx hnt hn0
  refine dwk [] TSO_ok hnt fun K hK => ?_; refine dcn (CallG.n (hs) _) ?_; refine hK _ _ ?_; clear hK K
  exact reta rfl
theorem sortedN_d (l : List (Int × Tm)) (hl : l.length ≤ 1000000) (ht : ∀ p ∈ l, p.2.full ≤ 80000 ∧ p.2.Fit) (nm : Nat) : CallN Try.prog 146 [.sl 5 (ePairs l) none] [] nm [(.r nm, .rw 105 5 l.length)] (.sl 5 (ePairs (So.ss l)) (some nm)) := by
 have hst := stable_d l l.length rfl hl
 refine callRow_of_dw 25 [ResultVar.tmp 2] TSP_ok (by kernel_rfl) Try.func146 rfl Try.ntmps146 rfl (by simp) (by simp [D.ok, ePairs_ok]) (by simp [D.okss, ePairs_ok]) ?dbody nm
 case dbody =>
  intro cx hnt hn0
  refine dw_seq ?_; refine dwk [] TSP_ok hnt fun K hK => ?_; refine hK _ _ ?_; clear hK K
  refine dw_cut (τ := [(.t 0, .sl 5 (ePairs l) none), (.t 3, .v (.slice none 0 0))]) (N1 := 0) ?_ ?_
  ·skip
   refine dwk [] TSP_ok hnt fun K hK => ?_; refine hK _ _ ?_; clear hK K
   exact cut_ok (VS.toK (by omega) (by repeat first | exact trivial | refine And.intro (And.intro (by first | rfl | simp [D.ok, D.oks, D.okss, D.okm, upto, keyOk, argsT]) (by first | exact Or.inl rfl | exact Or.inr ⟨_, rfl, (by repeat first | exact VLe.refl _ | exact VLe.nil _ | exact VLe.untag _ _ _ | refine VLe.ag ?_ | refine VLe.tu ?_ | refine VLeL.cons ?_ ?_ | exact VLeL.nil), trivial⟩ | simp [get, Key.eq, argsT])) ?_))
  ·refine DW.vs (VS.rowPT (x := 3) (by rw [hnt]; decide) 105 5 rfl) ?_
   refine dw_seq ?_; refine dw_seq ?_; refine dwk [(7, .v (.int .i64 (↑l.length)))] TSP_ok hnt fun K hK => ?_; refine And.intro (dintE (by rw [ePairs_len])) ?_; refine hK _ _ ?_; clear hK K; refine dw_block ?_
   refine dw_loop (ι := { k : Nat // k ≤ l.length }) (fun k => [(.t 3, .ps 0 k.1), (.t 6, .sl 5 (ePairs l) none), (.t 7, .v (.int .i64 ↑l.length)), (.t 8, .v (.int .i64 ↑k.1)), (.r 0, .rp 105 5 (ePairs (l.take k.1)))]) 1 (fun k => l.length - k.1) (⟨0, Nat.zero_le _⟩) ((VS.toK (by omega) (by repeat first | exact trivial | refine And.intro (And.intro (by first | rfl | simp [D.ok, D.oks, D.okss, D.okm, upto, keyOk, argsT]) (by first | exact Or.inl rfl | exact Or.inr ⟨_, rfl, (by repeat first | exact VLe.refl _ | exact VLe.nil _ | exact VLe.untag _ _ _ | refine VLe.ag ?_ | refine VLe.tu ?_ | refine VLeL.cons ?_ ?_ | exact VLeL.nil), trivial⟩ | simp [get, Key.eq, argsT])) ?_))) fun k => ?_
   obtain ⟨k, hk⟩ := k
   dsimp only
   by_cases hlt : k < l.length
   ·have hc := copy_d l[k].2 (ht _ (List.getElem_mem hlt)).1 (ht _ (List.getElem_mem hlt)).2
    rw [eTm_eq] at hc
    have htk : ePairs (l.take k) ++ [[.v (.int .i64 l[k].1), .sl 2 (eTys l[k].2.binds) none, .v (.int .i64 l[k].2.kind), .v (.int .i64 l[k].2.index), .sl 4 (eTms l[k].2.args) none]] = ePairs (l.take (k + 1)) := by
     rw [List.take_add_one, List.getElem?_eq_getElem hlt, ← ePair_eq]
     show List.map ePair (l.take k) ++ [ePair l[k]] = List.map ePair (l.take k ++ [l[k]])
     rw [List.map_append]; rfl
    refine dw_seq ?_; refine dwk [(9, .v (.bool true))] TSP_ok hnt fun K hK => ?_; refine And.intro auT ?_; refine hK _ _ ?_; clear hK K; refine dw_seq ?_; refine dw_cond (t := true) rfl ?_; rw [if_pos rfl]; refine dw_skip ?_; refine dw_seq ?_; refine dw_block ?_; refine dw_seq ?_; refine dwk [(10, .q [.v (.int .i64 l[k].1), .sl 2 (eTys l[k].2.binds) none, .v (.int .i64 l[k].2.kind), .v (.int .i64 l[k].2.index), .sl 4 (eTms l[k].2.args) none])] TSP_ok hnt fun K hK => ?_
    refine And.intro (elo (ePairs_len l)) ?_; refine And.intro (elv (ePairs_getD l k) (ePair_eq _)) ?_; refine hK _ _ ?_; clear hK K; refine dwkD [(20, .ps 0 (k + 1))] TSP_ok hnt fun K hK => ?_; refine dcl (hc) ?_; refine And.intro (⟨by simp [ePairs_len]; omega, by simp [ePairs_len]; omega⟩) ?_; refine And.intro (VLe.refl _) ?_; refine hK _ _ (by kernel_rfl) ?_; clear hK K
    rw [htk]
    refine dwk [(21, .v (.int .i64 (↑(k + 1))))] TSP_ok hnt fun K hK => ?_; refine And.intro auI ?_; refine hK _ _ ?_; clear hK K
    refine ⟨⟨k + 1, by omega⟩, by first | omega | (dsimp only; omega), VS.toA⟩
   ·have hke : l.take k = l := List.take_of_length_le (by omega)
    have hkl : k = l.length := by omega
    rw [hke, hkl]
    refine dw_seq ?_; refine dwk [(9, .v (.bool false))] TSP_ok hnt fun K hK => ?_; refine And.intro auF ?_; refine hK _ _ ?_; clear hK K; refine dw_seq ?_; refine dw_cond (t := false) rfl ?_; rw [if_neg (by simp)]; refine dw_exit ?_; refine dw_seq ?_; refine dwk [] TSP_ok hnt fun K hK => ?_; refine dcn (CallG.n (hst) _) ?_; refine hK _ _ ?_; clear hK K; refine dw_seq ?_; refine dwk [] TSP_ok hnt fun K hK => ?_
    refine hK _ _ ?_; clear hK K
    refine dw_freeze (x := 2) (g := 0) rfl rfl (ePairs_len _ |>.trans (So.ss_len l)) ?_
    rw [show (ePairs (So.ss l)).length = l.length by rw [ePairs_len, So.ss_len]]
    refine dw_ret ?_
    exact ⟨.inr rfl, 0, rfl, rfl⟩
theorem sOf_d (l : List (Int × Tm)) (hl : l.length ≤ 1000000) (ht : ∀ p ∈ l, p.2.full ≤ 80000 ∧ p.2.Fit) : PureC Try.prog 102 [.sl 5 (ePairs l) none] (.tu [.sl 5 (if Sb.right (So.ss l) then ePairs (So.ss l) else []) none, .v (.int .i64 (if Sb.right (So.ss l) then 0 else 1))]) := by
 have hs := sortedN_d l hl ht
 have hr := sright_d (So.ss l) (by rw [So.ss_len]; exact hl)
 cases h : Sb.right (So.ss l) with
 | true =>
  rw [h] at hr
  rw [if_pos rfl, if_pos rfl]
  refine calldw 0 11 [ResultVar.tmp 2, ResultVar.tmp 3] TSP_ok Try.func102 rfl Try.ntmps102 rfl fun cx hnt hn0 => ?_
  ·skip
   refine dw_seq ?_; refine dwk [] TSP_ok hnt fun K hK => ?_; refine hK _ _ ?_; clear hK K; refine dw_seq ?_; refine dwk [(6, .sl 5 (ePairs (So.ss l)) none)] TSP_ok hnt fun K hK => ?_; refine dcn (hs _) ?_; refine And.intro (VLe.untag _ _ _) ?_; refine hK _ _ ?_; clear hK K; refine dw_seq ?_; refine dw_seq ?_; refine dwk [] TSP_ok hnt fun K hK => ?_; refine dcl (hr) ?_; refine hK _ _ ?_; clear hK K; refine dw_cond (t := false) rfl ?_
   rw [if_neg (by simp)]; refine dw_skip ?_; refine dw_seq ?_; refine dwk [] TSP_ok hnt fun K hK => ?_; refine hK _ _ ?_; clear hK K; refine dw_ret ?_
   exact reta rfl
 | false =>
  rw [h] at hr
  rw [if_neg (by simp), if_neg (by simp)]
  refine calldw 0 11 [ResultVar.tmp 2, ResultVar.tmp 3] TSP_ok Try.func102 rfl Try.ntmps102 rfl fun cx hnt hn0 => ?_
  ·skip
   refine dw_seq ?_; refine dwk [] TSP_ok hnt fun K hK => ?_; refine hK _ _ ?_; clear hK K; refine dw_seq ?_; refine dwk [(6, .sl 5 (ePairs (So.ss l)) none)] TSP_ok hnt fun K hK => ?_; refine dcn (hs _) ?_; refine And.intro (VLe.untag _ _ _) ?_; refine hK _ _ ?_; clear hK K; refine dw_seq ?_; refine dw_seq ?_; refine dwk [] TSP_ok hnt fun K hK => ?_; refine dcl (hr) ?_; refine hK _ _ ?_; clear hK K; refine dw_cond (t := true) rfl ?_
   rw [if_pos rfl]; refine dw_seq ?_; refine dwk [] TSP_ok hnt fun K hK => ?_; refine hK _ _ ?_; clear hK K; refine dw_ret ?_
   exact reta rfl
end Go.Proofs.Ytdmiekaeodcehaa

namespace Go.Proofs.Ytdmiekaeodcehaa
open Go.RowKit

namespace Pn
def atL : List Int → Nat → List (Int × Value)
  | [], _ => []
  | v :: l, k => (v, .int .i64 k) :: atL l (k + 1)
end Pn
@[simp] theorem atL_ok (f g : Nat → Bool) (l : List Int) (k : Nat) : D.okm f g (eMp (Pn.atL l k)) = true := okm_map _ _ fun _ _ => rfl
end Go.Proofs.Ytdmiekaeodcehaa

namespace Go.Proofs.Ytdmiekaeodcehaa
open Go.RowKit
def TL8_25 : TI := ⟨1, false, [Value.slice none 0 0], [], some 27, 24, 5, none, false⟩
theorem TL8_25_ok : TypOk Try.prog 25 TL8_25 := ⟨by kernel_rfl, by kernel_rfl, by kernel_rfl, by kernel_rfl, by kernel_rfl⟩
def TL8_3 : TI := ⟨1, false, [Value.int IntKind.i64 0], [], none, 8, 2, none, false⟩
theorem TL8_3_ok : TypOk Try.prog 3 TL8_3 := ⟨by kernel_rfl, by kernel_rfl, by kernel_rfl, by kernel_rfl, by kernel_rfl⟩
def TL8_27 : TI := ⟨4, true, [Value.slice none 0 0, Value.int IntKind.i64 0, Value.int IntKind.i64 0, Value.slice none 0 0], [(0, 1, false), (1, 2, true), (3, 1, false)], none, 64, 6, none, false⟩
theorem TL8_27_ok : TypOk Try.prog 27 TL8_27 := ⟨by kernel_rfl, by kernel_rfl, by kernel_rfl, by kernel_rfl, by kernel_rfl⟩
def TL8_24 : TI := ⟨2, true, [Value.int IntKind.i64 0, Value.int IntKind.i64 0], [(0, 1, false), (1, 1, false)], none, 16, 6, none, true⟩
theorem TL8_24_ok : TypOk Try.prog 24 TL8_24 := ⟨by kernel_rfl, by kernel_rfl, by kernel_rfl, by kernel_rfl, by kernel_rfl⟩
def TL8 : List (Nat × TI) := [(25, TL8_25), (3, TL8_3), (27, TL8_27), (24, TL8_24)]
theorem TL8_ok : TabOk Try.prog TL8 := (((((TabOk.nil _).cons TL8_24_ok).cons TL8_27_ok).cons TL8_3_ok).cons TL8_25_ok)
def TL9_53 : TI := ⟨1, false, [Value.slice none 0 0], [], some 105, 24, 5, none, false⟩
theorem TL9_53_ok : TypOk Try.prog 53 TL9_53 := ⟨by kernel_rfl, by kernel_rfl, by kernel_rfl, by kernel_rfl, by kernel_rfl⟩
def TL9_3 : TI := ⟨1, false, [Value.int IntKind.i64 0], [], none, 8, 2, none, false⟩
theorem TL9_3_ok : TypOk Try.prog 3 TL9_3 := ⟨by kernel_rfl, by kernel_rfl, by kernel_rfl, by kernel_rfl, by kernel_rfl⟩
def TL9_56 : TI := ⟨1, false, [Value.slice none 0 0], [], some 95, 24, 5, none, false⟩
theorem TL9_56_ok : TypOk Try.prog 56 TL9_56 := ⟨by kernel_rfl, by kernel_rfl, by kernel_rfl, by kernel_rfl, by kernel_rfl⟩
def TL9_105 : TI := ⟨5, true, [Value.int IntKind.i64 0, Value.slice none 0 0, Value.int IntKind.i64 0, Value.int IntKind.i64 0, Value.slice none 0 0], [(0, 1, false), (1, 4, true)], none, 72, 6, none, false⟩
theorem TL9_105_ok : TypOk Try.prog 105 TL9_105 := ⟨by kernel_rfl, by kernel_rfl, by kernel_rfl, by kernel_rfl, by kernel_rfl⟩
def TL9_34 : TI := ⟨4, true, [Value.slice none 0 0, Value.int IntKind.i64 0, Value.int IntKind.i64 0, Value.slice none 0 0], [(0, 1, false), (1, 2, true), (3, 1, false)], none, 64, 6, none, false⟩
theorem TL9_34_ok : TypOk Try.prog 34 TL9_34 := ⟨by kernel_rfl, by kernel_rfl, by kernel_rfl, by kernel_rfl, by kernel_rfl⟩
def TL9_95 : TI := ⟨5, true, [Value.int IntKind.i64 0, Value.slice none 0 0, Value.int IntKind.i64 0, Value.int IntKind.i64 0, Value.slice none 0 0], [(0, 1, false), (1, 4, true)], none, 72, 6, none, false⟩
theorem TL9_95_ok : TypOk Try.prog 95 TL9_95 := ⟨by kernel_rfl, by kernel_rfl, by kernel_rfl, by kernel_rfl, by kernel_rfl⟩
def TL9 : List (Nat × TI) := [(53, TL9_53), (3, TL9_3), (56, TL9_56), (105, TL9_105), (34, TL9_34), (95, TL9_95)]
theorem TL9_ok : TabOk Try.prog TL9 := (((((((TabOk.nil _).cons TL9_95_ok).cons TL9_34_ok).cons TL9_105_ok).cons TL9_56_ok).cons TL9_3_ok).cons TL9_53_ok)

mutual
def lowB : Tm → Bool
  | .mk _ k i a => !(decide (k = 0) && decide (900000 < i)) && lowsB a
def lowsB : List Tm → Bool
  | [] => true
  | t :: l => lowB t && lowsB l
end
theorem lowsB_all : ∀ l : List Tm, lowsB l = l.all lowB
  | [] => rfl
  | t :: l => by rw [lowsB, lowsB_all l]; rfl
theorem lowB_eq (t : Tm) : lowB t = (!(decide (t.kind = 0) && decide (900000 < t.index)) && lowsB t.args) := by cases t; rfl
theorem all_false {l : List Tm} {j : Nat} (h : j < l.length) (hf : lowB l[j] = false) : lowsB l = false := by
  rw [lowsB_all, List.all_eq_false]; exact ⟨l[j], List.getElem_mem h, by rw [hf]; simp⟩
set_option maxHeartbeats 1000000 in
theorem low_list (l : List Tm) (hl : l.length ≤ 1000000) (ih : ∀ t ∈ l, PureC Try.prog 18 [.sl 4 (eTms t.args) none] (.v (.bool (lowsB t.args)))) : PureC Try.prog 18 [.sl 4 (eTms l) none] (.v (.bool (lowsB l))) := by
 refine call_of_dw 0 35 [ResultVar.tmp 2] TL8_ok (by kernel_rfl) Try.func18 rfl Try.ntmps18 rfl (by simp) ?dwords ?dbody
 case dwords => simp [wordsOk, D.ok, D.oks, rnames, eTms_ok]
 case dbody =>
  intro cx hnt hn0
  refine dw_seq ?_; refine dwk [] TL8_ok hnt fun K hK => ?_; refine hK _ _ ?_; clear hK K; refine dw_seq (dw_seq ?_); refine dwk [] TL8_ok hnt fun K hK => ?_; refine hK _ _ ?_; clear hK K; refine dw_block ?_
  refine dw_loop (ι := { j : Nat // ∀ i (h : i < l.length), i < j → lowB l[i] = true }) (fun j => [(.t 0, .sl 4 (eTms l) none), (.t 3, .v (.int .i64 (j.1 : Int)))]) 1 (fun j => l.length - j.1) ⟨0, fun i h1 h2 => by omega⟩ VS.toA fun j => ?_
  obtain ⟨j, hj⟩ := j
  dsimp only
  refine dw_seq (dw_seq ?_)
  by_cases hlt : j < l.length
  ·have hi := ih l[j] (List.getElem_mem hlt)
   have hlo := lowB_eq l[j]
   refine dwk [(7, .v (.bool true))] TL8_ok hnt fun K hK => ?_; refine And.intro (dtrue (by rw [eTms_len]; omega)) ?_; refine hK _ _ ?_; clear hK K; refine dw_cond (t := true) rfl ?_; rw [if_pos rfl]; refine dw_skip ?_; refine dw_seq (dw_block (dw_seq ?_))
   have hq : (eTms l).getD (j : Int).toNat [] = [.sl 2 (eTys l[j].binds) none, .v (.int .i64 l[j].kind), .v (.int .i64 l[j].index), .sl 4 (eTms l[j].args) none] := by rw [Int.toNat_natCast, eTms_getD l j hlt, eTm_eq]
   have hb : (0 : Int) ≤ (j : Int) ∧ (j : Int) < ((eTms l).length : Int) := ⟨by omega, by rw [eTms_len]; omega⟩
   have hret : lowB l[j] = false → ∀ σ N, DW Try.prog cx (.ret) σ N (RetOk TL8 [ResultVar.tmp 2] (.v (.bool (lowsB l))) []) → True := fun _ _ _ _ => trivial
   by_cases hk : l[j].kind = 0
   ·by_cases hx : 900000 < l[j].index
    ·have hf : lowsB l = false := all_false hlt (by rw [hlo]; simp [hk, hx])
     rw [hf]
     refine dwk [(12, .q [.sl 2 (eTys l[j].binds) none, .v (.int .i64 l[j].kind), .v (.int .i64 l[j].index), .sl 4 (eTms l[j].args) none]), (16, .v (.bool true)), (20, .q [.sl 2 (eTys l[j].binds) none, .v (.int .i64 l[j].kind), .v (.int .i64 l[j].index), .sl 4 (eTms l[j].args) none]), (24, .v (.bool true))] TL8_ok hnt fun K hK => ?_; refine And.intro (hb) ?_; refine And.intro (VLe.of_eq (by rw [hq])) ?_
     refine And.intro (VLe.of_eq (by simp [hk])) ?_; refine And.intro (hb) ?_; refine And.intro (VLe.of_eq (by rw [hq])) ?_; refine And.intro (dtrue hx) ?_; refine hK _ _ ?_; clear hK K; refine dw_cond (t := true) rfl ?_; rw [if_pos rfl]; refine dw_seq ?_; refine dwk [] TL8_ok hnt fun K hK => ?_; refine hK _ _ ?_; clear hK K; refine dw_ret ?_
     exact retv (N := 0) (.inr rfl) rfl (VLe.refl _) trivial
    ·cases hla : lowsB l[j].args with
     | false =>
      have hf : lowsB l = false := all_false hlt (by rw [hlo, hla]; simp)
      rw [hf]
      rw [hla] at hi
      refine dwk [(12, .q [.sl 2 (eTys l[j].binds) none, .v (.int .i64 l[j].kind), .v (.int .i64 l[j].index), .sl 4 (eTms l[j].args) none]), (16, .v (.bool true)), (20, .q [.sl 2 (eTys l[j].binds) none, .v (.int .i64 l[j].kind), .v (.int .i64 l[j].index), .sl 4 (eTms l[j].args) none]), (24, .v (.bool false)), (29, .q [.sl 2 (eTys l[j].binds) none, .v (.int .i64 l[j].kind), .v (.int .i64 l[j].index), .sl 4 (eTms l[j].args) none])] TL8_ok hnt fun K hK => ?_
      refine And.intro (hb) ?_; refine And.intro (VLe.of_eq (by rw [hq])) ?_; refine And.intro (VLe.of_eq (by simp [hk])) ?_; refine And.intro (hb) ?_; refine And.intro (VLe.of_eq (by rw [hq])) ?_; refine And.intro (dfalse hx) ?_; refine And.intro (hb) ?_; refine And.intro (VLe.of_eq (by rw [hq])) ?_; refine dcl (hi) ?_; refine hK _ _ ?_; clear hK K; refine dw_cond (t := true) rfl ?_; rw [if_pos rfl]; refine dw_seq ?_
      refine dwk [] TL8_ok hnt fun K hK => ?_; refine hK _ _ ?_; clear hK K; refine dw_ret ?_
      exact retv (N := 0) (.inr rfl) rfl (VLe.refl _) trivial
     | true =>
      rw [hla] at hi
      refine dwk [(12, .q [.sl 2 (eTys l[j].binds) none, .v (.int .i64 l[j].kind), .v (.int .i64 l[j].index), .sl 4 (eTms l[j].args) none]), (16, .v (.bool true)), (20, .q [.sl 2 (eTys l[j].binds) none, .v (.int .i64 l[j].kind), .v (.int .i64 l[j].index), .sl 4 (eTms l[j].args) none]), (24, .v (.bool false)), (29, .q [.sl 2 (eTys l[j].binds) none, .v (.int .i64 l[j].kind), .v (.int .i64 l[j].index), .sl 4 (eTms l[j].args) none])] TL8_ok hnt fun K hK => ?_
      refine And.intro (hb) ?_; refine And.intro (VLe.of_eq (by rw [hq])) ?_; refine And.intro (VLe.of_eq (by simp [hk])) ?_; refine And.intro (hb) ?_; refine And.intro (VLe.of_eq (by rw [hq])) ?_; refine And.intro (dfalse hx) ?_; refine And.intro (hb) ?_; refine And.intro (VLe.of_eq (by rw [hq])) ?_; refine dcl (hi) ?_; refine hK _ _ ?_; clear hK K; refine dw_cond (t := false) rfl ?_; rw [if_neg (by simp)]
      refine dw_skip ?_; refine dwk [(9, .v (.int .i64 ((j + 1 : Nat) : Int)))] TL8_ok hnt fun K hK => ?_; refine And.intro (dintE (by rw [IntWalk.i64_in _ (by omega)]; omega)) ?_; refine hK _ _ ?_; clear hK K
      refine ⟨⟨j + 1, fun i h1 h2 => ?_⟩, by dsimp only; omega, VS.toA⟩
      by_cases he : i = j
      ·subst he; rw [hlo, hla]; simp [hx]
      ·exact hj i h1 (by omega)
   ·cases hla : lowsB l[j].args with
    | false =>
     have hf : lowsB l = false := all_false hlt (by rw [hlo, hla]; simp)
     rw [hf]
     rw [hla] at hi
     refine dwk [(12, .q [.sl 2 (eTys l[j].binds) none, .v (.int .i64 l[j].kind), .v (.int .i64 l[j].index), .sl 4 (eTms l[j].args) none]), (16, .v (.bool false)), (29, .q [.sl 2 (eTys l[j].binds) none, .v (.int .i64 l[j].kind), .v (.int .i64 l[j].index), .sl 4 (eTms l[j].args) none])] TL8_ok hnt fun K hK => ?_; refine And.intro (hb) ?_; refine And.intro (VLe.of_eq (by rw [hq])) ?_; refine And.intro (VLe.of_eq (by simp [hk])) ?_
     refine And.intro (hb) ?_; refine And.intro (VLe.of_eq (by rw [hq])) ?_; refine dcl (hi) ?_; refine hK _ _ ?_; clear hK K; refine dw_cond (t := true) rfl ?_; rw [if_pos rfl]; refine dw_seq ?_; refine dwk [] TL8_ok hnt fun K hK => ?_; refine hK _ _ ?_; clear hK K; refine dw_ret ?_
     exact retv (N := 0) (.inr rfl) rfl (VLe.refl _) trivial
    | true =>
     rw [hla] at hi
     refine dwk [(12, .q [.sl 2 (eTys l[j].binds) none, .v (.int .i64 l[j].kind), .v (.int .i64 l[j].index), .sl 4 (eTms l[j].args) none]), (16, .v (.bool false)), (29, .q [.sl 2 (eTys l[j].binds) none, .v (.int .i64 l[j].kind), .v (.int .i64 l[j].index), .sl 4 (eTms l[j].args) none])] TL8_ok hnt fun K hK => ?_; refine And.intro (hb) ?_; refine And.intro (VLe.of_eq (by rw [hq])) ?_; refine And.intro (VLe.of_eq (by simp [hk])) ?_
     refine And.intro (hb) ?_; refine And.intro (VLe.of_eq (by rw [hq])) ?_; refine dcl (hi) ?_; refine hK _ _ ?_; clear hK K; refine dw_cond (t := false) rfl ?_; rw [if_neg (by simp)]; refine dw_skip ?_; refine dwk [(9, .v (.int .i64 ((j + 1 : Nat) : Int)))] TL8_ok hnt fun K hK => ?_; refine And.intro (dintE (by rw [IntWalk.i64_in _ (by omega)]; omega)) ?_; refine hK _ _ ?_; clear hK K
     refine ⟨⟨j + 1, fun i h1 h2 => ?_⟩, by dsimp only; omega, VS.toA⟩
     by_cases he : i = j
     ·subst he; rw [hlo, hla]; simp [hk]
     ·exact hj i h1 (by omega)
  ·have hf : lowsB l = true := by
    rw [lowsB_all, List.all_eq_true]
    intro t ht
    obtain ⟨i, hi, rfl⟩ := List.getElem_of_mem ht
    exact hj i hi (by omega)
   rw [hf]
   refine dwk [(7, .v (.bool false))] TL8_ok hnt fun K hK => ?_; refine And.intro (dfalse (by rw [eTms_len]; omega)) ?_; refine hK _ _ ?_; clear hK K; refine dw_cond (t := false) rfl ?_; rw [if_neg (by simp)]; refine dw_exit ?_; refine dw_seq ?_; refine dwk [] TL8_ok hnt fun K hK => ?_; refine hK _ _ ?_; clear hK K; refine dw_ret ?_
   exact retv (N := 0) (.inr rfl) rfl (VLe.refl _) trivial
theorem low_args : ∀ (t : Tm), Wide t → PureC Try.prog 18 [.sl 4 (eTms t.args) none] (.v (.bool (lowsB t.args))) := by
  intro t
  induction t using Tm.ind with
  | h bs k i a ih =>
    intro hw
    obtain ⟨_, w2, w3⟩ := hw.inv
    exact low_list a (by omega) fun u hu => ih u hu (w3 u hu)
theorem low_d (l : List Tm) (hl : l.length ≤ 1000000) (hw : ∀ t ∈ l, Wide t) : PureC Try.prog 18 [.sl 4 (eTms l) none] (.v (.bool (lowsB l))) := low_list l hl fun t ht => low_args t (hw t ht)
theorem wide_full : ∀ t : Tm, t.full ≤ 100000 → Wide t := by
  intro t
  induction t using Tm.ind with
  | h bs k i a ih =>
    intro h
    rw [Tm.full_eq] at h
    have h1 := Ty.le_sizes bs
    have key : ∀ l : List Tm, l.length ≤ Tm.fulls l ∧ ∀ u ∈ l, u.full ≤ Tm.fulls l := by
      intro l
      induction l with
      | nil => exact ⟨by simp, nofun⟩
      | cons t l ihl =>
        have ht : 1 ≤ t.full := by obtain ⟨_, _, _, _⟩ := t; rw [Tm.full_eq]; omega
        simp only [Tm.fulls, List.length_cons]
        refine ⟨by omega, fun u hu => ?_⟩
        rcases List.mem_cons.1 hu with rfl | hu
        · omega
        · have := ihl.2 u hu; omega
    have h2 := key a
    exact .mk _ _ _ _ (by omega) (by omega) fun t ht => ih t ht (by have := h2.2 t ht; omega)
end Go.Proofs.Ytdmiekaeodcehaa

namespace Go.Proofs.Ytdmiekaeodcehaa
open Go.RowKit
namespace Pn
end Pn
end Go.Proofs.Ytdmiekaeodcehaa

namespace Go.Proofs.Ytdmiekaeodcehaa
open Go.RowKit

namespace Pn
end Pn
end Go.Proofs.Ytdmiekaeodcehaa

namespace Go.Proofs.Ytdmiekaeodcehaa
open Go.RowKit
def eUse (u : Pn.Use) : List D := [.v (.int .i64 u.mt), .sl 1 (eIs u.vars) none, .sl 2 (eTys u.binds) none, .sl 1 (eIs u.path) none]
def eUses (l : List Pn.Use) : List (List D) := l.map eUse
@[simp] theorem eUses_ok (f g : Nat → Bool) (l : List Pn.Use) : D.okss f g (eUses l) = true := D.okss_map _ l fun u _ => by simp [eUse, D.oks, D.ok, eIs_ok, eTys_ok]
namespace Pn
end Pn
end Go.Proofs.Ytdmiekaeodcehaa

namespace Go.Proofs.Ytdmiekaeodcehaa
open Go.RowKit

namespace Pn
abbrev Spot := Tm × List Ty × List Int
mutual
def subs : Tm → List Ty → List Int → List Spot
  | .mk bs k i a, ar, p => (.mk bs k i a, ar ++ bs, p) :: subss a (ar ++ bs) p 0
def subss : List Tm → List Ty → List Int → Nat → List Spot
  | [], _, _, _ => []
  | t :: l, ar, p, j => subs t ar (p ++ [(j : Int)]) ++ subss l ar p (j + 1)
end
mutual
def rigB : Tm → Tm → Bool
  | .mk bs k i a, t => decide (bs = t.binds) && (decide (k = 2) || ((decide (k = t.kind) && decide (i = t.index)) && (decide (a.length = t.args.length) && rigBs a t.args)))
def rigBs : List Tm → List Tm → Bool
  | [], _ => true
  | p :: l, ts => rigB p (ts.headD Tm.zero) && rigBs l ts.tail
end
end Pn
end Go.Proofs.Ytdmiekaeodcehaa

namespace Go.Proofs.Ytdmiekaeodcehaa
open Go.RowKit
namespace So
variable {α : Type} {f : α → Bool} {l : List α} {j : Nat}
end So
def del (m : List Int) (p : Int × Tm) : Bool := m.any fun x => decide (x = p.1)
def kept (m : List Int) (l : List (Int × Tm)) : List (Int × Tm) := l.filter fun p => !del m p
end Go.Proofs.Ytdmiekaeodcehaa

namespace Go.Proofs.Ytdmiekaeodcehaa
open Go.RowKit
def TRP_27 : TI := ⟨4, true, [Value.slice none 0 0, Value.int IntKind.i64 0, Value.int IntKind.i64 0, Value.slice none 0 0], [(0, 1, false), (1, 2, true), (3, 1, false)], none, 64, 6, none, false⟩
theorem TRP_27_ok : TypOk Try.prog 27 TRP_27 := ⟨by kernel_rfl, by kernel_rfl, by kernel_rfl, by kernel_rfl, by kernel_rfl⟩
def TRP_3 : TI := ⟨1, false, [Value.int IntKind.i64 0], [], none, 8, 2, none, false⟩
theorem TRP_3_ok : TypOk Try.prog 3 TRP_3 := ⟨by kernel_rfl, by kernel_rfl, by kernel_rfl, by kernel_rfl, by kernel_rfl⟩
def TRP_43 : TI := ⟨1, false, [Value.slice none 0 0], [], some 3, 24, 5, none, false⟩
theorem TRP_43_ok : TypOk Try.prog 43 TRP_43 := ⟨by kernel_rfl, by kernel_rfl, by kernel_rfl, by kernel_rfl, by kernel_rfl⟩
def TRP_25 : TI := ⟨1, false, [Value.slice none 0 0], [], some 27, 24, 5, none, false⟩
theorem TRP_25_ok : TypOk Try.prog 25 TRP_25 := ⟨by kernel_rfl, by kernel_rfl, by kernel_rfl, by kernel_rfl, by kernel_rfl⟩
def TRP_24 : TI := ⟨2, true, [Value.int IntKind.i64 0, Value.int IntKind.i64 0], [(0, 1, false), (1, 1, false)], none, 16, 6, none, true⟩
theorem TRP_24_ok : TypOk Try.prog 24 TRP_24 := ⟨by kernel_rfl, by kernel_rfl, by kernel_rfl, by kernel_rfl, by kernel_rfl⟩
def TRP_22 : TI := ⟨1, false, [Value.slice none 0 0], [], some 146, 24, 5, none, false⟩
theorem TRP_22_ok : TypOk Try.prog 22 TRP_22 := ⟨by kernel_rfl, by kernel_rfl, by kernel_rfl, by kernel_rfl, by kernel_rfl⟩
def TRP_140 : TI := ⟨1, false, [Value.slice none 0 0], [], some 43, 24, 5, none, false⟩
theorem TRP_140_ok : TypOk Try.prog 140 TRP_140 := ⟨by kernel_rfl, by kernel_rfl, by kernel_rfl, by kernel_rfl, by kernel_rfl⟩
def TRP_126 : TI := ⟨1, false, [Value.slice none 0 0], [], some 132, 24, 5, none, false⟩
theorem TRP_126_ok : TypOk Try.prog 126 TRP_126 := ⟨by kernel_rfl, by kernel_rfl, by kernel_rfl, by kernel_rfl, by kernel_rfl⟩
def TRP_132 : TI := ⟨4, true, [Value.int IntKind.i64 0, Value.slice none 0 0, Value.slice none 0 0, Value.slice none 0 0], [(0, 1, false), (1, 1, false), (2, 1, false), (3, 1, false)], none, 80, 6, none, false⟩
theorem TRP_132_ok : TypOk Try.prog 132 TRP_132 := ⟨by kernel_rfl, by kernel_rfl, by kernel_rfl, by kernel_rfl, by kernel_rfl⟩
def TRP_146 : TI := ⟨2, true, [Value.slice none 0 0, Value.int IntKind.i64 0], [(0, 1, false), (1, 1, false)], none, 32, 6, none, false⟩
theorem TRP_146_ok : TypOk Try.prog 146 TRP_146 := ⟨by kernel_rfl, by kernel_rfl, by kernel_rfl, by kernel_rfl, by kernel_rfl⟩
def TRP : List (Nat × TI) := [(27, TRP_27), (3, TRP_3), (43, TRP_43), (25, TRP_25), (24, TRP_24), (22, TRP_22), (140, TRP_140), (126, TRP_126), (132, TRP_132), (146, TRP_146)]
theorem TRP_ok : TabOk Try.prog TRP := (((((((((((TabOk.nil _).cons TRP_146_ok).cons TRP_132_ok).cons TRP_126_ok).cons TRP_140_ok).cons TRP_22_ok).cons TRP_24_ok).cons TRP_25_ok).cons TRP_43_ok).cons TRP_3_ok).cons TRP_27_ok)

namespace Pn
mutual
def pth : Tm → List Int → List (List Int)
  | .mk _ _ _ a, p => p :: pths a p 0
def pths : List Tm → List Int → Nat → List (List Int)
  | [], _, _ => []
  | t :: l, p, j => pth t (p ++ [(j : Int)]) ++ pths l p (j + 1)
end
end Pn
def ePaths (l : List (List Int)) : List (List D) := l.map fun p => [.sl 1 (eIs p) none]
@[simp] theorem ePaths_ok (f g : Nat → Bool) (l : List (List Int)) : D.okss f g (ePaths l) = true := D.okss_map _ l fun l _ => by simp [D.oks, D.ok, eIs_ok]
theorem rbehind_d (l r : List Ty) (h : l.length + r.length ≤ 900000) : PureC Try.prog 84 [.sl 2 (eTys l) none, .sl 2 (eTys r) none] (.sl 2 (eTys (l ++ r)) none) := by
 rw [eTys_append]
 have e1 := eTys_len l
 have e2 := eTys_len r
 refine call_of_dw 0 12 [ResultVar.tmp 4] TRP_ok (by kernel_rfl) Try.func84 rfl Try.ntmps84 rfl (by simp) ?dwords ?dbody
 case dwords => simp [wordsOk, D.ok, D.oks, D.okss, rnames, inN, ckey, eTys_ok, ← eTys_append]
 case dbody =>
  intro cx hnt hn0
  refine dw_seq ?_; refine dwk [] TRP_ok hnt fun K hK => ?_; refine hK _ _ ?_; clear hK K; refine dw_seq ?_; refine dwk [] TRP_ok hnt fun K hK => ?_; refine hK _ _ ?_; clear hK K; refine dw_seq ?_; refine dwk [] TRP_ok hnt fun K hK => ?_; refine And.intro (by omega) ?_; refine hK _ _ ?_; clear hK K; refine dw_seq ?_; refine dwk [] TRP_ok hnt fun K hK => ?_; refine And.intro (⟨rfl, by omega⟩) ?_; refine hK _ _ ?_; clear hK K
  refine dw_ret ?_
  exact reta rfl
end Go.Proofs.Ytdmiekaeodcehaa

namespace Go.Proofs.Ytdmiekaeodcehaa
open Go.RowKit
namespace Pn
end Pn
end Go.Proofs.Ytdmiekaeodcehaa

namespace Go.Proofs.Ytdmiekaeodcehaa
open Go.RowKit
variable {β : Type} {Ok : Obj → Prop} {B : Nat} {I I' : β → World → Prop}

end Go.Proofs.Ytdmiekaeodcehaa

namespace Go.Proofs.Ytdmiekaeodcehaa
open Go.RowKit

def rpInt : Rp Int where
  n := 1
  R _ _ x v := x = [.int .i64 v]
  len := by rintro F w x a rfl; rfl
  one := by rintro F w x a rfl u hu; simp at hu; subst hu; rfl
  keep := fun h _ => h
  weaken := fun h _ => h

theorem infoI : (Try.prog.info? 3).map (fun i => (i.zero, i.size, i.bytes)) = some (some (.int .i64 0), 1, 8) := by kernel_rfl

def FreshInts (l : List Int) (w : World) (e : Ending) (w' : World) : Prop := ∃ a c, e = .returned (.slice a l.length c) ∧ IsSl rpInt (fun q => w.heap.size ≤ q) w' (.slice a l.length c) l ∧ Below w.heap.size w w'

end Go.Proofs.Ytdmiekaeodcehaa

namespace Go.Proofs.Ytdmiekaeodcehaa
open Go.RowKit

namespace Tm
mutual
def heads : Tm → Int → List (Int × Int)
  | .mk b k i a, n => (if k ≠ 0 then [(k, i)] else if n + (b.length : Int) ≤ i then [(0, i - (n + (b.length : Int)))] else []) ++ headss a (n + (b.length : Int))
def headss : List Tm → Int → List (Int × Int)
  | [], _ => []
  | t :: l, n => heads t n ++ headss l n
end
end Tm

end Go.Proofs.Ytdmiekaeodcehaa

namespace Go.Proofs.Ytdmiekaeodcehaa
open Go.RowKit

end Go.Proofs.Ytdmiekaeodcehaa

namespace Go.Proofs.Ytdmiekaeodcehaa
open Go.RowKit Go.Shelf
attribute [local go_sem] Oper.semAt_some

end Go.Proofs.Ytdmiekaeodcehaa

namespace Go.Proofs.Ytdmiekaeodcehaa
open Go.RowKit

def sortU (zs : List Int) : List Int := Lib.compact (zs.mergeSort fun x y => decide (x ≤ y))

theorem keeps_zero (d : Array Int) : Lib.keeps d 0 = true := by simp [Lib.keeps]
theorem upTo_rises (d : Array Int) : ∀ m, m ≤ d.size → (∀ i j, i ≤ j → j < d.size → d[i]! ≤ d[j]!) → (Lib.compactUpTo d m).Pairwise (· < ·) ∧ (∀ x ∈ Lib.compactUpTo d m, ∃ j, j < m ∧ d[j]! = x) ∧ (∀ j, j < m → d[j]! ∈ Lib.compactUpTo d m) := by
  intro m
  induction m with
  | zero => intro _ _; simp [Lib.compactUpTo]
  | succ m ih =>
    intro hm hs
    obtain ⟨h1, h2, h3⟩ := ih (by omega) hs
    rw [Lib.compactUpTo_succ]
    by_cases hk : Lib.keeps d m = true
    · rw [if_pos hk]
      refine ⟨?_, ?_, ?_⟩
      · rw [List.pairwise_append]
        refine ⟨h1, by simp, fun a ha b hb => ?_⟩
        obtain ⟨j, hj, rfl⟩ := h2 a ha
        simp at hb; subst hb
        have hle := hs j (m - 1) (by omega) (by omega)
        have hle2 := hs (m - 1) m (by omega) (by omega)
        have hne : d[m - 1]! ≠ d[m]! := by
          cases m with
          | zero => omega
          | succ k =>
            have : d[k + 1]! ≠ d[k]! := by simpa [Lib.keeps] using hk
            exact fun e => this e.symm
        omega
      · intro x hx
        rcases List.mem_append.1 hx with hx | hx
        · obtain ⟨j, hj, e⟩ := h2 x hx; exact ⟨j, by omega, e⟩
        · simp at hx; exact ⟨m, by omega, hx.symm⟩
      · intro j hj
        rw [List.mem_append]
        by_cases hjm : j = m
        · subst hjm; right; simp
        · left; exact h3 j (by omega)
    · rw [if_neg hk, List.append_nil]
      refine ⟨h1, fun x hx => by obtain ⟨j, hj, e⟩ := h2 x hx; exact ⟨j, by omega, e⟩, fun j hj => ?_⟩
      by_cases hjm : j = m
      · subst hjm
        cases j with
        | zero => exact absurd (keeps_zero d) hk
        | succ k =>
          have : d[k + 1]! = d[k]! := by simpa [Lib.keeps] using hk
          rw [this]; exact h3 k (by omega)
      · exact h3 j (by omega)

theorem sortU_spec (zs : List Int) : (sortU zs).Pairwise (· < ·) ∧ ∀ x, x ∈ sortU zs ↔ x ∈ zs := by
  obtain ⟨ss, hss⟩ : ∃ ss, (zs.mergeSort fun x y => decide (x ≤ y)) = ss := ⟨_, rfl⟩
  have hp : ss.Perm zs := by rw [← hss]; exact List.mergeSort_perm _ _
  have hs : ss.Pairwise (fun x y => x ≤ y) := by
    have := List.pairwise_mergeSort (le := fun x y : Int => decide (x ≤ y)) (fun a b c h1 h2 => by simp at *; omega) (fun a b => by simp; omega) zs
    rw [hss] at this
    simpa using this
  have hs' : ∀ i j, i ≤ j → j < ss.toArray.size → ss.toArray[i]! ≤ ss.toArray[j]! := by
    intro i j hij hj
    have hj' : j < ss.length := by simpa using hj
    have hi' : i < ss.length := by omega
    simp only [List.getElem!_toArray, getElem!_pos ss i hi', getElem!_pos ss j hj']
    by_cases e : i = j
    · subst e; exact Int.le_refl _
    · exact List.pairwise_iff_getElem.1 hs i j hi' hj' (by omega)
  obtain ⟨h1, h2, h3⟩ := upTo_rises ss.toArray ss.length (by simp) hs'
  unfold sortU
  rw [hss]
  refine ⟨h1, fun x => ?_⟩
  rw [← hp.mem_iff]
  constructor
  · intro hx
    obtain ⟨j, hj, e⟩ := h2 x hx
    rw [← e]
    simp only [List.getElem!_toArray, getElem!_pos ss j hj]
    exact List.getElem_mem hj
  · intro hx
    obtain ⟨j, hj, e⟩ := List.getElem_of_mem hx
    have := h3 j hj
    simp only [List.getElem!_toArray, getElem!_pos ss j hj, e] at this
    exact this
theorem rises_eq : ∀ {l r : List Int}, l.Pairwise (· < ·) → r.Pairwise (· < ·) → (∀ x, x ∈ l ↔ x ∈ r) → l = r
  | [], [], _, _, _ => rfl
  | [], b :: r, _, _, h => absurd ((h b).2 (by simp)) (by simp)
  | a :: l, [], _, _, h => absurd ((h a).1 (by simp)) (by simp)
  | a :: l, b :: r, h1, h2, h => by
    rw [List.pairwise_cons] at h1 h2
    have hab : a = b := by
      have ha := (h a).1 (by simp)
      have hb := (h b).2 (by simp)
      rcases List.mem_cons.1 ha with e | ha
      · exact e
      rcases List.mem_cons.1 hb with e | hb
      · exact e.symm
      have := h2.1 a ha; have := h1.1 b hb; omega
    subst hab
    rw [rises_eq h1.2 h2.2 fun x => ?_]
    constructor
    · intro hx
      rcases List.mem_cons.1 ((h x).1 (by simp [hx])) with e | hx'
      · have := h1.1 x hx; omega
      · exact hx'
    · intro hx
      rcases List.mem_cons.1 ((h x).2 (by simp [hx])) with e | hx'
      · have := h2.1 x hx; omega
      · exact hx'
theorem sortU_twice (zs : List Int) : sortU (zs ++ zs) = sortU zs :=
  rises_eq (sortU_spec _).1 (sortU_spec _).1 fun x => by rw [(sortU_spec _).2, (sortU_spec _).2]; simp

theorem sort_own {base : Nat} {w : World} {v : Value} {zs : List Int} (h : w.ownsRow base 3 1 v zs.length (zs.map (Value.int .i64))) (hl : zs.length ≤ 1000000) :
    Calls Try.prog 99 #[v] w fun e w' => e = .returned (.tuple #[]) ∧ w'.ownsRow base 3 1 v zs.length ((zs.mergeSort fun x y => decide (x ≤ y)).map (Value.int .i64)) ∧ w.grownBy w' v.ownBlock := by
  by_cases hv : v = .slice none 0 0
  · subst hv
    have h0 : zs = [] := by
      rcases h.2 with ⟨_, e⟩ | ⟨_, _, _, e, _⟩
      · exact List.eq_nil_of_length_eq_zero e
      · cases e
    subst h0
    refine (Try.slices_Sort_int_none none 0 w).mono ?_
    rintro e w' ⟨rfl, rfl⟩
    exact ⟨rfl, by simpa using h, ⟨rfl, rfl, rfl, Nat.le_refl _, fun _ _ _ => rfl⟩⟩
  · obtain ⟨g, cap, rfl, hb, hlt, hn, hm, _, hH⟩ := Lib.holds_of_ownsRow h hv
    refine (Try.slices_Sort_int g 0 cap zs w hH hlt (by omega)).mono ?_
    rintro e w' ⟨rfl, n, os, rfl⟩
    refine ⟨rfl, ?_, grownBy_sortedI _⟩
    rcases h.2 with ⟨e, _⟩ | ⟨g', cap', cur, e, _, hg, _, _, hc, _⟩
    · cases e
    · cases e
      exact ownsRow_sortedI (ss := zs) (by simp) hb hg hn hm hc

theorem compact_own {base : Nat} {w : World} {v : Value} {zs : List Int} (h : w.ownsRow base 3 1 v zs.length (zs.map (Value.int .i64))) (hl : zs.length ≤ 1000000) :
    Calls Try.prog 100 #[v] w fun e w' => ∃ v', e = .returned v' ∧ w'.ownsRow base 3 1 v' (Lib.compact zs).length ((Lib.compact zs).map (Value.int .i64)) ∧ w.grownBy w' v.ownBlock := by
  by_cases hv : v = .slice none 0 0
  · subst hv
    have h0 : zs = [] := by
      rcases h.2 with ⟨_, e⟩ | ⟨_, _, _, e, _⟩
      · exact List.eq_nil_of_length_eq_zero e
      · cases e
    subst h0
    refine (Try.slices_Compact_int_empty none 0 w).mono ?_
    rintro e w' ⟨rfl, rfl⟩
    exact ⟨_, rfl, h, ⟨rfl, rfl, rfl, Nat.le_refl _, fun _ _ _ => rfl⟩⟩
  · obtain ⟨g, cap, rfl, hb, hlt, hn, hm, _, hH⟩ := Lib.holds_of_ownsRow h hv
    refine (Try.slices_Compact_int g 0 cap zs w hH (by omega) hn).mono ?_
    rintro e w' ⟨rfl, q, rfl⟩
    have hcl := Lib.compact_length_le zs
    refine ⟨_, rfl, ?_, ?_⟩
    · have := Lib.ownsRow_putRow (q := q) (k := (Lib.compact zs).length) (ys := Lib.compact zs ++ List.replicate (zs.length - (Lib.compact zs).length) 0) h (by simp; omega) hcl
      simpa using this
    · have := grownBy_sortedI (w := w) (g := g) (n := q) (os := #[]) (Lib.compact zs ++ List.replicate (zs.length - (Lib.compact zs).length) 0).toArray
      simpa [Value.ownBlock] using this

theorem own_ints {base : Nat} {w : World} {v : Value} {l : List Int} (h : w.ownsRow base 3 1 v l.length (l.map (Value.int .i64))) : ∃ a c, v = .slice a l.length c ∧ IsSl rpInt (fun q => base ≤ q) w v l := by
  have hA : Acc rpInt 3 base (fun _ => False) w v l := by
    refine ⟨l.map (fun z => [.int .i64 z]), by simp, ?_, fun i hi => ⟨[.int .i64 l[i]], by simp [List.getElem?_eq_getElem hi], rfl⟩⟩
    have : (l.map (fun z => [Value.int .i64 z])).flatten = l.map (Value.int .i64) := by
      clear h
      induction l with
      | nil => rfl
      | cons a l ih => simp only [List.map_cons, List.flatten_cons, ih]; rfl
    rw [this]; exact h
  obtain ⟨a, c, hv⟩ := hA.len_shape
  exact ⟨a, c, hv, hA.sl (fun _ _ h => h.elim) (fun _ h => h)⟩
end Go.Proofs.Ytdmiekaeodcehaa

namespace Go.Proofs.Ytdmiekaeodcehaa
open Go.RowKit

theorem leaves_marks {F : Fence} {n : Nat} {P : Program} {fn : Func} {tmps : Array Value} {R : Ending → World → Prop} (B : Nat) : ∀ (Ds : List Nat) (w : World), Ds.Nodup → B ≤ w.heap.size → (∀ D ∈ Ds, B ≤ D ∧ w.heap[D]? = some (.deferred (some []))) →
    (∀ w', Keep (fun _ => True) w w' → Below B w w' → LeavesIn F n P fn tmps R [] .returning w') → LeavesInM F n P fn tmps R (Ds.map fun D => { target := .collected D, args := #[] }) .returning w
  | [], w, _, _, _, hk => hk w (Keep.refl _ _) (Below.refl _ _)
  | D :: Ds, w, hd, hB, hD, hk => by
    rw [List.nodup_cons] at hd
    have h1 := hD D (by simp)
    have hlt : D < w.heap.size := (Array.getElem?_eq_some_iff.1 h1.2).1
    refine ⟨by simp, .inl ⟨D, _, rfl, run_takeDeferred h1.2, ?_⟩⟩
    have hbel : Below B w (w.putObj D (.deferred none)) := (Below.refl _ _).grown (grownBy_putObj' w D (.deferred none)) hB (fun r e => by cases e; exact h1.1)
    have hkp : Keep (fun _ => True) w (w.putObj D (.deferred none)) := fun o v k _ hv => cell_kept hv (grownBy_putObj' _ D (.deferred none)) (fun r e => by cases e; exact ⟨_, h1.2, rfl⟩)
    refine leaves_marks B Ds _ hd.2 (by simpa using hB) (fun D' hD' => ⟨(hD D' (by simp [hD'])).1, ?_⟩) fun w' hk' hb' => hk w' (hkp.trans hk') (hbel.trans hb')
    have hne : D' ≠ D := fun e => hd.1 (e ▸ hD')
    exact (World.putObj_heap_other hne).trans (hD D' (by simp [hD'])).2

theorem keepsOthers_grown {W W' : World} {row : Option Nat} (hg : W.grownBy W' row) (hr : ∀ r, row = some r → ∃ o : Obj, W.heap[r]? = some o ∧ o.isCells = true) : KeepsOthers W W' :=
  ⟨hg.size, fun k o ho hc => (hg.block k (Array.getElem?_eq_some_iff.1 ho).1 (fun e => by
    obtain ⟨o', ho', hc'⟩ := hr k e.symm
    rw [ho] at ho'; cases ho'; rw [hc] at hc'; cases hc')).trans ho⟩

theorem own_row {w : World} {base : Nat} {e : TypeId} {size : Nat} {v : Value} {n : Nat} {xs : List Value} (h : w.ownsRow base e size v n xs) : ∀ r, v.ownBlock = some r → base ≤ r ∧ ∃ cs, w.heap[r]? = some (.cells cs e (0, 0)) := by
  intro r hr
  rcases h.2 with ⟨rfl, _⟩ | ⟨g, cap, cur, rfl, hb, hg, _⟩
  · cases hr
  · cases hr; exact ⟨hb, _, hg⟩
theorem own_kept {w w' : World} {base : Nat} {e : TypeId} {size : Nat} {v : Value} {n : Nat} {xs : List Value} {row : Option Nat} (h : w.ownsRow base e size v n xs) (hg : w.grownBy w' row)
    (hr : ∀ r, row = some r → ∃ o : Obj, w.heap[r]? = some o ∧ ∀ cs, o ≠ .cells cs e (0, 0)) : w'.ownsRow base e size v n xs := by
  refine h.kept hg ?_
  cases hv : v.ownBlock with
  | none => exact .inl rfl
  | some g =>
    refine .inr fun e' => ?_
    obtain ⟨_, cs, hc⟩ := own_row h g hv
    obtain ⟨o, ho, hne⟩ := hr g e'.symm
    rw [hc] at ho; cases ho; exact hne cs rfl

structure OutAt (w : World) (Ds : List Nat) (vv : Value) (zs : List Int) (W : World) : Prop where
  box : Blk W w.heap.size #[vv] 43
  own : W.ownsRow (w.heap.size + 1) 3 1 vv zs.length (zs.map (Value.int .i64))
  nod : Ds.Nodup
  marks : ∀ D ∈ Ds, w.heap.size + 1 ≤ D ∧ W.heap[D]? = some (.deferred (some []))
  below : Below w.heap.size w W
def OutG (B k : Nat) (t : TypeId) : Prop := k < B ∨ (B < k ∧ t ≠ 3)
namespace OutAt
variable {w W W' : World} {Ds : List Nat} {vv : Value} {zs : List Int}
theorem lt (h : OutAt w Ds vv zs W) : ∀ D ∈ Ds, D < W.heap.size := fun D hD => (Array.getElem?_eq_some_iff.1 (h.marks D hD).2).1
theorem blw (h : OutAt w Ds vv zs W) (hb : Below W.heap.size W W') : OutAt w Ds vv zs W' :=
  ⟨h.box.below hb, ownsRow_below h.own hb, h.nod, fun D hD => ⟨(h.marks D hD).1, (hb.block D (h.lt D hD)).trans (h.marks D hD).2⟩, h.below.trans (hb.mono h.below.size)⟩
theorem alloc (h : OutAt w Ds vv zs W) (o : Obj) : OutAt w Ds vv zs (W.alloc o) := h.blw ((Below.refl _ _).alloc (Nat.le_refl _) _)
theorem grown {B : Nat} {row : Option Nat} (h : OutAt w Ds vv zs W) (hlt : ∀ D ∈ Ds, D < B) (hwB : w.heap.size < B) (hg : W.grownBy W' row)
    (hr : ∀ r, row = some r → B ≤ r ∧ ∃ o : Obj, W.heap[r]? = some o ∧ ∀ cs, o ≠ .cells cs 3 (0, 0)) : OutAt w Ds vv zs W' :=
  ⟨h.box.grown hg (fun e => by have := (hr _ e).1; omega), own_kept h.own hg (fun r e => (hr r e).2), h.nod,
    fun D hD => ⟨(h.marks D hD).1, (hg.block D (h.lt D hD) (fun e => by have := (hr _ e.symm).1; have := hlt D hD; omega)).trans (h.marks D hD).2⟩,
    h.below.grown hg h.below.size (fun r e => by have := (hr r e).1; omega)⟩
theorem mark (h : OutAt w Ds vv zs W) {D : Nat} (hD : W.heap[D]? = some (.deferred (some []))) (hn : ∀ D' ∈ Ds, D' < D) (hw : w.heap.size + 1 ≤ D) : OutAt w (D :: Ds) vv zs W :=
  ⟨h.box, h.own, List.nodup_cons.2 ⟨fun hm => by have := hn D hm; omega, h.nod⟩, fun D' h' => by
    rcases List.mem_cons.1 h' with rfl | h'
    · exact ⟨hw, hD⟩
    · exact h.marks D' h', h.below⟩
theorem push (h : OutAt w Ds vv zs W) (x : Int) {w3 : World} {v' : Value} (hg : (W.alloc (.cells #[.int .i64 x] 3)).grownBy w3 vv.ownBlock)
    (hown : w3.ownsRow (w.heap.size + 1) 3 1 v' (zs.length + 1) (zs.map (Value.int .i64) ++ [.int .i64 x])) :
    OutAt w Ds v' (zs ++ [x]) (w3.setCell ⟨w.heap.size, 0, none⟩ v') ∧ KeepsOthers W (w3.setCell ⟨w.heap.size, 0, none⟩ v') ∧ KeepC (OutG w.heap.size) W (w3.setCell ⟨w.heap.size, 0, none⟩ v') := by
  have ho1 := h.own.alloc (.cells #[.int .i64 x] 3)
  have h1 := h.alloc (.cells #[.int .i64 x] 3)
  have hrow := own_row ho1
  have hk3 : KeepsOthers (W.alloc (.cells #[.int .i64 x] 3)) w3 := keepsOthers_grown hg (fun r e => by
    obtain ⟨_, cs, hc⟩ := hrow r e; exact ⟨_, hc, rfl⟩)
  have hbox3 : Blk w3 w.heap.size #[vv] 43 := h1.box.grown hg (fun e => by have := (hrow _ e).1; omega)
  have hbel3 : Below w.heap.size w w3 := h1.below.grown hg h1.below.size (fun r e => by have := (hrow r e).1; omega)
  have hkc : KeepC (OutG w.heap.size) (W.alloc (.cells #[.int .i64 x] 3)) w3 := ⟨hg.size, fun k cs t fr hk hc => (hg.block k (Array.getElem?_eq_some_iff.1 hc).1 (fun e => by
    obtain ⟨hle, cs', hc'⟩ := hrow k e.symm
    rw [hc] at hc'; cases hc'
    rcases hk with hk | hk
    · omega
    · exact hk.2 rfl)).trans hc⟩
  refine ⟨⟨hbox3.set 0 _, ?_, h.nod, fun D hD => ⟨(h1.marks D hD).1, ?_⟩, hbel3.setCell (by simp) _⟩, (((KeepsOthers.alloc W _).trans hk3).trans (KeepsOthers.setCell _ _ _)), ?_⟩
  · have := ownsRow_setCell_below hown (a := ⟨w.heap.size, 0, none⟩) (by simp) v'
    simpa using this
  · exact (KeepsOthers.setCell w3 _ v').same D _ (hk3.same D _ (h1.marks D hD).2 rfl) rfl
  · exact (((KeepC.refl _ W).alloc _).trans hkc).setCell _ _ (fun t ht => by rcases ht with h | h <;> simp at h)
theorem push_box (h : OutAt w Ds vv zs W) {x : Int} {w3 : World} (hg : (W.alloc (.cells #[.int .i64 x] 3)).grownBy w3 vv.ownBlock) : Blk w3 w.heap.size #[vv] 43 :=
  (h.alloc (.cells #[.int .i64 x] 3)).box.grown hg (fun e => by have := (own_row (h.own.alloc (.cells #[.int .i64 x] 3)) _ e).1; omega)
theorem turned (h : OutAt w Ds vv zs W) {ys : List Int} {W' : World} (hg : W.grownBy W' vv.ownBlock) {v' : Value} (hown : W'.ownsRow (w.heap.size + 1) 3 1 v' ys.length (ys.map (Value.int .i64))) :
    (Blk W' w.heap.size #[vv] 43 ∧ ∀ D ∈ Ds, w.heap.size + 1 ≤ D ∧ W'.heap[D]? = some (.deferred (some []))) ∧ Below w.heap.size w W' := by
  have hrow := own_row h.own
  refine ⟨⟨h.box.grown hg (fun e => by have := (hrow _ e).1; omega), fun D hD => ⟨(h.marks D hD).1, ?_⟩⟩, h.below.grown hg h.below.size (fun r e => by have := (hrow r e).1; omega)⟩
  refine (hg.block D (h.lt D hD) (fun e => ?_)).trans (h.marks D hD).2
  obtain ⟨_, cs, hc⟩ := hrow D e.symm
  rw [(h.marks D hD).2] at hc; cases hc
theorem sorted (h : OutAt w Ds vv zs W) {ys : List Int} {W' : World} (hg : W.grownBy W' vv.ownBlock) (hown : W'.ownsRow (w.heap.size + 1) 3 1 vv ys.length (ys.map (Value.int .i64))) : OutAt w Ds vv ys W' :=
  let q := h.turned hg hown
  ⟨q.1.1, hown, h.nod, q.1.2, q.2⟩
theorem leave (h : OutAt w Ds vv zs W) {ys : List Int} {W' : World} (hg : W.grownBy W' vv.ownBlock) {v' : Value} (hown : W'.ownsRow (w.heap.size + 1) 3 1 v' ys.length (ys.map (Value.int .i64)))
    {F : Fence} {n : Nat} {P : Program} {fn : Func} {tmps : Array Value} (hr : ∀ w3 : World, (results fn tmps).run P w3 = .ok v' w3) :
    LeavesInM F n P fn tmps (FreshInts ys w) (Ds.map fun D => { target := .collected D, args := #[] }) .returning W' := by
  obtain ⟨⟨hb, hm⟩, hbel⟩ := h.turned hg hown
  refine leaves_marks (w.heap.size + 1) Ds W' h.nod (by have := hb.lt; omega) hm (fun w3 hk hb3 => ?_)
  obtain ⟨a, c, hv, hs⟩ := own_ints hown
  subst hv
  exact ⟨_, hr w3, a, c, rfl, (hs.keep (fun k o u _ hu => hk k o u trivial hu)).weaken (by decide) (fun q _ hq => by omega), hbel.trans (hb3.mono (by omega))⟩
end OutAt
end Go.Proofs.Ytdmiekaeodcehaa

namespace Go.Proofs.Ytdmiekaeodcehaa
open Go.RowKit Go.Shelf
attribute [local go_sem] Oper.semAt_some

theorem tms_cells {F : Nat → Prop} {w : World} {v : Value} {l : List Tm} (h : IsSl rpTm F w v l) : ∃ a c, v = .slice a l.length c ∧ (l.length ≤ maxLen ∧ l.length ≤ c) ∧ ∃ (bl off : Nat),
    (0 < l.length → a = some ⟨bl, off, none⟩ ∧ F bl) ∧ ∀ j (hj : j < l.length), ∃ b k i s, w.cell? ⟨bl, off + j * 4, none⟩ = some b ∧ w.cell? ⟨bl, off + j * 4 + 1, none⟩ = some k ∧ w.cell? ⟨bl, off + j * 4 + 2, none⟩ = some i ∧ w.cell? ⟨bl, off + j * 4 + 3, none⟩ = some s ∧ IsTm F w b k i s l[j] := by
  obtain ⟨a, c, bl, off, X, hv, hm, ha, h1, h2⟩ := h
  refine ⟨a, c, hv, hm, bl, off, ha, fun j hj => ?_⟩
  obtain ⟨b, k, i, s, hx, ht⟩ := h2 j hj
  exact ⟨b, k, i, s, h1 j 0 b hj (by rw [hx]; rfl), h1 j 1 k hj (by rw [hx]; rfl), h1 j 2 i hj (by rw [hx]; rfl), h1 j 3 s hj (by rw [hx]; rfl), ht⟩

def metasP (l : List (Nat × Nat × Tm)) : List Int := l.filterMap fun p => if p.2.2.kind = 2 then some p.2.2.index else none
def metasL (l : List Tm) : List Int := l.flatMap fun t => metasP (t.pre 0 1)
theorem metasL_take (l : List Tm) (j : Nat) (h : j < l.length) : metasL (l.take (j + 1)) = metasL (l.take j) ++ metasP (l[j].pre 0 1) := by
  rw [List.take_succ_eq_append_getElem h]; unfold metasL; rw [List.flatMap_append]; simp
theorem metasL_len (l : List Tm) (m : Nat) (h : ∀ t ∈ l, t.full ≤ m) : (metasL l).length ≤ l.length * m := by
  induction l with
  | nil => simp [metasL]
  | cons t l ih =>
    have h1 := h t (by simp)
    have h2 := ih (fun u hu => h u (by simp [hu]))
    have h3 : (metasL (t :: l)).length = (metasP (t.pre 0 1)).length + (metasL l).length := by simp [metasL]
    have h4 : (metasP (t.pre 0 1)).length ≤ (t.pre 0 1).length := List.length_filterMap_le _ _
    rw [Tm.pre_length] at h4
    have h5 := Tm.size_le_full t
    rw [h3, List.length_cons, Nat.succ_mul]; omega
set_option maxRecDepth 100000 in
set_option maxHeartbeats 4000000 in
theorem metas6_k {F : Nat → Prop} {w : World} {v : Value} {l : List Tm} (h : IsSl rpTm F w v l) (hl : l.length ≤ 9) (hsz : ∀ t ∈ l, t.full ≤ 90000) : Calls Try.prog 47 #[v] w (FreshInts (sortU (metasL l)) w) := by
  refine (callsIn_wide (n := 9)).1 ?_
  have Ht := Lib.hid (h.weaken (F' := fun _ => True) (by decide) fun _ _ _ => trivial)
  obtain ⟨a, c, rfl, hm, bl, off, ha, hc⟩ := tms_cells Ht.out
  obtain ⟨ll, hll⟩ : ∃ x, l.length = x := ⟨_, rfl⟩
  clear h Ht
  have Hm := Lib.hid hm; clear hm
  have Hc := Lib.hid hc; clear hc
  have Hsz := Lib.hid hsz; clear hsz
  rw [hll] at ha hl ⊢
  obtain ⟨i2, hi2, hz0, hz1, hz2⟩ := info_parts infoI
  refine callsIn_of_wp_marks Try.func47 rfl trivial ?_ rfl
  simp only [Try.ntmps47, List.size_toArray, List.length_cons, List.length_nil, Nat.reduceAdd, Nat.reduceSub, Array.replicate_succ, Array.replicate_zero, List.push_toArray, List.append_toArray, List.nil_append, List.cons_append]
  gi_wp2_with fail
  refine wpIn_loop (fun a' w' => ∃ (j : Nat) (Ds : List Nat) (zs : List Int) (vv u5 u11 u12 u13 u14 u15 u28 : Value), a' = { tmps := #[.slice a ll c, undef, .slice none 0 0, .pointer (some ⟨w.heap.size, 0, none⟩), undef, u5, undef, undef, .slice a ll c, .int .i64 ll, .int .i64 j, u11, u12, u13, u14, u15, undef, undef, undef, undef, undef, undef, undef, undef, undef, undef, undef, undef, u28, undef, undef, undef, undef], defers := Ds.map fun D => { target := .collected D, args := #[] } } ∧
      j ≤ ll ∧ Hid (zs = metasL (l.take j)) ∧ OutAt w Ds vv zs w') (fun a' _ => ll - (intOf (a'.tmps.getD 10 undef)).toNat) ?start ?round
  case start =>
    refine ⟨0, [], [], .slice none 0 0, undef, undef, undef, undef, undef, undef, undef, rfl, by omega, by show _ = _; simp [metasL], ?_⟩
    exact ⟨Blk.new _ _ _ rfl, World.ownsRow_nil _ _ _ _, by simp, by simp, (Below.refl _ _).alloc (Nat.le_refl _) _⟩
  case round =>
    rintro a' W ⟨j, Ds, zs, vv, u5, u11, u12, u13, u14, u15, u28, rfl, hj, hzs, hO⟩
    have hj0 : (0 : Int) ≤ (j : Int) := Int.natCast_nonneg _
    have HO := Lib.hid hO; clear hO
    by_cases hlt : j < ll
    · have hj1 : (j : Int) < (ll : Int) := by omega
      obtain ⟨rfl, _⟩ := ha (by omega)
      obtain ⟨vb, vk, vi, vs, e1, e2, e3, e4, hty⟩ := Hc.out j (by omega)
      have hW := HO.out.below
      have e1 := ((Keep.refl (fun _ => True) _).below hW) _ _ _ trivial e1
      have e2 := ((Keep.refl (fun _ => True) _).below hW) _ _ _ trivial e2
      have e3 := ((Keep.refl (fun _ => True) _).below hW) _ _ _ trivial e3
      have e4 := ((Keep.refl (fun _ => True) _).below hW) _ _ _ trivial e4
      have Htk := Lib.hid (metasL_take l j (by omega))
      have hts := Hsz.out l[j] (List.getElem_mem _)
      obtain ⟨t, ht⟩ : ∃ t, l[j] = t := ⟨_, rfl⟩
      rw [ht] at hty Htk hts
      clear ht
      obtain ⟨pa, pc, qa, qc, rfl, rfl, rfl, rfl⟩ := hty.shape
      have Hty := Lib.hid hty; clear hty
      obtain ⟨x1, hx1⟩ : ∃ x, t.binds.length = x := ⟨_, rfl⟩
      obtain ⟨x2, hx2⟩ : ∃ x, t.args.length = x := ⟨_, rfl⟩
      obtain ⟨x3, hx3⟩ : ∃ x, t.kind = x := ⟨_, rfl⟩
      obtain ⟨x4, hx4⟩ : ∃ x, t.index = x := ⟨_, rfl⟩
      rw [hx1, hx2, hx3, hx4] at Hty
      rw [hx1] at e1
      rw [hx3] at e2
      rw [hx4] at e3
      rw [hx2] at e4
      clear hx1 hx2 hx3 hx4
      gi_wp2_with fail
      refine ⟨trivial, (each6_k _ _ _ _ _ _ ⟨_, _, _, rfl⟩ ⟨_, rfl⟩ ⟨_, rfl⟩ ⟨_, _, _, rfl⟩).mono ?_⟩
      rintro e w' ⟨rfl, rfl⟩
      gi_wp2_with fail
      have HO5 := Lib.hid ((HO.out.alloc (.cells #[.slice pa x1 pc, .int .i64 x3, .int .i64 x4, .slice qa x2 qc] 34)).alloc (.cells #[.slice pa x1 pc, .int .i64 x3, .int .i64 x4, .slice qa x2 qc] 34))
      obtain ⟨w5, hw5⟩ : ∃ w5, (W.alloc (.cells #[.slice pa x1 pc, .int .i64 x3, .int .i64 x4, .slice qa x2 qc] 34)).alloc (.cells #[.slice pa x1 pc, .int .i64 x3, .int .i64 x4, .slice qa x2 qc] 34) = w5 := ⟨_, rfl⟩
      have hz : w5.heap.size = W.heap.size + 2 := by rw [← hw5]; simp
      have y3 : Blk w5 (W.heap.size + 1) #[.slice pa x1 pc, .int .i64 x3, .int .i64 x4, .slice qa x2 qc] 34 := by rw [← hw5]; exact Blk.new _ _ _ (by simp)
      rw [hw5] at HO5 ⊢
      clear hw5
      have hsz1 := HO.out.box.lt
      have hlts := HO.out.lt
      clear HO
      have Hlts : Hid (∀ D ∈ Ds, D < w5.heap.size) := fun D hD => by have := hlts D hD; omega
      clear hlts
      refine range_softA (Ok := SpotOk) (fun o h => .inl h) rfl (by omega) (gf := 141) (lb := #[.pointer (some ⟨W.heap.size + 1, 0, none⟩)]) rfl trivial (enters_of Try.func141 (by kernel_rfl) rfl)
        (each6_soft (OutG w.heap.size) (fun k _ _ hk => .inl hk) Hty.out (by omega) (9 - 1) w5 (fun k _ hk ht => .inr ⟨by omega, ht⟩) ((Keep.refl _ _).below HO5.out.below) (W.heap.size + 1) y3)
        (fun h h' => h.trans h') (fun W l o o' _ hl ho _ => KeepC.putObj _ W l o o' hl ho) (Below.refl _ _) (fun _ => rfl)
        (fun pre V => ∃ v', OutAt w Ds v' (zs ++ metasP (pre.map Hit6.key)) V)
        (fun _ _ _ => False)
        (fun pre A B row ⟨v', h⟩ hg hr => ⟨v', h.grown Hlts.out (by omega) hg (fun r e => by
          obtain ⟨h1, o, ho, hc⟩ := hr r e
          refine ⟨h1, o, ho, fun cs e => ?_⟩
          subst e
          rcases hc with hc | ⟨cs', fr, hc⟩
          · simp [Obj.isCells] at hc
          · cases hc)⟩)
        (fun _ _ _ _ _ hs _ _ => hs)
        ⟨vv, by simpa [metasP] using HO5.out⟩
        (fun x a' V => ∃ Bx, Blk V Bx #[.slice x.pb x.t.binds.length x.cb, .int .i64 x.t.kind, .int .i64 x.t.index, .slice x.pa x.t.args.length x.ca] 34 ∧ a' = { tmps := #[.slice (some ⟨bl, off, none⟩) ll c, undef, .slice none 0 0, .pointer (some ⟨w.heap.size, 0, none⟩), undef, .pointer (some ⟨W.heap.size, 0, none⟩), undef, .pointer (some ⟨Bx, 0, none⟩), .slice (some ⟨bl, off, none⟩) ll c, .int .i64 ll, .int .i64 j, .bool true, .pointer (some ⟨bl, off + j * 4, none⟩), .agg #[.slice pa x1 pc, .int .i64 x3, .int .i64 x4, .slice qa x2 qc], .agg #[.slice pa x1 pc, .int .i64 x3, .int .i64 x4, .slice qa x2 qc], .func (.func 141) #[] #[.pointer (some ⟨W.heap.size + 1, 0, none⟩)], .agg #[.int .i64 x.s, .int .i64 x.d], .agg #[.slice x.pb x.t.binds.length x.cb, .int .i64 x.t.kind, .int .i64 x.t.index, .slice x.pa x.t.args.length x.ca], undef, undef, undef, undef, undef, undef, undef, undef, undef, undef, u28, undef, undef, undef, undef], defers := [] })
        (fun x a' W l o o' hl ho hoc => by
          rintro ⟨Bx, h2, h3⟩
          have hne : l ≠ Bx := fun e => by
            subst e
            have hb : W.heap[l]? = _ := h2
            rw [hb] at ho; cases ho; simp [Obj.isCells] at hoc
          exact ⟨Bx, (World.putObj_heap_other (Ne.symm hne)).trans h2, h3⟩) ?assign ?body ?done ?stop
      case assign =>
        rintro l pre x V K ⟨v', hV⟩ hK
        have HK := Lib.hid hK; clear hK
        have HV := Lib.hid hV; clear hV
        simp only [Hit6.enc] at *
        gi_wp2
        exact HK.out _ _ ((KeepsOthers.alloc _ _).from _) ((KeepC.refl _ V).alloc _) ⟨v', HV.out.alloc _⟩ ⟨V.heap.size, Blk.new _ _ _ rfl, rfl⟩
      case body =>
        rintro l' pre x a' V ⟨v', hV⟩ hlt' ⟨Bx, bX, rfl⟩
        have c1 : V.cell? ⟨w.heap.size, 0, none⟩ = some v' := hV.box.cell rfl
        have cx1 : V.cell? ⟨Bx, 1, none⟩ = some (.int .i64 x.t.kind) := bX.cell rfl
        have cx2 : V.cell? ⟨Bx, 2, none⟩ = some (.int .i64 x.t.index) := bX.cell rfl
        have hlen0 : (zs ++ metasP (pre.map Hit6.key)).length ≤ 900000 := by
          have h1 : (metasL (l.take j)).length ≤ 720000 := by
            have := metasL_len (l.take j) 90000 (fun t ht => Hsz.out t (List.mem_of_mem_take ht))
            have h2 : (l.take j).length ≤ 8 := by simp; omega
            exact Nat.le_trans this (Nat.le_trans (Nat.mul_le_mul_right 90000 h2) (by decide))
          have h2 : (metasP (pre.map Hit6.key)).length ≤ pre.length := by
            have := List.length_filterMap_le (fun p : Nat × Nat × Tm => if p.2.2.kind = 2 then some p.2.2.index else none) (pre.map Hit6.key)
            simpa [metasP] using this
          have h3 := Tm.size_le_full t
          rw [hzs.out, List.length_append]
          omega
        have hkey : metasP ((pre ++ [x]).map Hit6.key) = metasP (pre.map Hit6.key) ++ (if x.t.kind = 2 then [x.t.index] else []) := by
          unfold metasP
          rw [List.map_append, List.filterMap_append]
          congr 1
          by_cases hk : x.t.kind = 2
          · simp [Hit6.key, hk]
          · simp [Hit6.key, hk]
        have hkey2 : zs ++ metasP ((pre ++ [x]).map Hit6.key) = (zs ++ metasP (pre.map Hit6.key)) ++ (if x.t.kind = 2 then [x.t.index] else []) := by rw [hkey, List.append_assoc]
        clear hkey
        obtain ⟨zp, hzp⟩ : ∃ zp, zs ++ metasP (pre.map Hit6.key) = zp := ⟨_, rfl⟩
        rw [hzp] at hV hkey2 hlen0
        obtain ⟨kk, hkk⟩ : ∃ k, x.t.kind = k := ⟨_, rfl⟩
        obtain ⟨ii, hii⟩ : ∃ k, x.t.index = k := ⟨_, rfl⟩
        rw [hkk, hii] at hkey2
        rw [hkk] at cx1 ⊢
        rw [hii] at cx2 ⊢
        clear hzp hkk hii
        have HV := Lib.hid hV; clear hV
        have hsz3 := HV.out.below.size
        have f0 := HV.out.box.free 0
        by_cases hk : kk = 2
        · subst hk
          rw [if_pos rfl] at hkey2
          have Hkey := Lib.hid hkey2; clear hkey2
          gi_wp2_with (gi_at_builtin; refine wpListIn_append_own _ rfl _ _ 43 rfl (w.heap.size + 1) 3 i2 _ 1 8 Try.underlying43 hi2 hz0 hz1 hz2 rfl (by decide) v' zp.length (zp.map (Value.int .i64)) rfl (HV.out.own.alloc _) ⟨V.heap.size, 0, none⟩ 1 1 [.int .i64 ii] rfl rfl (fun jj u hu => by
              cases jj with
              | zero => simp at hu; subst hu; exact (Blk.new V #[.int .i64 ii] 3 rfl).cell rfl
              | succ _ => simp at hu) (by simp [Value.oneCell']) (by simp [maxLen]; omega) (by omega) (by have := HV.out.box.lt; simp; omega) ?_; intro v2 w3 hown3 hg3 hnil3; have Hg3 := Lib.hid hg3; obtain ⟨g3, cap3, rfl⟩ := ownsRow_succ hown3; have Hown3 := Lib.hid hown3; clear hown3 hg3 hnil3; have c3 := (HV.out.push_box Hg3.out).cell (i := 0) rfl; have f3 := (HV.out.push_box Hg3.out).free 0)
          obtain ⟨q1, q2, q3⟩ := HV.out.push ii Hg3.out Hown3.out
          exact ⟨q2.from _, q3, _, by rw [Hkey.out]; exact q1⟩
        · rw [if_neg hk, List.append_nil] at hkey2
          have Hkey := Lib.hid hkey2; clear hkey2
          have hk' : (kk == 2) = false := by simpa using hk
          gi_wp2
          exact ⟨(KeepsOthers.refl _).from _, KeepC.refl _ _, _, by rw [Hkey.out]; exact HV.out⟩
      case done =>
        rintro D ys V hD hys ⟨v', hV⟩ hK
        have hV2 := hV.mark hK (fun D' h' => by have := Hlts.out D' h'; omega) (by omega)
        have Hz : Hid (zs ++ metasP (ys.map Hit6.key) = metasL (l.take (j + 1))) := by show _ = _; rw [hys, Htk.out, hzs.out]
        rw [Hz.out] at hV2
        clear hV hK hys
        have HV := Lib.hid hV2; clear hV2
        gi_wp2_with fail
        refine ⟨⟨j + 1, D :: Ds, _, v', _, _, _, _, _, _, _, rfl, by omega, rfl, HV.out⟩, ?_⟩
        simp [intOf]; omega
      case stop =>
        rintro D cc pre V _ _ h _
        exact h.elim
    · have hO := HO.out
      have hz2 : zs = metasL l := by rw [hzs.out, List.take_of_length_le (by omega)]
      have hlen : zs.length ≤ 1000000 := by
        have := metasL_len l 90000 Hsz.out
        rw [hz2]
        exact Nat.le_trans this (Nat.le_trans (Nat.mul_le_mul_right 90000 (show l.length ≤ 9 by omega)) (by decide))
      have c1 : W.cell? ⟨w.heap.size, 0, none⟩ = some vv := hO.box.cell rfl
      clear hO
      gi_wp2_with fail
      refine ⟨trivial, (callsIn_wide.2 (sort_own (base := w.heap.size + 1) HO.out.own hlen)).mono ?_⟩
      rintro e W2 ⟨rfl, hown2, hg2⟩
      have hl2 := List.length_mergeSort (le := fun x y : Int => decide (x ≤ y)) zs
      have HO2 := Lib.hid (HO.out.sorted hg2 (by rw [hl2]; exact hown2))
      clear HO hown2 hg2
      have c2 : W2.cell? ⟨w.heap.size, 0, none⟩ = some vv := HO2.out.box.cell rfl
      gi_wp2_with fail
      refine ⟨trivial, (callsIn_wide.2 (compact_own (base := w.heap.size + 1) HO2.out.own (by rw [hl2]; exact hlen))).mono ?_⟩
      rintro e W3 ⟨v', rfl, hown3, hg3⟩
      have Hown3 := Lib.hid hown3; have Hg3 := Lib.hid hg3
      clear hown3 hg3
      gi_wp2_with fail
      have h := HO2.out.leave Hg3.out Hown3.out (F := Fence.wide) (n := 9) (P := Try.prog) (fn := Try.f47) (tmps := #[.slice a ll c, undef, v', .pointer (some ⟨w.heap.size, 0, none⟩), undef, u5, undef, undef, .slice a ll c, .int .i64 ll, .int .i64 j, .bool false, u12, u13, u14, u15, undef, undef, undef, undef, undef, undef, undef, undef, undef, undef, undef, undef, u28, vv, .tuple #[], vv, v']) (fun w3 => results_tmp (t := 2) rfl _ _ w3)
      rw [hz2] at h
      exact h
end Go.Proofs.Ytdmiekaeodcehaa

namespace Go.Proofs.Ytdmiekaeodcehaa
open Go.RowKit
def TF4_3 : TI := ⟨1, false, [Value.int IntKind.i64 0], [], none, 8, 2, none, false⟩
theorem TF4_3_ok : TypOk Try.prog 3 TF4_3 := ⟨by kernel_rfl, by kernel_rfl, by kernel_rfl, by kernel_rfl, by kernel_rfl⟩
def TF4_146 : TI := ⟨2, true, [Value.slice none 0 0, Value.int IntKind.i64 0], [(0, 1, false), (1, 1, false)], none, 32, 6, none, false⟩
theorem TF4_146_ok : TypOk Try.prog 146 TF4_146 := ⟨by kernel_rfl, by kernel_rfl, by kernel_rfl, by kernel_rfl, by kernel_rfl⟩
def TF4_22 : TI := ⟨1, false, [Value.slice none 0 0], [], some 146, 24, 5, none, false⟩
theorem TF4_22_ok : TypOk Try.prog 22 TF4_22 := ⟨by kernel_rfl, by kernel_rfl, by kernel_rfl, by kernel_rfl, by kernel_rfl⟩
def TF4 : List (Nat × TI) := [(3, TF4_3), (146, TF4_146), (22, TF4_22)]
theorem TF4_ok : TabOk Try.prog TF4 := ((((TabOk.nil _).cons TF4_22_ok).cons TF4_146_ok).cons TF4_3_ok)

mutual
def fewT (most : Int) : Ty → Int → Int
  | .mk a _, d => if d ≤ 0 then most + 1 else fewTs most a (d - 1) 1
def fewTs (most : Int) : List Ty → Int → Int → Int
  | [], _, n => n
  | t :: l, d, n => if n ≤ most then fewTs most l d (n + fewT most t d) else n
end
theorem fewTs_le {most : Int} (hm : 0 ≤ most) {B : Int} (hB : 0 ≤ B) : ∀ (l : List Ty) (d n : Int), (∀ t ∈ l, 1 ≤ fewT most t d ∧ fewT most t d ≤ B) → 1 ≤ n → n ≤ most + B → 1 ≤ fewTs most l d n ∧ fewTs most l d n ≤ most + B
  | [], d, n, _, h0, h1 => by rw [fewTs]; exact ⟨h0, h1⟩
  | t :: l, d, n, h, h0, h1 => by
    rw [fewTs]
    split
    · have := h t (by simp)
      exact fewTs_le hm hB l d _ (fun u hu => h u (by simp [hu])) (by omega) (by omega)
    · exact ⟨h0, h1⟩
theorem fewT_le {most : Int} (hm : 1 ≤ most) : ∀ (k : Nat) (t : Ty) (d : Int), d ≤ k → 1 ≤ fewT most t d ∧ fewT most t d ≤ most * k + most + 1
  | 0, .mk a b, d, hd => by
    rw [fewT, if_pos (by omega)]
    have e : most * ((0 : Nat) : Int) = 0 := Int.mul_zero _
    rw [e]; omega
  | k + 1, .mk a b, d, hd => by
    rw [fewT]
    have e : most * ((k + 1 : Nat) : Int) = most * (k : Int) + most := by rw [Int.natCast_add, Int.mul_add]; simp
    have h0 : 0 ≤ most * (k : Int) := Int.mul_nonneg (by omega) (by omega)
    split
    · rw [e]; omega
    · have := fewTs_le (most := most) (by omega) (B := most * k + most + 1) (by omega) a (d - 1) 1 (fun t _ => fewT_le hm k t (d - 1) (by omega)) (by omega) (by omega)
      rw [e]; omega
set_option maxHeartbeats 1000000 in
theorem few4_d (most : Int) (h1 : 1 ≤ most) (h2 : most ≤ 1000) : ∀ (t : Ty) (d : Int), -1000 ≤ d → d ≤ 1000 → PureC Try.prog 130 [.ag (eTy t), .v (.int .i64 most), .v (.int .i64 d)] (.v (.int .i64 (fewT most t d))) := by
 intro t
 induction t using Ty.ind with
 | h a b ih =>
 intro d hd1 hd2
 refine call_of_dw 0 37 [ResultVar.tmp 6] TF4_ok (by kernel_rfl) Try.func130 rfl Try.ntmps130 rfl (by simp) ?dwords ?dbody
 case dwords => simp [wordsOk, D.ok, D.oks, rnames, eTy_ok]
 case dbody =>
  intro cx hnt hn0
  refine dw_seq ?_; refine dwk [] TF4_ok hnt fun K hK => ?_; refine hK _ _ ?_; clear hK K; refine dw_seq (dw_seq ?_)
  by_cases hd : d ≤ 0
  ·have hf : fewT most (.mk a b) d = most + 1 := by rw [fewT, if_pos hd]
   rw [hf]
   refine dwk [(10, .v (.bool true))] TF4_ok hnt fun K hK => ?_; refine And.intro (dtrue hd) ?_; refine hK _ _ ?_; clear hK K; refine dw_cond (t := true) rfl ?_; rw [if_pos rfl]; refine dw_seq ?_; refine dwk [(12, .v (.int .i64 (most + 1)))] TF4_ok hnt fun K hK => ?_; refine And.intro (dintE (IntWalk.i64_in _ (by omega))) ?_; refine hK _ _ ?_; clear hK K; refine dw_ret ?_
   exact retv (N := 0) (.inr rfl) rfl (VLe.refl _) trivial
  ·have hf : fewT most (.mk a b) d = fewTs most a (d - 1) 1 := by rw [fewT, if_neg hd]
   rw [hf]
   refine dwk [(10, .v (.bool false))] TF4_ok hnt fun K hK => ?_; refine And.intro (dfalse hd) ?_; refine hK _ _ ?_; clear hK K; refine dw_cond (t := false) rfl ?_; rw [if_neg (by simp)]; refine dw_skip ?_; refine dw_seq ?_; refine dwk [] TF4_ok hnt fun K hK => ?_; refine hK _ _ ?_; clear hK K; refine dw_seq (dw_seq ?_); refine dwk [] TF4_ok hnt fun K hK => ?_; refine hK _ _ ?_; clear hK K; refine dw_block ?_
   refine dw_loop (ι := { p : Nat × Int // fewTs most (a.drop p.1) (d - 1) p.2 = fewTs most a (d - 1) 1 ∧ (p.1 : Int) + 1 ≤ p.2 ∧ p.2 ≤ 2000000 ∧ p.1 ≤ a.length }) (fun p => [(.t 1, .v (.int .i64 most)), (.t 2, .v (.int .i64 d)), (.t 3, .p 0 0), (.t 7, .v (.int .i64 p.1.2)), (.t 8, .v (.int .i64 (p.1.1 : Int))), (.c 0 0, .sl 2 (eTys a) none), (.c 0 1, .v (.int .i64 b))]) 1 (fun p => a.length - p.1.1) ⟨(0, 1), by simp, by simp, by simp, by simp⟩ VS.toA fun p => ?_
   obtain ⟨⟨j, n⟩, hj1, hj2, hj3, hj4⟩ := p
   dsimp only at hj1 hj2 hj3 hj4 ⊢
   refine dw_seq (dw_seq ?_)
   by_cases hlt : j < a.length
   ·have hdr : a.drop j = a[j] :: a.drop (j + 1) := List.drop_eq_getElem_cons hlt
    rw [hdr, fewTs] at hj1
    by_cases hn : n ≤ most
    ·rw [if_pos hn] at hj1
     have hih := ih a[j] (List.getElem_mem hlt) (d - 1) (by omega) (by omega)
     rw [eTy_eq] at hih
     have hbd := fewT_le h1 1000 a[j] (d - 1) (by omega)
     have hbd2 : most * ((1000 : Nat) : Int) ≤ 1000000 := by
      have : most * ((1000 : Nat) : Int) = 1000 * most := by rw [Int.mul_comm]; rfl
      omega
     refine dwk [(17, .v (.bool true)), (21, .v (.bool true))] TF4_ok hnt fun K hK => ?_; refine And.intro (dtrue (by rw [eTys_len]; omega)) ?_; refine And.intro (dtrue hn) ?_; refine hK _ _ ?_; clear hK K; refine dw_cond (t := true) rfl ?_; rw [if_pos rfl]; refine dw_skip ?_; refine dw_seq (dw_block ?_); refine dwk [(29, .q [.sl 2 (eTys a[j].args) none, .v (.int .i64 a[j].base)]), (33, .v (.int .i64 (d - 1))), (35, .v (.int .i64 (n + fewT most a[j] (d - 1))))] TF4_ok hnt fun K hK => ?_
     refine And.intro (⟨by omega, by rw [eTys_len]; omega⟩) ?_; refine And.intro (VLe.of_eq (by rw [Int.toNat_natCast, eTys_getD a j hlt, eTy_eq])) ?_; refine And.intro (dintE (IntWalk.i64_in _ (by omega))) ?_; refine dcl (hih) ?_; refine And.intro (dintE (IntWalk.i64_in _ (by omega))) ?_; refine hK _ _ ?_; clear hK K; refine dwk [(24, .v (.int .i64 ((j + 1 : Nat) : Int)))] TF4_ok hnt fun K hK => ?_; refine And.intro (dintE (by rw [IntWalk.i64_in _ (by omega)]; omega)) ?_
     refine hK _ _ ?_; clear hK K
     exact ⟨⟨(j + 1, n + fewT most a[j] (d - 1)), hj1, by dsimp only; omega, by dsimp only; omega, hlt⟩, by dsimp only; omega, VS.toA⟩
    ·rw [if_neg hn] at hj1
     rw [← hj1]
     refine dwk [(17, .v (.bool true)), (21, .v (.bool false))] TF4_ok hnt fun K hK => ?_; refine And.intro (dtrue (by rw [eTys_len]; omega)) ?_; refine And.intro (dfalse hn) ?_; refine hK _ _ ?_; clear hK K; refine dw_cond (t := false) rfl ?_; rw [if_neg (by simp)]; refine dw_exit ?_; refine dw_seq ?_; refine dwk [] TF4_ok hnt fun K hK => ?_; refine hK _ _ ?_; clear hK K; refine dw_ret ?_
     exact retv (N := 0) (.inr rfl) rfl (VLe.refl _) trivial
   ·rw [List.drop_eq_nil_of_le (by omega), fewTs] at hj1
    rw [← hj1]
    refine dwk [(17, .v (.bool false))] TF4_ok hnt fun K hK => ?_; refine And.intro (dfalse (by rw [eTys_len]; omega)) ?_; refine hK _ _ ?_; clear hK K; refine dw_cond (t := false) rfl ?_; rw [if_neg (by simp)]; refine dw_exit ?_; refine dw_seq ?_; refine dwk [] TF4_ok hnt fun K hK => ?_; refine hK _ _ ?_; clear hK K; refine dw_ret ?_
    exact retv (N := 0) (.inr rfl) rfl (VLe.refl _) trivial
theorem fewTs_size {most : Int} : ∀ (l : List Ty) (d n : Int), (∀ t ∈ l, fewT most t d ≤ most → (t.size : Int) = fewT most t d) → (∀ t ∈ l, 1 ≤ fewT most t d) → 1 ≤ n → fewTs most l d n ≤ most → fewTs most l d n = n + Ty.sizes l
  | [], d, n, _, _, _, _ => by rw [fewTs]; simp [Ty.sizes]
  | t :: l, d, n, h, h1, hn, hf => by
    rw [fewTs] at hf ⊢
    split at hf
    · rename_i hm
      rw [if_pos hm]
      have h2 := h1 t (by simp)
      have h3 := fewTs_size l d _ (fun u hu => h u (by simp [hu])) (fun u hu => h1 u (by simp [hu])) (by omega) hf
      have h4 : fewT most t d ≤ most := by omega
      have h5 := h t (by simp) h4
      rw [h3, Ty.sizes]; omega
    · rename_i hm; omega
theorem fewT_size {most : Int} (hm : 1 ≤ most) : ∀ (k : Nat) (t : Ty) (d : Int), d ≤ k → fewT most t d ≤ most → (t.size : Int) = fewT most t d
  | 0, .mk a b, d, hd, h => by rw [fewT, if_pos (by omega)] at h; omega
  | k + 1, .mk a b, d, hd, h => by
    rw [fewT] at h ⊢
    split at h
    · omega
    · rename_i hp
      rw [if_neg hp]
      have := fewTs_size a (d - 1) 1 (fun t _ => fewT_size hm k t (d - 1) (by omega)) (fun t _ => (fewT_le hm k t (d - 1) (by omega)).1) (by omega) h
      rw [this, Ty.size_eq]; omega
theorem Few4_d (most : Int) (h1 : 1 ≤ most) (h2 : most ≤ 1000) (t : Ty) (d : Int) (h3 : -1000 ≤ d) (h4 : d ≤ 1000) : PureC Try.prog 85 [.ag (eTy t), .v (.int .i64 most), .v (.int .i64 d)] (.v (.bool (decide (fewT most t d ≤ most)))) := by
 have h := few4_d most h1 h2 t d h3 h4
 rw [eTy_eq] at h ⊢
 refine call_of_dw 0 13 [ResultVar.tmp 6] TF4_ok (by kernel_rfl) Try.func85 rfl Try.ntmps85 rfl (by simp) ?dwords ?dbody
 case dwords => simp [wordsOk, D.ok, D.oks, rnames, eTys_ok]
 case dbody =>
  intro cx hnt hn0
  refine dw_seq ?_; refine dwk [] TF4_ok hnt fun K hK => ?_; refine hK _ _ ?_; clear hK K; refine dw_seq ?_; refine dwk [] TF4_ok hnt fun K hK => ?_; refine dcl (h) ?_; refine hK _ _ ?_; clear hK K; refine dw_ret ?_
  exact retv (N := 0) (.inr rfl) rfl (VLe.refl _) trivial
set_option maxHeartbeats 1000000 in
theorem Size4_d : ∀ (t : Ty) (_ : t.size ≤ 1000000), PureC Try.prog 147 [.ag (eTy t)] (.v (.int .i64 (t.size : Int))) := by
 intro t
 induction t using Ty.ind with
 | h a b ih =>
 intro hsz
 have hsz2 := Ty.size_eq a b
 refine call_of_dw 0 21 [ResultVar.tmp 2] TF4_ok (by kernel_rfl) Try.func147 rfl Try.ntmps147 rfl (by simp) ?dwords ?dbody
 case dwords => simp [wordsOk, D.ok, D.oks, rnames, eTy_ok]
 case dbody =>
  intro cx hnt hn0
  refine dw_seq ?_; refine dwk [] TF4_ok hnt fun K hK => ?_; refine hK _ _ ?_; clear hK K; refine dw_seq ?_; refine dwk [] TF4_ok hnt fun K hK => ?_; refine hK _ _ ?_; clear hK K; refine dw_seq (dw_seq ?_); refine dwk [] TF4_ok hnt fun K hK => ?_; refine hK _ _ ?_; clear hK K; refine dw_block ?_
  refine dw_loop (ι := { j : Nat // j ≤ a.length }) (fun j => [(.t 1, .p 0 0), (.t 3, .v (.int .i64 ((Ty.sizes (a.take j.1) : Int) + 1))), (.t 4, .v (.int .i64 (j.1 : Int))), (.c 0 0, .sl 2 (eTys a) none), (.c 0 1, .v (.int .i64 b))]) 1 (fun j => a.length - j.1) ⟨0, Nat.zero_le _⟩ VS.toA fun j => ?_
  obtain ⟨j, hj⟩ := j
  dsimp only
  have hst := Ty.sizes_take_le a j
  have hst2 := Ty.sizes_take_le a (j + 1)
  have hla := Ty.le_sizes a
  refine dw_seq (dw_seq ?_)
  by_cases hlt : j < a.length
  ·have hih := ih a[j] (List.getElem_mem hlt) (by have := Ty.size_get (b := b) j hlt; omega)
   rw [eTy_eq] at hih
   have htk := Ty.sizes_take a j hlt
   refine dwk [(9, .v (.bool true))] TF4_ok hnt fun K hK => ?_; refine And.intro (dtrue (by rw [eTys_len]; omega)) ?_; refine hK _ _ ?_; clear hK K; refine dw_cond (t := true) rfl ?_; rw [if_pos rfl]; refine dw_skip ?_; refine dw_seq (dw_block ?_); refine dwk [(16, .q [.sl 2 (eTys a[j].args) none, .v (.int .i64 a[j].base)]), (19, .v (.int .i64 ((Ty.sizes (a.take (j + 1)) : Int) + 1)))] TF4_ok hnt fun K hK => ?_
   refine And.intro (⟨by omega, by rw [eTys_len]; omega⟩) ?_; refine And.intro (VLe.of_eq (by rw [Int.toNat_natCast, eTys_getD a j hlt, eTy_eq])) ?_; refine dcl (hih) ?_; refine And.intro (dintE (by rw [IntWalk.i64_in _ (by omega), htk]; omega)) ?_; refine hK _ _ ?_; clear hK K; refine dwk [(11, .v (.int .i64 ((j + 1 : Nat) : Int)))] TF4_ok hnt fun K hK => ?_; refine And.intro (dintE (by rw [IntWalk.i64_in _ (by omega)]; omega)) ?_
   refine hK _ _ ?_; clear hK K
   exact ⟨⟨j + 1, hlt⟩, by dsimp only; omega, VS.toA⟩
  ·skip
   refine dwk [(9, .v (.bool false))] TF4_ok hnt fun K hK => ?_; refine And.intro (dfalse (by rw [eTys_len]; omega)) ?_; refine hK _ _ ?_; clear hK K; refine dw_cond (t := false) rfl ?_; rw [if_neg (by simp)]; refine dw_exit ?_; refine dw_seq ?_
   have hsz3 : ((Ty.mk a b).size : Int) = (Ty.sizes (a.take j) : Int) + 1 := by rw [List.take_of_length_le (by omega), hsz2]; omega
   rw [hsz3]
   refine dwk [] TF4_ok hnt fun K hK => ?_; refine hK _ _ ?_; clear hK K; refine dw_ret ?_
   exact retv (N := 0) (.inr rfl) rfl (VLe.refl _) trivial
end Go.Proofs.Ytdmiekaeodcehaa

namespace Go.Proofs.Ytdmiekaeodcehaa
open Go.RowKit
def TF6_3 : TI := ⟨1, false, [Value.int IntKind.i64 0], [], none, 8, 2, none, false⟩
theorem TF6_3_ok : TypOk Try.prog 3 TF6_3 := ⟨by kernel_rfl, by kernel_rfl, by kernel_rfl, by kernel_rfl, by kernel_rfl⟩
def TF6_27 : TI := ⟨4, true, [Value.slice none 0 0, Value.int IntKind.i64 0, Value.int IntKind.i64 0, Value.slice none 0 0], [(0, 1, false), (1, 2, true), (3, 1, false)], none, 64, 6, none, false⟩
theorem TF6_27_ok : TypOk Try.prog 27 TF6_27 := ⟨by kernel_rfl, by kernel_rfl, by kernel_rfl, by kernel_rfl, by kernel_rfl⟩
def TF6_22 : TI := ⟨1, false, [Value.slice none 0 0], [], some 146, 24, 5, none, false⟩
theorem TF6_22_ok : TypOk Try.prog 22 TF6_22 := ⟨by kernel_rfl, by kernel_rfl, by kernel_rfl, by kernel_rfl, by kernel_rfl⟩
def TF6_25 : TI := ⟨1, false, [Value.slice none 0 0], [], some 27, 24, 5, none, false⟩
theorem TF6_25_ok : TypOk Try.prog 25 TF6_25 := ⟨by kernel_rfl, by kernel_rfl, by kernel_rfl, by kernel_rfl, by kernel_rfl⟩
def TF6_146 : TI := ⟨2, true, [Value.slice none 0 0, Value.int IntKind.i64 0], [(0, 1, false), (1, 1, false)], none, 32, 6, none, false⟩
theorem TF6_146_ok : TypOk Try.prog 146 TF6_146 := ⟨by kernel_rfl, by kernel_rfl, by kernel_rfl, by kernel_rfl, by kernel_rfl⟩
def TF6 : List (Nat × TI) := [(3, TF6_3), (27, TF6_27), (22, TF6_22), (25, TF6_25), (146, TF6_146)]
theorem TF6_ok : TabOk Try.prog TF6 := ((((((TabOk.nil _).cons TF6_146_ok).cons TF6_25_ok).cons TF6_22_ok).cons TF6_27_ok).cons TF6_3_ok)

def fewB1 (most d : Int) : List Ty → Int → Option Int
  | [], n => some n
  | t :: l, n => if n ≤ most then (if fewT most t d ≤ most then fewB1 most d l (n + t.size) else none) else some n
mutual
def fewM (most : Int) : Tm → Int → Int
  | .mk bs _ _ a, d => if d ≤ 0 then most + 1 else match fewB1 most d bs 1 with
    | none => most + 1
    | some n => fewMs most a (d - 1) n
def fewMs (most : Int) : List Tm → Int → Int → Int
  | [], _, n => n
  | t :: l, d, n => if n ≤ most then fewMs most l d (n + fewM most t d) else n
end
theorem fewB1_le {most d : Int} (hm : 1 ≤ most) (hd : d ≤ 1000) : ∀ (l : List Ty) (n : Int), 1 ≤ n → n ≤ 2 * most → ∀ r, fewB1 most d l n = some r → 1 ≤ r ∧ r ≤ 2 * most
  | [], n, h0, h1, r, h => by rw [fewB1] at h; cases h; exact ⟨h0, h1⟩
  | t :: l, n, h0, h1, r, h => by
    rw [fewB1] at h
    split at h
    · split at h
      · rename_i h2
        have := fewT_size hm 1000 t d hd h2
        have := (fewT_le hm 1000 t d hd).1
        exact fewB1_le hm hd l _ (by omega) (by omega) r h
      · cases h
    · cases h; exact ⟨h0, h1⟩
theorem fewMs_le {most : Int} (hm : 1 ≤ most) {B : Int} (hB : most ≤ B) : ∀ (l : List Tm) (d n : Int), (∀ t ∈ l, 1 ≤ fewM most t d ∧ fewM most t d ≤ B) → 1 ≤ n → n ≤ most + B → 1 ≤ fewMs most l d n ∧ fewMs most l d n ≤ most + B
  | [], d, n, _, h0, h1 => by rw [fewMs]; exact ⟨h0, h1⟩
  | t :: l, d, n, h, h0, h1 => by
    rw [fewMs]
    split
    · have := h t (by simp)
      exact fewMs_le hm hB l d _ (fun u hu => h u (by simp [hu])) (by omega) (by omega)
    · exact ⟨h0, h1⟩
theorem fewM_le {most : Int} (hm : 1 ≤ most) : ∀ (k : Nat) (t : Tm) (d : Int), k ≤ 1000 → d ≤ k → 1 ≤ fewM most t d ∧ fewM most t d ≤ most * k + most + 1
  | 0, .mk bs kd i a, d, hk, hd => by
    rw [fewM, if_pos (by omega)]
    have e : most * ((0 : Nat) : Int) = 0 := Int.mul_zero _
    rw [e]; omega
  | k + 1, .mk bs kd i a, d, hk, hd => by
    rw [fewM]
    have e : most * ((k + 1 : Nat) : Int) = most * (k : Int) + most := by rw [Int.natCast_add, Int.mul_add]; simp
    have h0 : 0 ≤ most * (k : Int) := Int.mul_nonneg (by omega) (by omega)
    rw [e]
    split
    · omega
    · cases hb : fewB1 most d bs 1 with
      | none => dsimp only; omega
      | some n =>
        have hn := fewB1_le hm (by omega) bs 1 (by omega) (by omega) n hb
        have := fewMs_le hm (B := most * k + most + 1) (by omega) a (d - 1) n (fun t _ => fewM_le hm k t (d - 1) (by omega) (by omega)) hn.1 (by omega)
        dsimp only
        omega
set_option maxHeartbeats 4000000 in
theorem few6_d (most : Int) (h1 : 1 ≤ most) (h2 : most ≤ 1000) : ∀ (t : Tm) (d : Int), -1000 ≤ d → d ≤ 1000 → PureC Try.prog 103 [.ag (eTm t), .v (.int .i64 most), .v (.int .i64 d)] (.v (.int .i64 (fewM most t d))) := by
 intro t
 induction t using Tm.ind with
 | h bs k i a ih =>
 intro d hd1 hd2
 obtain ⟨V, hV⟩ : ∃ V, fewM most (.mk bs k i a) d = V := ⟨_, rfl⟩
 rw [hV]
 rw [fewM] at hV
 refine call_of_dw 0 69 [ResultVar.tmp 6] TF6_ok (by kernel_rfl) Try.func103 rfl Try.ntmps103 rfl (by simp) ?dwords ?dbody
 case dwords => simp [wordsOk, D.ok, D.oks, rnames, eTm_ok]
 case dbody =>
  intro cx hnt hn0
  refine dw_seq ?_; refine dwk [] TF6_ok hnt fun K hK => ?_; refine hK _ _ ?_; clear hK K; refine dw_seq (dw_seq ?_)
  by_cases hd : d ≤ 0
  ·rw [if_pos hd] at hV
   subst hV
   refine dwk [(11, .v (.bool true))] TF6_ok hnt fun K hK => ?_; refine And.intro (dtrue hd) ?_; refine hK _ _ ?_; clear hK K; refine dw_cond (t := true) rfl ?_; rw [if_pos rfl]; refine dw_seq ?_; refine dwk [(13, .v (.int .i64 (most + 1)))] TF6_ok hnt fun K hK => ?_; refine And.intro (dintE (IntWalk.i64_in _ (by omega))) ?_; refine hK _ _ ?_; clear hK K; refine dw_ret ?_
   exact retv (N := 0) (.inr rfl) rfl (VLe.refl _) trivial
  ·rw [if_neg hd] at hV; refine dwk [(11, .v (.bool false))] TF6_ok hnt fun K hK => ?_; refine And.intro (dfalse hd) ?_; refine hK _ _ ?_; clear hK K; refine dw_cond (t := false) rfl ?_; rw [if_neg (by simp)]; refine dw_skip ?_; refine dw_seq ?_; refine dwk [] TF6_ok hnt fun K hK => ?_; refine hK _ _ ?_; clear hK K
   refine dw_cutE (ι := { n : Int // 1 ≤ n ∧ n ≤ 2 * most ∧ V = fewMs most a (d - 1) n }) (fun n => [(.t 1, .v (.int .i64 most)), (.t 2, .v (.int .i64 d)), (.t 3, .p 0 0), (.t 7, .v (.int .i64 n.1)), (.c 0 0, .sl 2 (eTys bs) none), (.c 0 1, .v (.int .i64 k)), (.c 0 2, .v (.int .i64 i)), (.c 0 3, .sl 4 (eTms a) none)]) 1 ?_ fun n => ?_
   ·refine dw_seq ?_; refine dwk [] TF6_ok hnt fun K hK => ?_; refine hK _ _ ?_; clear hK K; refine dw_block ?_
    refine dw_loop (ι := { p : Nat × Int // fewB1 most d (bs.drop p.1) p.2 = fewB1 most d bs 1 ∧ (p.1 : Int) + 1 ≤ p.2 ∧ p.2 ≤ 2 * most ∧ p.1 ≤ bs.length }) (fun p => [(.t 1, .v (.int .i64 most)), (.t 2, .v (.int .i64 d)), (.t 3, .p 0 0), (.t 7, .v (.int .i64 p.1.2)), (.t 8, .v (.int .i64 (p.1.1 : Int))), (.c 0 0, .sl 2 (eTys bs) none), (.c 0 1, .v (.int .i64 k)), (.c 0 2, .v (.int .i64 i)), (.c 0 3, .sl 4 (eTms a) none)]) 1 (fun p => bs.length - p.1.1) ⟨(0, 1), by simp, by simp, by dsimp only; omega, by simp⟩ VS.toA fun p => ?_
    obtain ⟨⟨j, n⟩, hj1, hj2, hj3, hj4⟩ := p
    dsimp only at hj1 hj2 hj3 hj4 ⊢
    refine dw_seq (dw_seq ?_)
    by_cases hlt : j < bs.length
    ·have hdr : bs.drop j = bs[j] :: bs.drop (j + 1) := List.drop_eq_getElem_cons hlt
     rw [hdr, fewB1] at hj1
     by_cases hn : n ≤ most
     ·rw [if_pos hn] at hj1
      have hF := Few4_d most h1 h2 bs[j] d hd1 hd2
      rw [eTy_eq] at hF
      have hq : (eTys bs).getD (j : Int).toNat [] = [.sl 2 (eTys bs[j].args) none, .v (.int .i64 bs[j].base)] := by rw [Int.toNat_natCast, eTys_getD bs j hlt, eTy_eq]
      have hb : (0 : Int) ≤ (j : Int) ∧ (j : Int) < ((eTys bs).length : Int) := ⟨by omega, by rw [eTys_len]; omega⟩
      refine dwk [(18, .v (.bool true)), (22, .v (.bool true))] TF6_ok hnt fun K hK => ?_; refine And.intro (dtrue (by rw [eTys_len]; omega)) ?_; refine And.intro (dtrue hn) ?_; refine hK _ _ ?_; clear hK K; refine dw_cond (t := true) rfl ?_; rw [if_pos rfl]; refine dw_skip ?_; refine dw_seq (dw_block ?_); refine dw_seq (dw_seq ?_)
      by_cases hff : fewT most bs[j] d ≤ most
      ·rw [if_pos hff] at hj1
       rw [decide_eq_true hff] at hF
       have hs1 := fewT_size h1 1000 bs[j] d (by omega) hff
       have hs2 := (fewT_le h1 1000 bs[j] d (by omega)).1
       have hS := Size4_d bs[j] (by omega)
       rw [eTy_eq] at hS
       refine dwk [(29, .q [.sl 2 (eTys bs[j].args) none, .v (.int .i64 bs[j].base)])] TF6_ok hnt fun K hK => ?_; refine And.intro (hb) ?_; refine And.intro (VLe.of_eq (by rw [hq])) ?_; refine dcl (hF) ?_; refine hK _ _ ?_; clear hK K; refine dw_cond (t := false) rfl ?_; rw [if_neg (by simp)]; refine dw_skip ?_; refine dwk [(41, .q [.sl 2 (eTys bs[j].args) none, .v (.int .i64 bs[j].base)]), (44, .v (.int .i64 (n + (bs[j].size : Int))))] TF6_ok hnt fun K hK => ?_
       refine And.intro (hb) ?_; refine And.intro (VLe.of_eq (by rw [hq])) ?_; refine dcl (hS) ?_; refine And.intro (dintE (IntWalk.i64_in _ (by omega))) ?_; refine hK _ _ ?_; clear hK K; refine dwk [(25, .v (.int .i64 ((j + 1 : Nat) : Int)))] TF6_ok hnt fun K hK => ?_; refine And.intro (dintE (by rw [IntWalk.i64_in _ (by omega)]; omega)) ?_; refine hK _ _ ?_; clear hK K
       exact ⟨⟨(j + 1, n + (bs[j].size : Int)), hj1, by dsimp only; omega, by dsimp only; omega, hlt⟩, by dsimp only; omega, VS.toA⟩
      ·rw [if_neg hff] at hj1
       rw [decide_eq_false hff] at hF
       rw [← hj1] at hV
       dsimp only at hV
       subst hV
       refine dwk [(29, .q [.sl 2 (eTys bs[j].args) none, .v (.int .i64 bs[j].base)])] TF6_ok hnt fun K hK => ?_; refine And.intro (hb) ?_; refine And.intro (VLe.of_eq (by rw [hq])) ?_; refine dcl (hF) ?_; refine hK _ _ ?_; clear hK K; refine dw_cond (t := true) rfl ?_; rw [if_pos rfl]; refine dw_seq ?_; refine dwk [(36, .v (.int .i64 (most + 1)))] TF6_ok hnt fun K hK => ?_; refine And.intro (dintE (IntWalk.i64_in _ (by omega))) ?_
       refine hK _ _ ?_; clear hK K; refine dw_ret ?_
       exact retv (N := 0) (.inr rfl) rfl (VLe.refl _) trivial
     ·rw [if_neg hn] at hj1
      rw [← hj1] at hV
      dsimp only at hV
      refine dwk [(18, .v (.bool true)), (22, .v (.bool false))] TF6_ok hnt fun K hK => ?_; refine And.intro (dtrue (by rw [eTys_len]; omega)) ?_; refine And.intro (dfalse hn) ?_; refine hK _ _ ?_; clear hK K; refine dw_cond (t := false) rfl ?_; rw [if_neg (by simp)]; refine dw_exit ?_
      exact cutE_ok (Q := RetOk TF6 [ResultVar.tmp 6] (.v (.int .i64 V)) []) ⟨n, by omega, hj3, hV.symm⟩ VS.toA
    ·rw [List.drop_eq_nil_of_le (by omega), fewB1] at hj1
     rw [← hj1] at hV
     dsimp only at hV
     refine dwk [(18, .v (.bool false))] TF6_ok hnt fun K hK => ?_; refine And.intro (dfalse (by rw [eTys_len]; omega)) ?_; refine hK _ _ ?_; clear hK K; refine dw_cond (t := false) rfl ?_; rw [if_neg (by simp)]; refine dw_exit ?_
     exact cutE_ok (Q := RetOk TF6 [ResultVar.tmp 6] (.v (.int .i64 V)) []) ⟨n, by omega, hj3, hV.symm⟩ VS.toA
   ·obtain ⟨n0, hn1, hn2, hVn⟩ := n
    dsimp only
    rw [hVn]
    refine dw_seq (dw_seq ?_); refine dwk [] TF6_ok hnt fun K hK => ?_; refine hK _ _ ?_; clear hK K; refine dw_block ?_
    refine dw_loop (ι := { p : Nat × Int // fewMs most (a.drop p.1) (d - 1) p.2 = fewMs most a (d - 1) n0 ∧ (p.1 : Int) + 1 ≤ p.2 ∧ p.2 ≤ 2000000 ∧ p.1 ≤ a.length }) (fun p => [(.t 1, .v (.int .i64 most)), (.t 2, .v (.int .i64 d)), (.t 3, .p 0 0), (.t 7, .v (.int .i64 p.1.2)), (.t 9, .v (.int .i64 (p.1.1 : Int))), (.c 0 0, .sl 2 (eTys bs) none), (.c 0 1, .v (.int .i64 k)), (.c 0 2, .v (.int .i64 i)), (.c 0 3, .sl 4 (eTms a) none)]) 1 (fun p => a.length - p.1.1) ⟨(0, n0), by simp, by dsimp only; omega, by dsimp only; omega, by simp⟩ VS.toA fun p => ?_
    obtain ⟨⟨j, n⟩, hj1, hj2, hj3, hj4⟩ := p
    dsimp only at hj1 hj2 hj3 hj4 ⊢
    refine dw_seq (dw_seq ?_)
    by_cases hlt : j < a.length
    ·have hdr : a.drop j = a[j] :: a.drop (j + 1) := List.drop_eq_getElem_cons hlt
     rw [hdr, fewMs] at hj1
     by_cases hn : n ≤ most
     ·rw [if_pos hn] at hj1
      have hih := ih a[j] (List.getElem_mem hlt) (d - 1) (by omega) (by omega)
      rw [eTm_eq] at hih
      have hbd := fewM_le h1 1000 a[j] (d - 1) (by omega) (by omega)
      have hbd2 : most * ((1000 : Nat) : Int) ≤ 1000000 := by
       have : most * ((1000 : Nat) : Int) = 1000 * most := by rw [Int.mul_comm]; rfl
       omega
      refine dwk [(49, .v (.bool true)), (53, .v (.bool true))] TF6_ok hnt fun K hK => ?_; refine And.intro (dtrue (by rw [eTms_len]; omega)) ?_; refine And.intro (dtrue hn) ?_; refine hK _ _ ?_; clear hK K; refine dw_cond (t := true) rfl ?_; rw [if_pos rfl]; refine dw_skip ?_; refine dw_seq (dw_block ?_); refine dwk [(61, .q [.sl 2 (eTys a[j].binds) none, .v (.int .i64 a[j].kind), .v (.int .i64 a[j].index), .sl 4 (eTms a[j].args) none]), (65, .v (.int .i64 (d - 1))), (67, .v (.int .i64 (n + fewM most a[j] (d - 1))))] TF6_ok hnt fun K hK => ?_
      refine And.intro (⟨by omega, by rw [eTms_len]; omega⟩) ?_; refine And.intro (VLe.of_eq (by rw [Int.toNat_natCast, eTms_getD a j hlt, eTm_eq])) ?_; refine And.intro (dintE (IntWalk.i64_in _ (by omega))) ?_; refine dcl (hih) ?_; refine And.intro (dintE (IntWalk.i64_in _ (by omega))) ?_; refine hK _ _ ?_; clear hK K; refine dwk [(56, .v (.int .i64 ((j + 1 : Nat) : Int)))] TF6_ok hnt fun K hK => ?_; refine And.intro (dintE (by rw [IntWalk.i64_in _ (by omega)]; omega)) ?_
      refine hK _ _ ?_; clear hK K
      exact ⟨⟨(j + 1, n + fewM most a[j] (d - 1)), hj1, by dsimp only; omega, by dsimp only; omega, hlt⟩, by dsimp only; omega, VS.toA⟩
     ·rw [if_neg hn] at hj1
      rw [← hj1]
      refine dwk [(49, .v (.bool true)), (53, .v (.bool false))] TF6_ok hnt fun K hK => ?_; refine And.intro (dtrue (by rw [eTms_len]; omega)) ?_; refine And.intro (dfalse hn) ?_; refine hK _ _ ?_; clear hK K; refine dw_cond (t := false) rfl ?_; rw [if_neg (by simp)]; refine dw_exit ?_; refine dw_seq ?_; refine dwk [] TF6_ok hnt fun K hK => ?_; refine hK _ _ ?_; clear hK K; refine dw_ret ?_
      exact retv (N := 0) (.inr rfl) rfl (VLe.refl _) trivial
    ·rw [List.drop_eq_nil_of_le (by omega), fewMs] at hj1
     rw [← hj1]
     refine dwk [(49, .v (.bool false))] TF6_ok hnt fun K hK => ?_; refine And.intro (dfalse (by rw [eTms_len]; omega)) ?_; refine hK _ _ ?_; clear hK K; refine dw_cond (t := false) rfl ?_; rw [if_neg (by simp)]; refine dw_exit ?_; refine dw_seq ?_; refine dwk [] TF6_ok hnt fun K hK => ?_; refine hK _ _ ?_; clear hK K; refine dw_ret ?_
     exact retv (N := 0) (.inr rfl) rfl (VLe.refl _) trivial
theorem Few6_d (most : Int) (h1 : 1 ≤ most) (h2 : most ≤ 1000) (t : Tm) (d : Int) (h3 : -1000 ≤ d) (h4 : d ≤ 1000) : PureC Try.prog 53 [.ag (eTm t), .v (.int .i64 most), .v (.int .i64 d)] (.v (.bool (decide (fewM most t d ≤ most)))) := by
 have h := few6_d most h1 h2 t d h3 h4
 rw [eTm_eq] at h ⊢
 refine call_of_dw 0 13 [ResultVar.tmp 6] TF6_ok (by kernel_rfl) Try.func53 rfl Try.ntmps53 rfl (by simp) ?dwords ?dbody
 case dwords => simp [wordsOk, D.ok, D.oks, rnames, eTys_ok, eTms_ok]
 case dbody =>
  intro cx hnt hn0
  refine dw_seq ?_; refine dwk [] TF6_ok hnt fun K hK => ?_; refine hK _ _ ?_; clear hK K; refine dw_seq ?_; refine dwk [] TF6_ok hnt fun K hK => ?_; refine dcl (h) ?_; refine hK _ _ ?_; clear hK K; refine dw_ret ?_
  exact retv (N := 0) (.inr rfl) rfl (VLe.refl _) trivial
def fewB (t : Tm) : Bool := decide (fewM 150 t 70 ≤ 150)
set_option maxHeartbeats 1000000 in
theorem lawFew_d (l : List Tm) (hl : l.length ≤ 1000000) : PureC Try.prog 10 [.sl 4 (eTms l) none] (.v (.bool (l.all fewB))) := by
 refine call_of_dw 0 16 [ResultVar.tmp 2] TF6_ok (by kernel_rfl) Try.func10 rfl Try.ntmps10 rfl (by simp) ?dwords ?dbody
 case dwords => simp [wordsOk, D.ok, D.oks, rnames, eTms_ok]
 case dbody =>
  intro cx hnt hn0
  refine dw_seq ?_; refine dwk [] TF6_ok hnt fun K hK => ?_; refine hK _ _ ?_; clear hK K; refine dw_seq (dw_seq ?_); refine dwk [] TF6_ok hnt fun K hK => ?_; refine hK _ _ ?_; clear hK K; refine dw_block ?_
  refine dw_loop (ι := { j : Nat // ∀ i (h : i < l.length), i < j → fewB l[i] = true }) (fun j => [(.t 0, .sl 4 (eTms l) none), (.t 3, .v (.int .i64 (j.1 : Int)))]) 1 (fun j => l.length - j.1) ⟨0, fun i h1 h2 => by omega⟩ VS.toA fun j => ?_
  obtain ⟨j, hj⟩ := j
  dsimp only
  refine dw_seq (dw_seq ?_)
  by_cases hlt : j < l.length
  ·have hi := Few6_d 150 (by decide) (by decide) l[j] 70 (by decide) (by decide)
   rw [eTm_eq] at hi
   have hq : (eTms l).getD (j : Int).toNat [] = [.sl 2 (eTys l[j].binds) none, .v (.int .i64 l[j].kind), .v (.int .i64 l[j].index), .sl 4 (eTms l[j].args) none] := by rw [Int.toNat_natCast, eTms_getD l j hlt, eTm_eq]
   have hb : (0 : Int) ≤ (j : Int) ∧ (j : Int) < ((eTms l).length : Int) := ⟨by omega, by rw [eTms_len]; omega⟩
   refine dwk [(7, .v (.bool true))] TF6_ok hnt fun K hK => ?_; refine And.intro (dtrue (by rw [eTms_len]; omega)) ?_; refine hK _ _ ?_; clear hK K; refine dw_cond (t := true) rfl ?_; rw [if_pos rfl]; refine dw_skip ?_; refine dw_seq (dw_block (dw_seq ?_))
   cases hf : fewB l[j] with
   | true =>
    have hf2 := hf
    unfold fewB at hf2
    rw [hf2] at hi
    refine dwk [(12, .q [.sl 2 (eTys l[j].binds) none, .v (.int .i64 l[j].kind), .v (.int .i64 l[j].index), .sl 4 (eTms l[j].args) none])] TF6_ok hnt fun K hK => ?_; refine And.intro (hb) ?_; refine And.intro (VLe.of_eq (by rw [hq])) ?_; refine dcl (hi) ?_; refine hK _ _ ?_; clear hK K; refine dw_cond (t := false) rfl ?_; rw [if_neg (by simp)]; refine dw_skip ?_; refine dwk [(9, .v (.int .i64 ((j + 1 : Nat) : Int)))] TF6_ok hnt fun K hK => ?_
    refine And.intro (dintE (by rw [IntWalk.i64_in _ (by omega)]; omega)) ?_; refine hK _ _ ?_; clear hK K
    refine ⟨⟨j + 1, fun i h1 h2 => ?_⟩, by dsimp only; omega, VS.toA⟩
    by_cases he : i = j
    ·subst he; exact hf
    ·exact hj i h1 (by omega)
   | false =>
    have hf2 := hf
    unfold fewB at hf2
    rw [hf2] at hi
    have ha : l.all fewB = false := by rw [List.all_eq_false]; exact ⟨l[j], List.getElem_mem hlt, by rw [hf]; simp⟩
    rw [ha]
    refine dwk [(12, .q [.sl 2 (eTys l[j].binds) none, .v (.int .i64 l[j].kind), .v (.int .i64 l[j].index), .sl 4 (eTms l[j].args) none])] TF6_ok hnt fun K hK => ?_; refine And.intro (hb) ?_; refine And.intro (VLe.of_eq (by rw [hq])) ?_; refine dcl (hi) ?_; refine hK _ _ ?_; clear hK K; refine dw_cond (t := true) rfl ?_; rw [if_pos rfl]; refine dw_seq ?_; refine dwk [] TF6_ok hnt fun K hK => ?_; refine hK _ _ ?_; clear hK K
    refine dw_ret ?_
    exact retv (N := 0) (.inr rfl) rfl (VLe.refl _) trivial
  ·have ha : l.all fewB = true := by
    rw [List.all_eq_true]
    intro t ht
    obtain ⟨i, hi, rfl⟩ := List.getElem_of_mem ht
    exact hj i hi (by omega)
   rw [ha]
   refine dwk [(7, .v (.bool false))] TF6_ok hnt fun K hK => ?_; refine And.intro (dfalse (by rw [eTms_len]; omega)) ?_; refine hK _ _ ?_; clear hK K; refine dw_cond (t := false) rfl ?_; rw [if_neg (by simp)]; refine dw_exit ?_; refine dw_seq ?_; refine dwk [] TF6_ok hnt fun K hK => ?_; refine hK _ _ ?_; clear hK K; refine dw_ret ?_
   exact retv (N := 0) (.inr rfl) rfl (VLe.refl _) trivial
end Go.Proofs.Ytdmiekaeodcehaa

namespace Go.Proofs.Ytdmiekaeodcehaa
open Go.RowKit

theorem fewB1_full {most d : Int} (hm : 1 ≤ most) (hd : d ≤ 1000) : ∀ (l : List Ty) (n r : Int), fewB1 most d l n = some r → r ≤ most → r = n + Ty.sizes l
  | [], n, r, h, _ => by rw [fewB1] at h; cases h; simp [Ty.sizes]
  | t :: l, n, r, h, hr => by
    rw [fewB1] at h
    split at h
    · split at h
      · have := fewB1_full hm hd l _ r h hr
        rw [this, Ty.sizes]; omega
      · cases h
    · cases h; omega
theorem fewMs_full {most : Int} : ∀ (l : List Tm) (d n : Int), (∀ t ∈ l, fewM most t d ≤ most → (t.full : Int) = fewM most t d ∧ (t.depth : Int) ≤ d) → (∀ t ∈ l, 1 ≤ fewM most t d) → 1 ≤ n → fewMs most l d n ≤ most → fewMs most l d n = n + Tm.fulls l ∧ (∀ t ∈ l, (t.depth : Int) ≤ d) ∧ n ≤ most
  | [], d, n, _, _, _, h => by rw [fewMs] at h ⊢; exact ⟨by simp [Tm.fulls], nofun, h⟩
  | t :: l, d, n, h, h1, hn, hf => by
    rw [fewMs] at hf ⊢
    split at hf
    · rename_i hm
      rw [if_pos hm]
      have h2 := h1 t (by simp)
      obtain ⟨h3, h4, h5⟩ := fewMs_full l d _ (fun u hu => h u (by simp [hu])) (fun u hu => h1 u (by simp [hu])) (by omega) hf
      obtain ⟨h6, h7⟩ := h t (by simp) (by omega)
      refine ⟨by rw [h3, Tm.fulls]; omega, fun u hu => ?_, hm⟩
      rcases List.mem_cons.1 hu with rfl | hu
      · exact h7
      · exact h4 u hu
    · rename_i hm; omega
theorem depths_max {d : Int} (hd : 0 ≤ d) : ∀ (l : List Tm), (∀ t ∈ l, (t.depth : Int) ≤ d) → (Tm.depths l : Int) ≤ d
  | [], _ => by simp [Tm.depths]; exact hd
  | t :: l, h => by
    have h1 := h t (by simp)
    have h2 := depths_max hd l fun u hu => h u (by simp [hu])
    simp only [Tm.depths]; omega
theorem fewM_full {most : Int} (hm : 1 ≤ most) : ∀ (k : Nat) (t : Tm) (d : Int), k ≤ 1000 → d ≤ k → fewM most t d ≤ most → (t.full : Int) = fewM most t d ∧ (t.depth : Int) ≤ d
  | 0, .mk bs kd i a, d, hk, hd, h => by rw [fewM, if_pos (by omega)] at h; omega
  | k + 1, .mk bs kd i a, d, hk, hd, h => by
    rw [fewM] at h ⊢
    split at h
    · omega
    · rename_i hp
      rw [if_neg hp]
      cases hb : fewB1 most d bs 1 with
      | none => rw [hb] at h; dsimp only at h; omega
      | some n =>
        rw [hb] at h
        dsimp only at h ⊢
        have hn := fewB1_le hm (by omega) bs 1 (by omega) (by omega) n hb
        obtain ⟨h3, h4, h5⟩ := fewMs_full a (d - 1) n (fun t _ => fewM_full hm k t (d - 1) (by omega) (by omega)) (fun t _ => (fewM_le hm k t (d - 1) (by omega) (by omega)).1) hn.1 h
        have h6 := fewB1_full hm (by omega) bs 1 n hb h5
        have h7 := depths_max (by omega) a h4
        rw [Tm.full_eq, Tm.depth_eq]
        constructor
        · omega
        · omega
theorem fewB_full {t : Tm} (h : fewB t = true) : t.full ≤ 150 ∧ t.depth ≤ 70 := by
  unfold fewB at h
  rw [decide_eq_true_eq] at h
  obtain ⟨h1, h2⟩ := fewM_full (by decide) 1000 t 70 (by decide) (by decide) h
  omega
end Go.Proofs.Ytdmiekaeodcehaa

namespace Go.Proofs.Ytdmiekaeodcehaa
open Go.RowKit
def TS9_22 : TI := ⟨1, false, [Value.slice none 0 0], [], some 146, 24, 5, none, false⟩
theorem TS9_22_ok : TypOk Try.prog 22 TS9_22 := ⟨by kernel_rfl, by kernel_rfl, by kernel_rfl, by kernel_rfl, by kernel_rfl⟩
def TS9_3 : TI := ⟨1, false, [Value.int IntKind.i64 0], [], none, 8, 2, none, false⟩
theorem TS9_3_ok : TypOk Try.prog 3 TS9_3 := ⟨by kernel_rfl, by kernel_rfl, by kernel_rfl, by kernel_rfl, by kernel_rfl⟩
def TS9_75 : TI := ⟨3, true, [Value.int IntKind.i64 0, Value.slice none 0 0, Value.slice none 0 0], [(0, 1, false), (1, 1, false), (2, 1, false)], none, 56, 6, none, false⟩
theorem TS9_75_ok : TypOk Try.prog 75 TS9_75 := ⟨by kernel_rfl, by kernel_rfl, by kernel_rfl, by kernel_rfl, by kernel_rfl⟩
def TS9_146 : TI := ⟨2, true, [Value.slice none 0 0, Value.int IntKind.i64 0], [(0, 1, false), (1, 1, false)], none, 32, 6, none, false⟩
theorem TS9_146_ok : TypOk Try.prog 146 TS9_146 := ⟨by kernel_rfl, by kernel_rfl, by kernel_rfl, by kernel_rfl, by kernel_rfl⟩
def TS9 : List (Nat × TI) := [(22, TS9_22), (3, TS9_3), (75, TS9_75), (146, TS9_146)]
theorem TS9_ok : TabOk Try.prog TS9 := (((((TabOk.nil _).cons TS9_146_ok).cons TS9_75_ok).cons TS9_3_ok).cons TS9_22_ok)
def few4B (t : Ty) : Bool := decide (fewT 60 t 60 ≤ 60)
theorem fewT60 {t : Ty} (h : few4B t = true) : t.size ≤ 60 := by
  unfold few4B at h
  rw [decide_eq_true_eq] at h
  have := fewT_size (by decide) 1000 t 60 (by decide) h
  omega
set_option maxHeartbeats 1000000 in
theorem small_d (b : Int) (C M X : List Ty) (h1 : C.length ≤ 20) (h2 : M.length ≤ 20) (h3 : X.length ≤ 20) : PureC Try.prog 34 [.ag [.v (.int .i64 b), .sl 2 (eTys C) none, .sl 2 (eTys M) none], .sl 2 (eTys X) none] (.v (.bool (((C ++ M) ++ X).all few4B))) := by
 have hB := rbehind_d C M (by omega)
 have hB2 := rbehind_d (C ++ M) X (by simp; omega)
 obtain ⟨l, hl⟩ : ∃ l, (C ++ M) ++ X = l := ⟨_, rfl⟩
 rw [hl] at hB2 ⊢
 have hll : l.length ≤ 60 := by rw [← hl]; simp; omega
 refine call_of_dw 0 41 [ResultVar.tmp 4] TS9_ok (by kernel_rfl) Try.func34 rfl Try.ntmps34 rfl (by simp) ?dwords ?dbody
 case dwords => simp [wordsOk, D.ok, D.oks, rnames, eTys_ok]
 case dbody =>
  intro cx hnt hn0
  refine dw_seq ?_; refine dwk [] TS9_ok hnt fun K hK => ?_; refine hK _ _ ?_; clear hK K; refine dw_seq (dw_seq ?_); refine dwk [(10, .v (.bool false)), (15, .v (.bool false)), (20, .v (.bool false))] TS9_ok hnt fun K hK => ?_; refine And.intro (dfalse (by rw [eTys_len]; omega)) ?_; refine And.intro (dfalse (by rw [eTys_len]; omega)) ?_; refine And.intro (dfalse (by rw [eTys_len]; omega)) ?_; refine hK _ _ ?_; clear hK K
  refine dw_cond (t := false) rfl ?_; rw [if_neg (by simp)]; refine dw_skip ?_; refine dw_seq ?_; refine dwk [] TS9_ok hnt fun K hK => ?_; refine dcl (hB) ?_; refine dcl (hB2) ?_; refine hK _ _ ?_; clear hK K; refine dw_seq (dw_seq ?_); refine dwk [] TS9_ok hnt fun K hK => ?_; refine hK _ _ ?_; clear hK K; refine dw_block ?_
  refine dw_loop (ι := { j : Nat // ∀ i (h : i < l.length), i < j → few4B l[i] = true }) (fun j => [(.t 5, .sl 2 (eTys l) none), (.t 6, .v (.int .i64 (j.1 : Int)))]) 1 (fun j => l.length - j.1) ⟨0, fun i h1 h2 => by omega⟩ VS.toA fun j => ?_
  obtain ⟨j, hj⟩ := j
  dsimp only
  refine dw_seq (dw_seq ?_)
  by_cases hlt : j < l.length
  ·have hi := Few4_d 60 (by decide) (by decide) l[j] 60 (by decide) (by decide)
   rw [eTy_eq] at hi
   have hq : (eTys l).getD (j : Int).toNat [] = [.sl 2 (eTys l[j].args) none, .v (.int .i64 l[j].base)] := by rw [Int.toNat_natCast, eTys_getD l j hlt, eTy_eq]
   have hb : (0 : Int) ≤ (j : Int) ∧ (j : Int) < ((eTys l).length : Int) := ⟨by omega, by rw [eTys_len]; omega⟩
   refine dwk [(32, .v (.bool true))] TS9_ok hnt fun K hK => ?_; refine And.intro (dtrue (by rw [eTys_len]; omega)) ?_; refine hK _ _ ?_; clear hK K; refine dw_cond (t := true) rfl ?_; rw [if_pos rfl]; refine dw_skip ?_; refine dw_seq (dw_block (dw_seq ?_))
   cases hf : few4B l[j] with
   | true =>
    have hf2 := hf
    unfold few4B at hf2
    rw [hf2] at hi
    refine dwk [(37, .q [.sl 2 (eTys l[j].args) none, .v (.int .i64 l[j].base)])] TS9_ok hnt fun K hK => ?_; refine And.intro (hb) ?_; refine And.intro (VLe.of_eq (by rw [hq])) ?_; refine dcl (hi) ?_; refine hK _ _ ?_; clear hK K; refine dw_cond (t := false) rfl ?_; rw [if_neg (by simp)]; refine dw_skip ?_; refine dwk [(34, .v (.int .i64 ((j + 1 : Nat) : Int)))] TS9_ok hnt fun K hK => ?_; refine And.intro (dintE (by rw [IntWalk.i64_in _ (by omega)]; omega)) ?_
    refine hK _ _ ?_; clear hK K
    refine ⟨⟨j + 1, fun i h1 h2 => ?_⟩, by dsimp only; omega, VS.toA⟩
    by_cases he : i = j
    ·subst he; exact hf
    ·exact hj i h1 (by omega)
   | false =>
    have hf2 := hf
    unfold few4B at hf2
    rw [hf2] at hi
    have ha : l.all few4B = false := by rw [List.all_eq_false]; exact ⟨l[j], List.getElem_mem hlt, by rw [hf]; simp⟩
    rw [ha]
    refine dwk [(37, .q [.sl 2 (eTys l[j].args) none, .v (.int .i64 l[j].base)])] TS9_ok hnt fun K hK => ?_; refine And.intro (hb) ?_; refine And.intro (VLe.of_eq (by rw [hq])) ?_; refine dcl (hi) ?_; refine hK _ _ ?_; clear hK K; refine dw_cond (t := true) rfl ?_; rw [if_pos rfl]; refine dw_seq ?_; refine dwk [] TS9_ok hnt fun K hK => ?_; refine hK _ _ ?_; clear hK K; refine dw_ret ?_
    exact retv (N := 0) (.inr rfl) rfl (VLe.refl _) trivial
  ·have ha : l.all few4B = true := by
    rw [List.all_eq_true]
    intro t ht
    obtain ⟨i, hi, rfl⟩ := List.getElem_of_mem ht
    exact hj i hi (by omega)
   rw [ha]
   refine dwk [(32, .v (.bool false))] TS9_ok hnt fun K hK => ?_; refine And.intro (dfalse (by rw [eTys_len]; omega)) ?_; refine hK _ _ ?_; clear hK K; refine dw_cond (t := false) rfl ?_; rw [if_neg (by simp)]; refine dw_exit ?_; refine dw_seq ?_; refine dwk [] TS9_ok hnt fun K hK => ?_; refine hK _ _ ?_; clear hK K; refine dw_ret ?_
   exact retv (N := 0) (.inr rfl) rfl (VLe.refl _) trivial
end Go.Proofs.Ytdmiekaeodcehaa

