/-
  Package slices' stable sort of pairs, walked in the deep way: the merge. Package slices' stable sort of pairs, walked in the deep way: the merge of many. Package slices' stable sort of pairs, walked in the deep way: the whole; subst.sorted, subst.Of. Package match, walked in the deep way: what was found as a substitution; several at once. The known answer of the laws of layer 12. Package subst's lists, walked in the deep way: Without, Set, Domain, Get. The document's places and uses, walked in the deep way: All, At, Has, Vars, Uses; loose indexes. The document's uses, and what is taken out, walked in the deep way.
-/
import Derived.Test.YtcblpjheoclkeaaRowMatchFindsp6
import Derived.Test.YtcblpjheoclkeaaRowMatchFindsp4
import Derived.Test.YtcblpjheoclkeaaRowMatchFindsp5
set_option maxRecDepth 100000
set_option maxHeartbeats 1000000
set_option linter.unusedVariables false
set_option linter.unusedSimpArgs false
namespace Go.Proofs.Ytcblpjheoclkeaa
open Go.RowKit

theorem half_i (k : Nat) (h : k < 4611686018427387904) : IntKind.i64.wrap ((IntKind.u64.wrap (↑k : Int)).fdiv 2) = ((k / 2 : Nat) : Int) := by
  have e1 : IntKind.u64.wrap (↑k : Int) = ↑k := by
    simp only [IntKind.wrap, IntKind.bits, IntKind.signed]
    simp
    omega
  rw [e1, Int.fdiv_eq_ediv_of_nonneg _ (by omega), IntWalk.i64_in _ (by omega)]
  omega
namespace So
def ky (L : List (Int × Tm)) (i : Nat) : Int := ((L[i]?).map (·.1)).getD 0
theorem ky_at {L : List (Int × Tm)} {i : Nat} {x : Int × Tm} (h : L[i]? = some x) : ky L i = x.1 := by simp [ky, h]
theorem at_ex {α : Type} {L : List α} {n i : Nat} (hn : L.length = n) (hi : i < n) : ∃ x, L[i]? = some x := ⟨L[i]'(by omega), List.getElem?_eq_getElem (by omega)⟩
theorem left_one {x : Int × Tm} {Y1 Y2 : List (Int × Tm)} (hY : Srt (Y1 ++ Y2)) (h1 : ∀ y ∈ Y1, y.1 < x.1) (h2 : ∀ y ∈ Y2, x.1 ≤ y.1) : ss ([x] ++ (Y1 ++ Y2)) = Y1 ++ x :: Y2 := by
  have a := srt_app.1 hY
  have h := ss_cut (X1 := []) (X2 := [x]) (Y1 := Y1) (Y2 := Y2) (srt_one x) hY (fun _ h => by cases h) (fun y hy u hu => by rw [List.mem_singleton] at hu; subst hu; exact h1 y hy)
  rw [List.nil_append, List.nil_append, ss_self a.1, ss_self (l := [x] ++ Y2) (List.pairwise_cons.2 ⟨h2, a.2.1⟩)] at h
  exact h
theorem right_one {y : Int × Tm} {X1 X2 : List (Int × Tm)} (hX : Srt (X1 ++ X2)) (h1 : ∀ x ∈ X1, x.1 ≤ y.1) (h2 : ∀ x ∈ X2, y.1 < x.1) : ss (X1 ++ X2 ++ [y]) = X1 ++ y :: X2 := ss_snoc (ss_self hX).symm h1 h2
theorem sym_cut {A X Y Z L : List (Int × Tm)} {a m b mid s : Nat} (hX : Srt X) (hY : Srt Y) (hL : L = A ++ X ++ Y ++ Z) (ha : A.length = a) (hm : a + X.length = m) (hb : m + Y.length = b) (q1 : a ≤ s) (q2 : s ≤ m) (q3 : s ≤ mid) (q4 : mid + m ≤ s + b)
    (h1 : s = a ∨ mid + m = s + b ∨ ky L (s - 1) ≤ ky L (mid + m - s)) (h2 : s = mid ∨ s = m ∨ ky L (mid + m - 1 - s) < ky L s) :
    ∃ X1 X2 Y1 Y2, X = X1 ++ X2 ∧ Y = Y1 ++ Y2 ∧ a + X1.length = s ∧ s + Y1.length = mid ∧ (∀ x ∈ X1, ∀ y ∈ Y2, x.1 ≤ y.1) ∧ (∀ y ∈ Y1, ∀ x ∈ X2, y.1 < x.1) := by
  obtain ⟨X1, X2, rfl, hx⟩ : ∃ X1 X2, X = X1 ++ X2 ∧ a + X1.length = s := ⟨X.take (s - a), X.drop (s - a), (List.take_append_drop _ _).symm, by simp; omega⟩
  obtain ⟨Y1, Y2, rfl, hy⟩ : ∃ Y1 Y2, Y = Y1 ++ Y2 ∧ s + Y1.length = mid := ⟨Y.take (mid - s), Y.drop (mid - s), (List.take_append_drop _ _).symm, by simp; omega⟩
  rw [List.length_append] at hm hb
  have sx := srt_app.1 hX
  have sy := srt_app.1 hY
  refine ⟨X1, X2, Y1, Y2, rfl, rfl, hx, hy, fun x hxm y hym => ?_, fun y hym x hxm => ?_⟩
  · rcases snoc_cases X1 with rfl | ⟨U, u, rfl⟩
    · cases hxm
    cases Y2 with
    | nil => cases hym
    | cons v V =>
      simp at hx hm hb
      have e1 : L[s - 1]? = some u := at_ (P := A ++ U) (R := X2 ++ (Y1 ++ v :: V) ++ Z) (by rw [hL]; simp) (by simp; omega)
      have e2 : L[mid + m - s]? = some v := at_ (P := A ++ (U ++ [u] ++ X2) ++ Y1) (R := V ++ Z) (by rw [hL]; simp) (by simp; omega)
      rcases h1 with h1 | h1 | h1
      · omega
      · omega
      · rw [ky_at e1, ky_at e2] at h1
        have a1 : x.1 ≤ u.1 := by
          rcases List.mem_append.1 hxm with h | h
          · exact (srt_app.1 sx.1).2.2 x h u (by simp)
          · rw [List.mem_singleton] at h; rw [h]; exact Int.le_refl _
        have a2 : v.1 ≤ y.1 := by
          rcases List.mem_cons.1 hym with h | h
          · rw [h]; exact Int.le_refl _
          · exact (List.pairwise_cons.1 sy.2.1).1 y h
        omega
  · rcases snoc_cases Y1 with rfl | ⟨U, u, rfl⟩
    · cases hym
    cases X2 with
    | nil => cases hxm
    | cons v V =>
      simp at hy hm hb
      have e1 : L[mid + m - 1 - s]? = some u := at_ (P := A ++ (X1 ++ v :: V) ++ U) (R := Y2 ++ Z) (by rw [hL]; simp) (by simp; omega)
      have e2 : L[s]? = some v := at_ (P := A ++ X1) (R := V ++ (U ++ [u] ++ Y2) ++ Z) (by rw [hL]; simp) (by simp; omega)
      rcases h2 with h2 | h2 | h2
      · omega
      · omega
      · rw [ky_at e1, ky_at e2] at h2
        have a1 : y.1 ≤ u.1 := by
          rcases List.mem_append.1 hym with h | h
          · exact (srt_app.1 sy.1).2.2 y h u (by simp)
          · rw [List.mem_singleton] at h; rw [h]; exact Int.le_refl _
        have a2 : v.1 ≤ x.1 := by
          rcases List.mem_cons.1 hxm with h | h
          · rw [h]; exact Int.le_refl _
          · exact (List.pairwise_cons.1 sx.2.1).1 x h
        omega
end So
abbrev symIn (n a m b : Nat) : List D := [.ps 0 n, .v (.int .i64 ↑a), .v (.int .i64 ↑m), .v (.int .i64 ↑b), .fn 106 []]
abbrev symR (L : List (Int × Tm)) : List (Key × D) := [(.r 0, .rp 88 5 (ePairs L))]
theorem sym_left (A : List (Int × Tm)) (x : Int × Tm) (Y Z : List (Int × Tm)) (n a m b : Nat) (hn : (A ++ [x] ++ Y ++ Z).length = n) (ha : A.length = a) (hm : a + 1 = m) (hb : m + Y.length = b) (hY : So.Srt Y) (hM : n ≤ 1000000) :
  CallG Try.prog 196 (symIn n a m b) (symR (A ++ [x] ++ Y ++ Z)) (symR (A ++ So.ss ([x] ++ Y) ++ Z)) (.tu []) := by
 have hbn : b ≤ n := by simp at hn; omega
 obtain ⟨L, hL⟩ : ∃ L, A ++ [x] ++ Y ++ Z = L := ⟨_, rfl⟩
 rw [hL] at hn ⊢
 have hx : L[a]? = some x := at_ (P := A) (R := Y ++ Z) (by rw [← hL]; simp) ha
 have lx := pl_lt hn hx
 subst hb
 refine callG_of_dw 1 220 [] TSO_ok (by kernel_rfl) Try.func196 rfl Try.ntmps196 rfl (by simp) ?dwords ?dbody
 case dwords => simp [wordsG, rowN, rowsR, gkey, Key.eq, D.ok, D.oks, D.okss, rnames, inN, ckey, ePairs_ok]
 case dbody =>
  intro cx hnt hn0
  refine dw_seq ?_; refine dw_seq ?_; refine dwk [(27, .v (.int .i64 (↑1))), (28, .v (.bool true))] TSO_ok hnt fun K hK => ?_; refine And.intro auI ?_; refine And.intro (beqT rfl) ?_; refine hK _ _ ?_; clear hK K; refine dw_cond (t := true) rfl ?_; rw [if_pos rfl]; refine dw_seq ?_; refine dwk [] TSO_ok hnt fun K hK => ?_; refine hK _ _ ?_; clear hK K; refine dw_seq ?_; refine dwk [] TSO_ok hnt fun K hK => ?_
  refine hK _ _ ?_; clear hK K; refine dw_seq ?_; refine dw_block ?_
  refine dw_loop (ι := { p : List (Int × Tm) × List (Int × Tm) × List (Int × Tm) // p.1 ++ p.2.1 ++ p.2.2 = Y ∧ (∀ y ∈ p.1, y.1 < x.1) ∧ (∀ y ∈ p.2.2, x.1 ≤ y.1) }) (fun p => [(.t 0, .ps 0 n), (.t 1, .v (.int .i64 ↑a)), (.t 4, .fn 106 []), (.t 10, .v (.int .i64 ↑(m + p.1.1.length))), (.t 11, .v (.int .i64 ↑(m + p.1.1.length + p.1.2.1.length))), (.r 0, .rp 88 5 (ePairs L))]) 1 (fun p => p.1.2.1.length) (⟨([], Y, []), by simp, by simp, by simp⟩) ((VS.toK (by omega) (by repeat first | exact trivial | refine And.intro (And.intro (by first | rfl | simp [D.ok, D.oks, D.okss, D.okm, upto, keyOk, argsT]) (by first | exact Or.inl rfl | exact Or.inr ⟨_, rfl, (by repeat first | exact VLe.refl _ | exact VLe.nil _ | exact VLe.untag _ _ _ | refine VLe.ag ?_ | refine VLe.tu ?_ | refine VLeL.cons ?_ ?_ | exact VLeL.nil), trivial⟩ | simp [get, Key.eq, argsT])) ?_))) fun j => ?_
  obtain ⟨⟨Y1, Mi, Y2⟩, hs, h1, h2⟩ := j
  dsimp only at hs h1 h2 ⊢
  have hYl : Y1.length + Mi.length + Y2.length = Y.length := by rw [← hs]; simp; omega
  by_cases h0 : Mi.length = 0
  ·have : Mi = [] := List.length_eq_zero_iff.1 h0
   subst this
   rw [List.append_nil] at hs
   rw [List.length_nil, Nat.add_zero] at hYl ⊢
   refine dw_seq ?_; refine dw_seq ?_; refine dwk [(33, .v (.bool false))] TSO_ok hnt fun K hK => ?_; refine And.intro auF ?_; refine hK _ _ ?_; clear hK K; refine dw_cond (t := false) rfl ?_; rw [if_neg (by simp)]; refine dw_exit ?_; refine dw_seq ?_; refine dw_seq ?_; refine dwk [] TSO_ok hnt fun K hK => ?_; refine hK _ _ ?_; clear hK K; refine dw_block ?_
   refine dw_loop (ι := { p : List (Int × Tm) × List (Int × Tm) // p.1 ++ p.2 = Y1 }) (fun p => [(.t 0, .ps 0 n), (.t 10, .v (.int .i64 ↑(m + Y1.length))), (.t 13, .v (.int .i64 ↑(a + p.1.1.length))), (.r 0, .rp 88 5 (ePairs (A ++ p.1.1 ++ x :: p.1.2 ++ Y2 ++ Z)))]) 1 (fun p => p.1.2.length) (⟨([], Y1), rfl⟩) ((VS.toK (by omega) (by repeat first | exact trivial | refine And.intro (And.intro (by first | rfl | simp [D.ok, D.oks, D.okss, D.okm, upto, keyOk, ← hL, ← hs]) (by first | exact Or.inl rfl | exact Or.inr ⟨_, rfl, (by repeat first | exact VLe.refl _ | exact VLe.nil _ | exact VLe.untag _ _ _ | refine VLe.ag ?_ | refine VLe.tu ?_ | refine VLeL.cons ?_ ?_ | exact VLeL.nil), trivial⟩ | simp [get, Key.eq, ← hL, ← hs])) ?_))) fun j => ?_
   obtain ⟨⟨B1, B2⟩, hB⟩ := j
   dsimp only at hB ⊢
   have hBl : B1.length + B2.length = Y1.length := by rw [← hB]; simp
   cases B2 with
   | nil =>
    rw [List.length_nil] at hBl
    rw [List.append_nil] at hB
    have hf : So.ss ([x] ++ Y) = Y1 ++ x :: Y2 := by rw [← hs]; exact So.left_one (by rw [hs]; exact hY) h1 h2
    rw [hf]
    have e2 : A ++ B1 ++ [x] ++ Y2 ++ Z = A ++ (Y1 ++ x :: Y2) ++ Z := by rw [hB]; simp
    rw [e2]
    refine dw_seq ?_; refine dw_seq ?_; refine dwk [(57, .v (.int .i64 (↑(a + Y1.length)))), (58, .v (.bool false))] TSO_ok hnt fun K hK => ?_; refine And.intro auI ?_; refine And.intro auF ?_; refine hK _ _ ?_; clear hK K; refine dw_cond (t := false) rfl ?_; rw [if_neg (by simp)]; refine dw_exit ?_; refine dw_ret ?_
    exact reta rfl
   | cons y B2 =>
    rw [List.length_cons] at hBl
    obtain ⟨L2, hL2⟩ : ∃ L2, A ++ B1 ++ x :: (y :: B2) ++ Y2 ++ Z = L2 := ⟨_, rfl⟩
    rw [hL2]
    have hn2 : L2.length = n := by rw [← hL2, ← hn, ← hL, ← hs, ← hB]; simp; omega
    have gx : L2[a + B1.length]? = some x := at_ (P := A ++ B1) (R := y :: B2 ++ Y2 ++ Z) (by rw [← hL2]; simp) (by simp; omega)
    have gy : L2[a + B1.length + 1]? = some y := at_ (P := A ++ B1 ++ [x]) (R := B2 ++ Y2 ++ Z) (by rw [← hL2]; simp) (by simp; omega)
    have ly := pl_lt hn2 gy
    refine dw_seq ?_; refine dw_seq ?_; refine dwk [(57, .v (.int .i64 (↑(a + Y1.length)))), (58, .v (.bool true))] TSO_ok hnt fun K hK => ?_; refine And.intro auI ?_; refine And.intro auT ?_; refine hK _ _ ?_; clear hK K; refine dw_cond (t := true) rfl ?_; rw [if_pos rfl]; refine dw_skip ?_; refine dw_seq ?_; refine dw_block ?_; refine dwkD [(65, .v (.int .i64 (↑(a + B1.length + 1)))), (68, .v (.int .i64 (↑(a + B1.length + 1)))), (69, .pr 0 n 5 ((a + B1.length + 1)) 0), (70, .ag [.v (.int .i64 y.1), .sl 2 (eTys y.2.binds) none, .v (.int .i64 y.2.kind), .v (.int .i64 y.2.index), .sl 4 (eTms y.2.args) none]), (73, .pr 0 n 5 ((a + B1.length)) 0), (74, .ag [.v (.int .i64 x.1), .sl 2 (eTys x.2.binds) none, .v (.int .i64 x.2.kind), .v (.int .i64 x.2.index), .sl 4 (eTms x.2.args) none]), (75, .pr 0 n 5 ((a + B1.length)) 0), (76, .pr 0 n 5 ((a + B1.length + 1)) 0)] TSO_ok hnt fun K hK => ?_
    refine And.intro auI ?_; refine And.intro auI ?_; refine And.intro (by constructor <;> omega) ?_; refine And.intro (by first | rfl | exact VLe.of_eq (by simp)) ?_; refine And.intro (pl_ok hn2 gy) ?_; refine And.intro (pl_eq gy) ?_; refine And.intro (by constructor <;> omega) ?_; refine And.intro (by first | rfl | exact VLe.of_eq (by simp)) ?_; refine And.intro (pl_ok hn2 gx) ?_; refine And.intro (pl_eq gx) ?_
    refine And.intro (by constructor <;> omega) ?_; refine And.intro (by first | rfl | exact VLe.of_eq (by simp)) ?_; refine And.intro (st_ok hn2 gx) ?_; refine And.intro (by constructor <;> omega) ?_; refine And.intro (by first | rfl | exact VLe.of_eq (by simp)) ?_; refine And.intro (st_ok2 hn2 gy) ?_; refine hK _ _ (by kernel_rfl) ?_; clear hK K
    rw [eP_swap (P := A ++ B1) (Q := []) (R := B2 ++ Y2 ++ Z) (L' := A ++ (B1 ++ [y]) ++ x :: B2 ++ Y2 ++ Z) (by rw [← hL2]; simp) (by simp; omega) (by simp) (by simp)]
    refine dwk [(60, .v (.int .i64 (↑(a + (B1 ++ [y]).length))))] TSO_ok hnt fun K hK => ?_; refine And.intro (dintE (by rw [IntWalk.i64_in _ (by omega)]; simp; omega)) ?_; refine hK _ _ ?_; clear hK K
    refine ⟨⟨(B1 ++ [y], B2), by rw [← hB]; simp⟩, by simp, VS.toA⟩
  ·obtain ⟨M1, y, M2, rfl, hh⟩ : ∃ M1 y M2, Mi = M1 ++ y :: M2 ∧ m + Y1.length + M1.length = (m + Y1.length + (m + Y1.length + Mi.length)) / 2 := by
    have hlt : Mi.length / 2 < Mi.length := by omega
    refine ⟨Mi.take (Mi.length / 2), Mi[Mi.length / 2], Mi.drop (Mi.length / 2 + 1), ?_, ?_⟩
    ·rw [← List.drop_eq_getElem_cons hlt, List.take_append_drop]
    ·rw [List.length_take, Nat.min_eq_left (by omega)]; omega
   have hMl : (M1 ++ y :: M2).length = M1.length + M2.length + 1 := by simp; omega
   have hy : L[m + Y1.length + M1.length]? = some y := at_ (P := A ++ [x] ++ Y1 ++ M1) (R := M2 ++ Y2 ++ Z) (by rw [← hL, ← hs]; simp) (by simp; omega)
   have ho := sorder_d y x
   rw [ePair_eq, ePair_eq] at ho
   have hsrt := hY
   rw [← hs] at hsrt
   have a1 := (So.srt_app.1 (So.srt_app.1 hsrt).1).2.1
   have a2 := So.srt_app.1 a1
   obtain ⟨c, hc⟩ : ∃ c, m + Y1.length + (M1 ++ y :: M2).length = c := ⟨_, rfl⟩
   rw [hc] at hh ⊢
   by_cases hlt : y.1 < x.1
   ·skip
    refine dw_seq ?_; refine dw_seq ?_; refine dwk [(33, .v (.bool true))] TSO_ok hnt fun K hK => ?_; refine And.intro auT ?_; refine hK _ _ ?_; clear hK K; refine dw_cond (t := true) rfl ?_; rw [if_pos rfl]; refine dw_skip ?_; refine dw_block ?_; refine dw_seq ?_; refine dwk [(36, .v (.int .i64 (↑(m + Y1.length + c)))), (39, .v (.int .i64 (↑(m + Y1.length + M1.length))))] TSO_ok hnt fun K hK => ?_; refine And.intro auI ?_
    refine And.intro (dintE (by rw [hh]; exact half_i _ (by omega))) ?_; refine hK _ _ ?_; clear hK K; refine dw_seq ?_; refine dwkD [(43, .pr 0 n 5 ((m + Y1.length + M1.length)) 0), (44, .ag [.v (.int .i64 y.1), .sl 2 (eTys y.2.binds) none, .v (.int .i64 y.2.kind), .v (.int .i64 y.2.index), .sl 4 (eTms y.2.args) none]), (47, .pr 0 n 5 (a) 0), (48, .ag [.v (.int .i64 x.1), .sl 2 (eTys x.2.binds) none, .v (.int .i64 x.2.kind), .v (.int .i64 x.2.index), .sl 4 (eTms x.2.args) none]), (50, .v (.bool true))] TSO_ok hnt fun K hK => ?_
    refine And.intro (by constructor <;> omega) ?_; refine And.intro (by first | rfl | exact VLe.of_eq (by simp)) ?_; refine And.intro (pl_ok hn hy) ?_; refine And.intro (pl_eq hy) ?_; refine And.intro (by constructor <;> omega) ?_; refine And.intro (by first | rfl | exact VLe.of_eq (by simp)) ?_; refine And.intro (pl_ok hn hx) ?_; refine And.intro (pl_eq hx) ?_; refine dcl (ho) ?_; refine And.intro (dtrue (cmpI_lt.2 hlt)) ?_
    refine hK _ _ (by kernel_rfl) ?_; clear hK K; refine dw_cond (t := true) rfl ?_; rw [if_pos rfl]; refine dwk [(52, .v (.int .i64 (↑(m + (Y1 ++ (M1 ++ [y])).length))))] TSO_ok hnt fun K hK => ?_; refine And.intro (dintE (by rw [IntWalk.i64_in _ (by omega)]; simp; omega)) ?_; refine hK _ _ ?_; clear hK K
    have e3 : c = m + (Y1 ++ (M1 ++ [y])).length + M2.length := by rw [← hc]; simp; omega
    rw [e3]
    refine ⟨⟨(Y1 ++ (M1 ++ [y]), M2, Y2), by rw [← hs]; simp, fun u hu => ?g1, h2⟩, by simp; omega, VS.toA⟩
    case g1 =>
     rcases List.mem_append.1 hu with hu | hu
     ·exact h1 u hu
     ·rcases List.mem_append.1 hu with hu | hu
      ·have := a2.2.2 u hu y (by simp); omega
      ·rw [List.mem_singleton] at hu; subst hu; exact hlt
   ·skip
    refine dw_seq ?_; refine dw_seq ?_; refine dwk [(33, .v (.bool true))] TSO_ok hnt fun K hK => ?_; refine And.intro auT ?_; refine hK _ _ ?_; clear hK K; refine dw_cond (t := true) rfl ?_; rw [if_pos rfl]; refine dw_skip ?_; refine dw_block ?_; refine dw_seq ?_; refine dwk [(36, .v (.int .i64 (↑(m + Y1.length + c)))), (39, .v (.int .i64 (↑(m + Y1.length + M1.length))))] TSO_ok hnt fun K hK => ?_; refine And.intro auI ?_
    refine And.intro (dintE (by rw [hh]; exact half_i _ (by omega))) ?_; refine hK _ _ ?_; clear hK K; refine dw_seq ?_; refine dwkD [(43, .pr 0 n 5 ((m + Y1.length + M1.length)) 0), (44, .ag [.v (.int .i64 y.1), .sl 2 (eTys y.2.binds) none, .v (.int .i64 y.2.kind), .v (.int .i64 y.2.index), .sl 4 (eTms y.2.args) none]), (47, .pr 0 n 5 (a) 0), (48, .ag [.v (.int .i64 x.1), .sl 2 (eTys x.2.binds) none, .v (.int .i64 x.2.kind), .v (.int .i64 x.2.index), .sl 4 (eTms x.2.args) none]), (50, .v (.bool false))] TSO_ok hnt fun K hK => ?_
    refine And.intro (by constructor <;> omega) ?_; refine And.intro (by first | rfl | exact VLe.of_eq (by simp)) ?_; refine And.intro (pl_ok hn hy) ?_; refine And.intro (pl_eq hy) ?_; refine And.intro (by constructor <;> omega) ?_; refine And.intro (by first | rfl | exact VLe.of_eq (by simp)) ?_; refine And.intro (pl_ok hn hx) ?_; refine And.intro (pl_eq hx) ?_; refine dcl (ho) ?_; refine And.intro (dfalse (fun h => hlt (cmpI_lt.1 h))) ?_
    refine hK _ _ (by kernel_rfl) ?_; clear hK K; refine dw_cond (t := false) rfl ?_; rw [if_neg (by simp)]; refine dwk [] TSO_ok hnt fun K hK => ?_; refine hK _ _ ?_; clear hK K
    refine ⟨⟨(Y1, M1, y :: M2 ++ Y2), by rw [← hs]; simp, h1, fun u hu => ?g2⟩, by simp, VS.toA⟩
    case g2 =>
     rcases List.mem_append.1 hu with hu | hu
     ·rcases List.mem_cons.1 hu with rfl | hu
      ·omega
      ·have := (List.pairwise_cons.1 a2.2.1).1 u hu; omega
     ·exact h2 u hu
theorem sym_right (A : List (Int × Tm)) (X : List (Int × Tm)) (y : Int × Tm) (Z : List (Int × Tm)) (n a m b : Nat) (hn : (A ++ X ++ [y] ++ Z).length = n) (ha : A.length = a) (hm : a + X.length = m) (hb : m + 1 = b) (hX : So.Srt X) (h1X : X.length ≠ 1) (hM : n ≤ 1000000) :
  CallG Try.prog 196 (symIn n a m b) (symR (A ++ X ++ [y] ++ Z)) (symR (A ++ So.ss (X ++ [y]) ++ Z)) (.tu []) := by
 have hbn : b ≤ n := by simp at hn; omega
 obtain ⟨L, hL⟩ : ∃ L, A ++ X ++ [y] ++ Z = L := ⟨_, rfl⟩
 rw [hL] at hn ⊢
 have hy : L[m]? = some y := at_ (P := A ++ X) (R := Z) (by rw [← hL]; simp) (by simp; omega)
 have ly := pl_lt hn hy
 subst hm
 refine callG_of_dw 1 220 [] TSO_ok (by kernel_rfl) Try.func196 rfl Try.ntmps196 rfl (by simp) ?dwords ?dbody
 case dwords => simp [wordsG, rowN, rowsR, gkey, Key.eq, D.ok, D.oks, D.okss, rnames, inN, ckey, ePairs_ok]
 case dbody =>
  intro cx hnt hn0
  refine dw_seq ?_; refine dw_seq ?_; refine dwk [(27, .v (.int .i64 (↑X.length))), (28, .v (.bool false))] TSO_ok hnt fun K hK => ?_; refine And.intro auI ?_; refine And.intro (beqF (by omega)) ?_; refine hK _ _ ?_; clear hK K; refine dw_cond (t := false) rfl ?_; rw [if_neg (by simp)]; refine dw_skip ?_; refine dw_seq ?_; refine dw_seq ?_; refine dwk [(79, .v (.int .i64 (↑1))), (80, .v (.bool true))] TSO_ok hnt fun K hK => ?_
  refine And.intro auI ?_; refine And.intro (beqT rfl) ?_; refine hK _ _ ?_; clear hK K; refine dw_cond (t := true) rfl ?_; rw [if_pos rfl]; refine dw_seq ?_; refine dwk [] TSO_ok hnt fun K hK => ?_; refine hK _ _ ?_; clear hK K; refine dw_seq ?_; refine dwk [] TSO_ok hnt fun K hK => ?_; refine hK _ _ ?_; clear hK K; refine dw_seq ?_; refine dw_block ?_
  refine dw_loop (ι := { p : List (Int × Tm) × List (Int × Tm) × List (Int × Tm) // p.1 ++ p.2.1 ++ p.2.2 = X ∧ (∀ x ∈ p.1, x.1 ≤ y.1) ∧ (∀ x ∈ p.2.2, y.1 < x.1) }) (fun p => [(.t 0, .ps 0 n), (.t 2, .v (.int .i64 ↑(a + X.length))), (.t 4, .fn 106 []), (.t 14, .v (.int .i64 ↑(a + p.1.1.length))), (.t 15, .v (.int .i64 ↑(a + p.1.1.length + p.1.2.1.length))), (.r 0, .rp 88 5 (ePairs L))]) 1 (fun p => p.1.2.1.length) (⟨([], X, []), by simp, by simp, by simp⟩) ((VS.toK (by omega) (by repeat first | exact trivial | refine And.intro (And.intro (by first | rfl | simp [D.ok, D.oks, D.okss, D.okm, upto, keyOk, argsT]) (by first | exact Or.inl rfl | exact Or.inr ⟨_, rfl, (by repeat first | exact VLe.refl _ | exact VLe.nil _ | exact VLe.untag _ _ _ | refine VLe.ag ?_ | refine VLe.tu ?_ | refine VLeL.cons ?_ ?_ | exact VLeL.nil), trivial⟩ | simp [get, Key.eq, argsT])) ?_))) fun j => ?_
  obtain ⟨⟨X1, Mi, X2⟩, hs, h1, h2⟩ := j
  dsimp only at hs h1 h2 ⊢
  have hXl : X1.length + Mi.length + X2.length = X.length := by rw [← hs]; simp; omega
  by_cases h0 : Mi.length = 0
  ·have : Mi = [] := List.length_eq_zero_iff.1 h0
   subst this
   rw [List.append_nil] at hs
   rw [List.length_nil, Nat.add_zero] at hXl ⊢
   refine dw_seq ?_; refine dw_seq ?_; refine dwk [(85, .v (.bool false))] TSO_ok hnt fun K hK => ?_; refine And.intro auF ?_; refine hK _ _ ?_; clear hK K; refine dw_cond (t := false) rfl ?_; rw [if_neg (by simp)]; refine dw_exit ?_; refine dw_seq ?_; refine dw_seq ?_; refine dwk [(17, .v (.int .i64 ↑(a + X1.length + X2.length)))] TSO_ok hnt fun K hK => ?_; refine And.intro (VLe.of_eq (by rw [← hXl, Nat.add_assoc])) ?_
   refine hK _ _ ?_; clear hK K; refine dw_block ?_
   refine dw_loop (ι := { p : List (Int × Tm) × List (Int × Tm) // p.1 ++ p.2 = X2 }) (fun p => [(.t 0, .ps 0 n), (.t 14, .v (.int .i64 ↑(a + X1.length))), (.t 17, .v (.int .i64 ↑(a + X1.length + p.1.1.length))), (.r 0, .rp 88 5 (ePairs (A ++ X1 ++ p.1.1 ++ y :: p.1.2 ++ Z)))]) 1 (fun p => p.1.1.length) (⟨(X2, []), by simp⟩) ((VS.toK (by omega) (by repeat first | exact trivial | refine And.intro (And.intro (by first | rfl | simp [D.ok, D.oks, D.okss, D.okm, upto, keyOk, ← hL, ← hs]) (by first | exact Or.inl rfl | exact Or.inr ⟨_, rfl, (by repeat first | exact VLe.refl _ | exact VLe.nil _ | exact VLe.untag _ _ _ | refine VLe.ag ?_ | refine VLe.tu ?_ | refine VLeL.cons ?_ ?_ | exact VLeL.nil), trivial⟩ | simp [get, Key.eq, ← hL, ← hs])) ?_))) fun j => ?_
   obtain ⟨⟨B1, B2⟩, hB⟩ := j
   dsimp only at hB ⊢
   have hBl : B1.length + B2.length = X2.length := by rw [← hB]; simp
   rcases snoc_cases B1 with rfl | ⟨B, x, rfl⟩
   ·rw [List.nil_append] at hB
    have hf : So.ss (X ++ [y]) = X1 ++ y :: X2 := by rw [← hs]; exact So.right_one (by rw [hs]; exact hX) h1 h2
    rw [hf, List.append_nil]
    have e2 : A ++ X1 ++ y :: B2 ++ Z = A ++ (X1 ++ y :: X2) ++ Z := by rw [hB]; simp
    rw [e2, List.length_nil, Nat.add_zero]
    refine dw_seq ?_; refine dw_seq ?_; refine dwk [(110, .v (.bool false))] TSO_ok hnt fun K hK => ?_; refine And.intro auF ?_; refine hK _ _ ?_; clear hK K; refine dw_cond (t := false) rfl ?_; rw [if_neg (by simp)]; refine dw_exit ?_; refine dw_ret ?_
    exact reta rfl
   ·obtain ⟨k, hk⟩ : ∃ k, a + X1.length + B.length = k := ⟨_, rfl⟩
    have hk2 : a + X1.length + (B ++ [x]).length = k + 1 := by simp; omega
    rw [hk2]
    obtain ⟨L2, hL2⟩ : ∃ L2, A ++ X1 ++ (B ++ [x]) ++ y :: B2 ++ Z = L2 := ⟨_, rfl⟩
    rw [hL2]
    have hn2 : L2.length = n := by rw [← hL2, ← hn, ← hL, ← hs, ← hB]; simp; omega
    have gx : L2[k]? = some x := at_ (P := A ++ X1 ++ B) (R := y :: B2 ++ Z) (by rw [← hL2]; simp) (by simp; omega)
    have gy : L2[k + 1]? = some y := at_ (P := A ++ X1 ++ B ++ [x]) (R := B2 ++ Z) (by rw [← hL2]; simp) (by simp; omega)
    have ly2 := pl_lt hn2 gy
    refine dw_seq ?_; refine dw_seq ?_; refine dwk [(110, .v (.bool true))] TSO_ok hnt fun K hK => ?_; refine And.intro auT ?_; refine hK _ _ ?_; clear hK K; refine dw_cond (t := true) rfl ?_; rw [if_pos rfl]; refine dw_skip ?_; refine dw_seq ?_; refine dw_block ?_; refine dwkD [(117, .v (.int .i64 (↑k))), (120, .v (.int .i64 (↑k))), (121, .pr 0 n 5 (k) 0), (122, .ag [.v (.int .i64 x.1), .sl 2 (eTys x.2.binds) none, .v (.int .i64 x.2.kind), .v (.int .i64 x.2.index), .sl 4 (eTms x.2.args) none]), (125, .pr 0 n 5 ((k + 1)) 0), (126, .ag [.v (.int .i64 y.1), .sl 2 (eTys y.2.binds) none, .v (.int .i64 y.2.kind), .v (.int .i64 y.2.index), .sl 4 (eTms y.2.args) none]), (127, .pr 0 n 5 ((k + 1)) 0), (128, .pr 0 n 5 (k) 0)] TSO_ok hnt fun K hK => ?_
    refine And.intro auI ?_; refine And.intro auI ?_; refine And.intro (by constructor <;> omega) ?_; refine And.intro (by first | rfl | exact VLe.of_eq (by simp)) ?_; refine And.intro (pl_ok hn2 gx) ?_; refine And.intro (pl_eq gx) ?_; refine And.intro (by constructor <;> omega) ?_; refine And.intro (by first | rfl | exact VLe.of_eq (by simp)) ?_; refine And.intro (pl_ok hn2 gy) ?_; refine And.intro (pl_eq gy) ?_
    refine And.intro (by constructor <;> omega) ?_; refine And.intro (by first | rfl | exact VLe.of_eq (by simp)) ?_; refine And.intro (st_ok hn2 gy) ?_; refine And.intro (by constructor <;> omega) ?_; refine And.intro (by first | rfl | exact VLe.of_eq (by simp)) ?_; refine And.intro (st_ok2 hn2 gx) ?_; refine hK _ _ (by kernel_rfl) ?_; clear hK K
    rw [eP_swap' (P := A ++ X1 ++ B) (Q := []) (R := B2 ++ Z) (L' := A ++ X1 ++ B ++ y :: (x :: B2) ++ Z) (by rw [← hL2]; simp) (by simp; omega) (by simp) (by simp)]
    refine dwk [(112, .v (.int .i64 (↑k)))] TSO_ok hnt fun K hK => ?_; refine And.intro auI ?_; refine hK _ _ ?_; clear hK K
    rw [← hk]
    refine ⟨⟨(B, x :: B2), by rw [← hB]; simp⟩, by simp, VS.toA⟩
  ·obtain ⟨M1, x, M2, rfl, hh⟩ : ∃ M1 x M2, Mi = M1 ++ x :: M2 ∧ a + X1.length + M1.length = (a + X1.length + (a + X1.length + Mi.length)) / 2 := by
    have hlt : Mi.length / 2 < Mi.length := by omega
    refine ⟨Mi.take (Mi.length / 2), Mi[Mi.length / 2], Mi.drop (Mi.length / 2 + 1), ?_, ?_⟩
    ·rw [← List.drop_eq_getElem_cons hlt, List.take_append_drop]
    ·rw [List.length_take, Nat.min_eq_left (by omega)]; omega
   have hMl : (M1 ++ x :: M2).length = M1.length + M2.length + 1 := by simp; omega
   have hx : L[a + X1.length + M1.length]? = some x := at_ (P := A ++ X1 ++ M1) (R := M2 ++ X2 ++ [y] ++ Z) (by rw [← hL, ← hs]; simp) (by simp; omega)
   have ho := sorder_d y x
   rw [ePair_eq, ePair_eq] at ho
   have hsrt := hX
   rw [← hs] at hsrt
   have a1 := (So.srt_app.1 (So.srt_app.1 hsrt).1).2.1
   have a2 := So.srt_app.1 a1
   obtain ⟨c, hc⟩ : ∃ c, a + X1.length + (M1 ++ x :: M2).length = c := ⟨_, rfl⟩
   rw [hc] at hh ⊢
   by_cases hlt : y.1 < x.1
   ·skip
    refine dw_seq ?_; refine dw_seq ?_; refine dwk [(85, .v (.bool true))] TSO_ok hnt fun K hK => ?_; refine And.intro auT ?_; refine hK _ _ ?_; clear hK K; refine dw_cond (t := true) rfl ?_; rw [if_pos rfl]; refine dw_skip ?_; refine dw_block ?_; refine dw_seq ?_; refine dwk [(88, .v (.int .i64 (↑(a + X1.length + c)))), (91, .v (.int .i64 (↑(a + X1.length + M1.length))))] TSO_ok hnt fun K hK => ?_; refine And.intro auI ?_
    refine And.intro (dintE (by rw [hh]; exact half_i _ (by omega))) ?_; refine hK _ _ ?_; clear hK K; refine dw_seq ?_; refine dwkD [(95, .pr 0 n 5 ((a + X.length)) 0), (96, .ag [.v (.int .i64 y.1), .sl 2 (eTys y.2.binds) none, .v (.int .i64 y.2.kind), .v (.int .i64 y.2.index), .sl 4 (eTms y.2.args) none]), (99, .pr 0 n 5 ((a + X1.length + M1.length)) 0), (100, .ag [.v (.int .i64 x.1), .sl 2 (eTys x.2.binds) none, .v (.int .i64 x.2.kind), .v (.int .i64 x.2.index), .sl 4 (eTms x.2.args) none]), (102, .v (.bool true))] TSO_ok hnt fun K hK => ?_
    refine And.intro (by constructor <;> omega) ?_; refine And.intro (by first | rfl | exact VLe.of_eq (by simp)) ?_; refine And.intro (pl_ok hn hy) ?_; refine And.intro (pl_eq hy) ?_; refine And.intro (by constructor <;> omega) ?_; refine And.intro (by first | rfl | exact VLe.of_eq (by simp)) ?_; refine And.intro (pl_ok hn hx) ?_; refine And.intro (pl_eq hx) ?_; refine dcl (ho) ?_; refine And.intro (dtrue (cmpI_lt.2 hlt)) ?_
    refine hK _ _ (by kernel_rfl) ?_; clear hK K; refine dw_cond (t := false) rfl ?_; rw [if_neg (by simp)]; refine dwk [] TSO_ok hnt fun K hK => ?_; refine hK _ _ ?_; clear hK K
    refine ⟨⟨(X1, M1, x :: M2 ++ X2), by rw [← hs]; simp, h1, fun u hu => ?g2⟩, by simp, VS.toA⟩
    case g2 =>
     rcases List.mem_append.1 hu with hu | hu
     ·rcases List.mem_cons.1 hu with rfl | hu
      ·exact hlt
      ·have := (List.pairwise_cons.1 a2.2.1).1 u hu; omega
     ·exact h2 u hu
   ·skip
    refine dw_seq ?_; refine dw_seq ?_; refine dwk [(85, .v (.bool true))] TSO_ok hnt fun K hK => ?_; refine And.intro auT ?_; refine hK _ _ ?_; clear hK K; refine dw_cond (t := true) rfl ?_; rw [if_pos rfl]; refine dw_skip ?_; refine dw_block ?_; refine dw_seq ?_; refine dwk [(88, .v (.int .i64 (↑(a + X1.length + c)))), (91, .v (.int .i64 (↑(a + X1.length + M1.length))))] TSO_ok hnt fun K hK => ?_; refine And.intro auI ?_
    refine And.intro (dintE (by rw [hh]; exact half_i _ (by omega))) ?_; refine hK _ _ ?_; clear hK K; refine dw_seq ?_; refine dwkD [(95, .pr 0 n 5 ((a + X.length)) 0), (96, .ag [.v (.int .i64 y.1), .sl 2 (eTys y.2.binds) none, .v (.int .i64 y.2.kind), .v (.int .i64 y.2.index), .sl 4 (eTms y.2.args) none]), (99, .pr 0 n 5 ((a + X1.length + M1.length)) 0), (100, .ag [.v (.int .i64 x.1), .sl 2 (eTys x.2.binds) none, .v (.int .i64 x.2.kind), .v (.int .i64 x.2.index), .sl 4 (eTms x.2.args) none]), (102, .v (.bool false))] TSO_ok hnt fun K hK => ?_
    refine And.intro (by constructor <;> omega) ?_; refine And.intro (by first | rfl | exact VLe.of_eq (by simp)) ?_; refine And.intro (pl_ok hn hy) ?_; refine And.intro (pl_eq hy) ?_; refine And.intro (by constructor <;> omega) ?_; refine And.intro (by first | rfl | exact VLe.of_eq (by simp)) ?_; refine And.intro (pl_ok hn hx) ?_; refine And.intro (pl_eq hx) ?_; refine dcl (ho) ?_; refine And.intro (dfalse (fun h => hlt (cmpI_lt.1 h))) ?_
    refine hK _ _ (by kernel_rfl) ?_; clear hK K; refine dw_cond (t := true) rfl ?_; rw [if_pos rfl]; refine dwk [(105, .v (.int .i64 (↑(a + (X1 ++ (M1 ++ [x])).length))))] TSO_ok hnt fun K hK => ?_; refine And.intro (dintE (by rw [IntWalk.i64_in _ (by omega)]; simp; omega)) ?_; refine hK _ _ ?_; clear hK K
    have e3 : c = a + (X1 ++ (M1 ++ [x])).length + M2.length := by rw [← hc]; simp; omega
    rw [e3]
    refine ⟨⟨(X1 ++ (M1 ++ [x]), M2, X2), by rw [← hs]; simp, fun u hu => ?g1, h2⟩, by simp; omega, VS.toA⟩
    case g1 =>
     rcases List.mem_append.1 hu with hu | hu
     ·exact h1 u hu
     ·rcases List.mem_append.1 hu with hu | hu
      ·have := a2.2.2 u hu x (by simp); omega
      ·rw [List.mem_singleton] at hu; subst hu; omega
end Go.Proofs.Ytcblpjheoclkeaa

namespace Go.Proofs.Ytcblpjheoclkeaa
open Go.RowKit

def SymC (N : Nat) : Prop := ∀ (A X Y Z : List (Int × Tm)) (n a m b : Nat), X.length + Y.length ≤ N → (A ++ X ++ Y ++ Z).length = n → A.length = a → a + X.length = m → m + Y.length = b → 0 < X.length → 0 < Y.length → So.Srt X → So.Srt Y → n ≤ 1000000 →
  CallG Try.prog 196 (symIn n a m b) (symR (A ++ X ++ Y ++ Z)) (symR (A ++ So.ss (X ++ Y) ++ Z)) (.tu [])
set_option maxHeartbeats 4000000 in
theorem sym_step (N : Nat) (ih : ∀ k, k < N → SymC k) (A X Y Z : List (Int × Tm)) (n a m b : Nat) (hN : X.length + Y.length ≤ N) (hn : (A ++ X ++ Y ++ Z).length = n) (ha : A.length = a) (hm : a + X.length = m) (hb : m + Y.length = b) (hX2 : 2 ≤ X.length) (hY2 : 2 ≤ Y.length) (hX : So.Srt X) (hY : So.Srt Y) (hM : n ≤ 1000000) :
  CallG Try.prog 196 (symIn n a m b) (symR (A ++ X ++ Y ++ Z)) (symR (A ++ So.ss (X ++ Y) ++ Z)) (.tu []) := by
 have hbn : b + Z.length = n := by simp at hn; omega
 obtain ⟨L, hL⟩ : ∃ L, A ++ X ++ Y ++ Z = L := ⟨_, rfl⟩
 rw [hL] at hn ⊢
 obtain ⟨mid, hmid⟩ : ∃ mid, mid = (a + b) / 2 := ⟨_, rfl⟩
 obtain ⟨lo, hi, hlo⟩ : ∃ lo hi, (mid < m ∧ lo + b = mid + m ∧ hi = mid) ∨ (m ≤ mid ∧ lo = a ∧ hi = m) := by
  by_cases h : mid < m
  ·exact ⟨mid + m - b, mid, .inl ⟨h, by omega, rfl⟩⟩
  ·exact ⟨a, m, .inr ⟨by omega, rfl, rfl⟩⟩
 obtain ⟨q, hq⟩ : ∃ q, q + 1 = mid + m := ⟨mid + m - 1, by omega⟩
 refine callG_of_dw 1 220 [] TSO_ok (by kernel_rfl) Try.func196 rfl Try.ntmps196 rfl (by simp) ?dwords ?dbody
 case dwords => simp [wordsG, rowN, rowsR, gkey, Key.eq, D.ok, D.oks, D.okss, rnames, inN, ckey, ePairs_ok]
 case dbody =>
  intro cx hnt hn0
  refine dw_seq ?_; refine dw_seq ?_; refine dwk [(27, .v (.int .i64 (↑X.length))), (28, .v (.bool false))] TSO_ok hnt fun K hK => ?_; refine And.intro auI ?_; refine And.intro (beqF (by omega)) ?_; refine hK _ _ ?_; clear hK K; refine dw_cond (t := false) rfl ?_; rw [if_neg (by simp)]; refine dw_skip ?_; refine dw_seq ?_; refine dw_seq ?_; refine dwk [(79, .v (.int .i64 (↑Y.length))), (80, .v (.bool false))] TSO_ok hnt fun K hK => ?_
  refine And.intro auI ?_; refine And.intro (beqF (by omega)) ?_; refine hK _ _ ?_; clear hK K; refine dw_cond (t := false) rfl ?_; rw [if_neg (by simp)]; refine dw_skip ?_; refine dw_seq ?_; refine dwk [(131, .v (.int .i64 (↑(a + b)))), (134, .v (.int .i64 (↑mid)))] TSO_ok hnt fun K hK => ?_; refine And.intro auI ?_; refine And.intro (dintE (by rw [hmid]; exact half_i _ (by omega))) ?_; refine hK _ _ ?_; clear hK K
  refine dw_seq ?_; refine dwk [(137, .v (.int .i64 (↑(mid + m))))] TSO_ok hnt fun K hK => ?_; refine And.intro auI ?_; refine hK _ _ ?_; clear hK K; refine dw_seq ?_; refine dwk [] TSO_ok hnt fun K hK => ?_; refine hK _ _ ?_; clear hK K
  refine dw_cut (τ := [(.t 0, .ps 0 n), (.t 1, .v (.int .i64 ↑a)), (.t 2, .v (.int .i64 ↑m)), (.t 3, .v (.int .i64 ↑b)), (.t 4, .fn 106 []), (.t 18, .v (.int .i64 ↑mid)), (.t 19, .v (.int .i64 ↑(mid + m))), (.t 20, .v (.int .i64 ↑lo)), (.t 21, .v (.int .i64 ↑hi)), (.r 0, .rp 88 5 (ePairs L))]) (N1 := 1) ?_ ?_
  ·rcases hlo with ⟨g1, g2, g3⟩ | ⟨g1, g2, g3⟩
   ·rw [g3]
    refine dw_seq ?_; refine dwk [(140, .v (.bool true))] TSO_ok hnt fun K hK => ?_; refine And.intro auT ?_; refine hK _ _ ?_; clear hK K; refine dw_cond (t := true) rfl ?_; rw [if_pos rfl]; refine dw_seq ?_; refine dwk [(143, .v (.int .i64 (↑lo)))] TSO_ok hnt fun K hK => ?_; refine And.intro auI ?_; refine hK _ _ ?_; clear hK K; refine dwk [] TSO_ok hnt fun K hK => ?_; refine hK _ _ ?_; clear hK K
    exact cut_ok (VS.toK (by omega) (by repeat first | exact trivial | refine And.intro (And.intro (by first | rfl | simp [D.ok, D.oks, D.okss, D.okm, upto, keyOk, argsT]) (by first | exact Or.inl rfl | exact Or.inr ⟨_, rfl, (by repeat first | exact VLe.refl _ | exact VLe.nil _ | exact VLe.untag _ _ _ | refine VLe.ag ?_ | refine VLe.tu ?_ | refine VLeL.cons ?_ ?_ | exact VLeL.nil), trivial⟩ | simp [get, Key.eq, argsT])) ?_))
   ·rw [g2, g3]
    refine dw_seq ?_; refine dwk [(140, .v (.bool false))] TSO_ok hnt fun K hK => ?_; refine And.intro auF ?_; refine hK _ _ ?_; clear hK K; refine dw_cond (t := false) rfl ?_; rw [if_neg (by simp)]; refine dw_seq ?_; refine dwk [] TSO_ok hnt fun K hK => ?_; refine hK _ _ ?_; clear hK K; refine dwk [] TSO_ok hnt fun K hK => ?_; refine hK _ _ ?_; clear hK K
    exact cut_ok (VS.toK (by omega) (by repeat first | exact trivial | refine And.intro (And.intro (by first | rfl | simp [D.ok, D.oks, D.okss, D.okm, upto, keyOk, argsT]) (by first | exact Or.inl rfl | exact Or.inr ⟨_, rfl, (by repeat first | exact VLe.refl _ | exact VLe.nil _ | exact VLe.untag _ _ _ | refine VLe.ag ?_ | refine VLe.tu ?_ | refine VLeL.cons ?_ ?_ | exact VLeL.nil), trivial⟩ | simp [get, Key.eq, argsT])) ?_))
  ·skip
   refine dw_seq ?_; refine dwk [(148, .v (.int .i64 (↑q)))] TSO_ok hnt fun K hK => ?_; refine And.intro auI ?_; refine hK _ _ ?_; clear hK K; refine dw_seq ?_; refine dw_block ?_
   refine dw_loop (ι := { p : Nat × Nat // lo ≤ p.1 ∧ p.1 ≤ p.2 ∧ p.2 ≤ hi ∧ (p.1 = lo ∨ So.ky L (p.1 - 1) ≤ So.ky L (mid + m - p.1)) ∧ (p.2 = hi ∨ So.ky L (mid + m - 1 - p.2) < So.ky L p.2) }) (fun p => [(.t 0, .ps 0 n), (.t 1, .v (.int .i64 ↑a)), (.t 2, .v (.int .i64 ↑m)), (.t 3, .v (.int .i64 ↑b)), (.t 4, .fn 106 []), (.t 18, .v (.int .i64 ↑mid)), (.t 19, .v (.int .i64 ↑(mid + m))), (.t 20, .v (.int .i64 ↑p.1.1)), (.t 21, .v (.int .i64 ↑p.1.2)), (.t 22, .v (.int .i64 ↑q)), (.r 0, .rp 88 5 (ePairs L))]) 1 (fun p => p.1.2 - p.1.1) (⟨(lo, hi), Nat.le_refl _, by dsimp only; omega, Nat.le_refl _, .inl rfl, .inl rfl⟩) (VS.toA) fun j => ?_
   obtain ⟨⟨s, r⟩, k1, k2, k3, k4, k5⟩ := j
   dsimp only at k1 k2 k3 k4 k5 ⊢
   by_cases hsr : s < r
   ·obtain ⟨c, hc⟩ : ∃ c, c = (s + r) / 2 := ⟨_, rfl⟩
    have hcm : c < m := by omega
    obtain ⟨d, hd⟩ : ∃ d, d + c = q := ⟨q - c, by omega⟩
    obtain ⟨x, hx⟩ := So.at_ex hn (show c < n by omega)
    obtain ⟨y, hy⟩ := So.at_ex hn (show d < n by omega)
    have ex := So.ky_at hx
    have ey := So.ky_at hy
    have ho := sorder_d y x
    rw [ePair_eq, ePair_eq] at ho
    by_cases hlt : y.1 < x.1
    ·skip
     refine dw_seq ?_; refine dw_seq ?_; refine dwk [(151, .v (.bool true))] TSO_ok hnt fun K hK => ?_; refine And.intro auT ?_; refine hK _ _ ?_; clear hK K; refine dw_cond (t := true) rfl ?_; rw [if_pos rfl]; refine dw_skip ?_; refine dw_block ?_; refine dw_seq ?_; refine dwk [(154, .v (.int .i64 (↑(s + r)))), (157, .v (.int .i64 (↑c)))] TSO_ok hnt fun K hK => ?_; refine And.intro auI ?_; refine And.intro (dintE (by rw [hc]; exact half_i _ (by omega))) ?_
     refine hK _ _ ?_; clear hK K; refine dw_seq ?_; refine dwkD [(162, .v (.int .i64 (↑d))), (163, .pr 0 n 5 (d) 0), (164, .ag [.v (.int .i64 y.1), .sl 2 (eTys y.2.binds) none, .v (.int .i64 y.2.kind), .v (.int .i64 y.2.index), .sl 4 (eTms y.2.args) none]), (167, .pr 0 n 5 (c) 0), (168, .ag [.v (.int .i64 x.1), .sl 2 (eTys x.2.binds) none, .v (.int .i64 x.2.kind), .v (.int .i64 x.2.index), .sl 4 (eTms x.2.args) none]), (170, .v (.bool true))] TSO_ok hnt fun K hK => ?_
     refine And.intro auI ?_; refine And.intro (by constructor <;> omega) ?_; refine And.intro (by first | rfl | exact VLe.of_eq (by simp)) ?_; refine And.intro (pl_ok hn hy) ?_; refine And.intro (pl_eq hy) ?_; refine And.intro (by constructor <;> omega) ?_; refine And.intro (by first | rfl | exact VLe.of_eq (by simp)) ?_; refine And.intro (pl_ok hn hx) ?_; refine And.intro (pl_eq hx) ?_; refine dcl (ho) ?_
     refine And.intro (dtrue (cmpI_lt.2 hlt)) ?_; refine hK _ _ (by kernel_rfl) ?_; clear hK K; refine dw_cond (t := false) rfl ?_; rw [if_neg (by simp)]; refine dwk [] TSO_ok hnt fun K hK => ?_; refine hK _ _ ?_; clear hK K
     refine ⟨⟨(s, c), k1, by dsimp only; omega, by dsimp only; omega, k4, .inr (by dsimp only; rw [show mid + m - 1 - c = d by omega, ex, ey]; exact hlt)⟩, by first | omega | (dsimp only; omega), VS.toA⟩
    ·skip
     refine dw_seq ?_; refine dw_seq ?_; refine dwk [(151, .v (.bool true))] TSO_ok hnt fun K hK => ?_; refine And.intro auT ?_; refine hK _ _ ?_; clear hK K; refine dw_cond (t := true) rfl ?_; rw [if_pos rfl]; refine dw_skip ?_; refine dw_block ?_; refine dw_seq ?_; refine dwk [(154, .v (.int .i64 (↑(s + r)))), (157, .v (.int .i64 (↑c)))] TSO_ok hnt fun K hK => ?_; refine And.intro auI ?_; refine And.intro (dintE (by rw [hc]; exact half_i _ (by omega))) ?_
     refine hK _ _ ?_; clear hK K; refine dw_seq ?_; refine dwkD [(162, .v (.int .i64 (↑d))), (163, .pr 0 n 5 (d) 0), (164, .ag [.v (.int .i64 y.1), .sl 2 (eTys y.2.binds) none, .v (.int .i64 y.2.kind), .v (.int .i64 y.2.index), .sl 4 (eTms y.2.args) none]), (167, .pr 0 n 5 (c) 0), (168, .ag [.v (.int .i64 x.1), .sl 2 (eTys x.2.binds) none, .v (.int .i64 x.2.kind), .v (.int .i64 x.2.index), .sl 4 (eTms x.2.args) none]), (170, .v (.bool false))] TSO_ok hnt fun K hK => ?_
     refine And.intro auI ?_; refine And.intro (by constructor <;> omega) ?_; refine And.intro (by first | rfl | exact VLe.of_eq (by simp)) ?_; refine And.intro (pl_ok hn hy) ?_; refine And.intro (pl_eq hy) ?_; refine And.intro (by constructor <;> omega) ?_; refine And.intro (by first | rfl | exact VLe.of_eq (by simp)) ?_; refine And.intro (pl_ok hn hx) ?_; refine And.intro (pl_eq hx) ?_; refine dcl (ho) ?_
     refine And.intro (dfalse (fun h => hlt (cmpI_lt.1 h))) ?_; refine hK _ _ (by kernel_rfl) ?_; clear hK K; refine dw_cond (t := true) rfl ?_; rw [if_pos rfl]; refine dwk [(173, .v (.int .i64 (↑(c + 1))))] TSO_ok hnt fun K hK => ?_; refine And.intro auI ?_; refine hK _ _ ?_; clear hK K
     refine ⟨⟨(c + 1, r), by dsimp only; omega, by dsimp only; omega, k3, .inr (by dsimp only; rw [show c + 1 - 1 = c by omega, show mid + m - (c + 1) = d by omega, ex, ey]; omega), k5⟩, by first | omega | (dsimp only; omega), VS.toA⟩
   ·have hrs : r = s := by omega
    subst hrs
    obtain ⟨X1, X2, Y1, Y2, rfl, rfl, e1, e2, h1, h2⟩ := So.sym_cut (mid := mid) (s := r) hX hY hL.symm ha hm hb (by omega) (by omega) (by omega) (by omega) (by
      rcases k4 with k4 | k4
      ·omega
      ·exact .inr (.inr k4)) (by
      rcases k5 with k5 | k5
      ·omega
      ·exact .inr (.inr k5))
    rw [List.length_append] at hm hb hX2 hY2
    rw [List.length_append, List.length_append] at hN
    obtain ⟨e, he⟩ : ∃ e, e + r = mid + m := ⟨mid + m - r, by omega⟩
    have hcut := So.ss_cut hX hY h1 h2
    have sx := So.srt_app.1 hX
    have sy := So.srt_app.1 hY
    have hlen : A.length + X1.length + X2.length + Y1.length + Y2.length + Z.length = n := by omega
    rw [hcut]
    refine dw_seq ?_; refine dw_seq ?_; refine dwk [(151, .v (.bool false))] TSO_ok hnt fun K hK => ?_; refine And.intro auF ?_; refine hK _ _ ?_; clear hK K; refine dw_cond (t := false) rfl ?_; rw [if_neg (by simp)]; refine dw_exit ?_; refine dw_seq ?_; refine dwk [(177, .v (.int .i64 (↑e)))] TSO_ok hnt fun K hK => ?_; refine And.intro auI ?_; refine hK _ _ ?_; clear hK K
    refine dw_cut (τ := [(.t 0, .ps 0 n), (.t 1, .v (.int .i64 ↑a)), (.t 3, .v (.int .i64 ↑b)), (.t 4, .fn 106 []), (.t 18, .v (.int .i64 ↑mid)), (.t 20, .v (.int .i64 ↑r)), (.t 24, .v (.int .i64 ↑e)), (.r 0, .rp 88 5 (ePairs (A ++ X1 ++ Y1 ++ (X2 ++ (Y2 ++ Z)))))]) (N1 := 1) ?_ ?_
    ·by_cases c1 : r < m
     ·by_cases c2 : m < e
      ·have hrot := rotate_d (A ++ X1) X2 Y1 (Y2 ++ Z) n r m e (by simp; omega) (by simp; omega) (by omega) (by omega) (by omega) (by omega) hM
       have f1 : A ++ X1 ++ Y1 ++ X2 ++ (Y2 ++ Z) = A ++ X1 ++ Y1 ++ (X2 ++ (Y2 ++ Z)) := by simp
       have f2 : L = A ++ X1 ++ X2 ++ Y1 ++ (Y2 ++ Z) := by rw [← hL]; simp
       rw [f1] at hrot
       rw [f2]
       refine dw_seq ?_; refine dwk [(180, .v (.bool true)), (184, .v (.bool true))] TSO_ok hnt fun K hK => ?_; refine And.intro auT ?_; refine And.intro auT ?_; refine hK _ _ ?_; clear hK K; refine dw_cond (t := true) rfl ?_; rw [if_pos rfl]; refine dwk [] TSO_ok hnt fun K hK => ?_; refine dcn (CallG.n (hrot) _) ?_; refine hK _ _ ?_; clear hK K
       exact cut_ok VS.toA
      ·have : Y1 = [] := List.length_eq_zero_iff.1 (by omega)
       have f2 : L = A ++ X1 ++ Y1 ++ (X2 ++ (Y2 ++ Z)) := by rw [← hL, this]; simp
       rw [f2]
       refine dw_seq ?_; refine dwk [(180, .v (.bool true)), (184, .v (.bool false))] TSO_ok hnt fun K hK => ?_; refine And.intro auT ?_; refine And.intro auF ?_; refine hK _ _ ?_; clear hK K; refine dw_cond (t := false) rfl ?_; rw [if_neg (by simp)]; refine dw_skip ?_
       exact cut_ok VS.toA
     ·have : X2 = [] := List.length_eq_zero_iff.1 (by omega)
      have f2 : L = A ++ X1 ++ Y1 ++ (X2 ++ (Y2 ++ Z)) := by rw [← hL, this]; simp
      rw [f2]
      refine dw_seq ?_; refine dwk [(180, .v (.bool false))] TSO_ok hnt fun K hK => ?_; refine And.intro auF ?_; refine hK _ _ ?_; clear hK K; refine dw_cond (t := false) rfl ?_; rw [if_neg (by simp)]; refine dw_skip ?_
      exact cut_ok VS.toA
    ·skip
     refine dw_cut (τ := [(.t 0, .ps 0 n), (.t 3, .v (.int .i64 ↑b)), (.t 4, .fn 106 []), (.t 18, .v (.int .i64 ↑mid)), (.t 24, .v (.int .i64 ↑e)), (.r 0, .rp 88 5 (ePairs (A ++ So.ss (X1 ++ Y1) ++ X2 ++ Y2 ++ Z)))]) (N1 := 1) ?_ ?_
     ·have f1 : A ++ So.ss (X1 ++ Y1) ++ (X2 ++ (Y2 ++ Z)) = A ++ So.ss (X1 ++ Y1) ++ X2 ++ Y2 ++ Z := by simp
      by_cases c1 : a < r
      ·by_cases c2 : r < mid
       ·have hs := ih (X1.length + Y1.length) (by omega) A X1 Y1 (X2 ++ (Y2 ++ Z)) n a r mid (Nat.le_refl _) (by simp; omega) ha e1 e2 (by omega) (by omega) sx.1 sy.1 hM
        rw [f1] at hs
        refine dw_seq ?_; refine dwk [(194, .v (.bool true)), (198, .v (.bool true))] TSO_ok hnt fun K hK => ?_; refine And.intro auT ?_; refine And.intro auT ?_; refine hK _ _ ?_; clear hK K; refine dw_cond (t := true) rfl ?_; rw [if_pos rfl]; refine dwk [] TSO_ok hnt fun K hK => ?_; refine dcn (CallG.n (hs) _) ?_; refine hK _ _ ?_; clear hK K
        exact cut_ok VS.toA
       ·have hy0 : Y1 = [] := List.length_eq_zero_iff.1 (by omega)
        have hss : So.ss (X1 ++ Y1) = X1 ++ Y1 := So.ss_self (by rw [hy0, List.append_nil]; exact sx.1)
        rw [← f1, hss, ← List.append_assoc A X1 Y1]
        refine dw_seq ?_; refine dwk [(194, .v (.bool true)), (198, .v (.bool false))] TSO_ok hnt fun K hK => ?_; refine And.intro auT ?_; refine And.intro auF ?_; refine hK _ _ ?_; clear hK K; refine dw_cond (t := false) rfl ?_; rw [if_neg (by simp)]; refine dw_skip ?_
        exact cut_ok VS.toA
      ·have hx0 : X1 = [] := List.length_eq_zero_iff.1 (by omega)
       have hss : So.ss (X1 ++ Y1) = X1 ++ Y1 := So.ss_self (by rw [hx0, List.nil_append]; exact sy.1)
       rw [← f1, hss, ← List.append_assoc A X1 Y1]
       refine dw_seq ?_; refine dwk [(194, .v (.bool false))] TSO_ok hnt fun K hK => ?_; refine And.intro auF ?_; refine hK _ _ ?_; clear hK K; refine dw_cond (t := false) rfl ?_; rw [if_neg (by simp)]; refine dw_skip ?_
       exact cut_ok VS.toA
     ·have f3 : A ++ (So.ss (X1 ++ Y1) ++ So.ss (X2 ++ Y2)) ++ Z = A ++ So.ss (X1 ++ Y1) ++ So.ss (X2 ++ Y2) ++ Z := by simp
      rw [f3]
      by_cases c1 : mid < e
      ·by_cases c2 : e < b
       ·have hs := ih (X2.length + Y2.length) (by omega) (A ++ So.ss (X1 ++ Y1)) X2 Y2 Z n mid e b (Nat.le_refl _) (by simp [So.ss_len]; omega) (by simp [So.ss_len]; omega) (by omega) (by omega) (by omega) (by omega) sx.2.1 sy.2.1 hM
        refine dw_seq ?_; refine dwk [(208, .v (.bool true)), (212, .v (.bool true))] TSO_ok hnt fun K hK => ?_; refine And.intro auT ?_; refine And.intro auT ?_; refine hK _ _ ?_; clear hK K; refine dw_cond (t := true) rfl ?_; rw [if_pos rfl]; refine dwk [] TSO_ok hnt fun K hK => ?_; refine dcn (CallG.n (hs) _) ?_; refine hK _ _ ?_; clear hK K
        exact reta rfl
       ·have hy0 : Y2 = [] := List.length_eq_zero_iff.1 (by omega)
        have hss : So.ss (X2 ++ Y2) = X2 ++ Y2 := So.ss_self (by rw [hy0, List.append_nil]; exact sx.2.1)
        rw [hss, ← List.append_assoc _ X2 Y2]
        refine dw_seq ?_; refine dwk [(208, .v (.bool true)), (212, .v (.bool false))] TSO_ok hnt fun K hK => ?_; refine And.intro auT ?_; refine And.intro auF ?_; refine hK _ _ ?_; clear hK K; refine dw_cond (t := false) rfl ?_; rw [if_neg (by simp)]; refine dw_skip ?_
        exact reta rfl
      ·have hx0 : X2 = [] := List.length_eq_zero_iff.1 (by omega)
       have hss : So.ss (X2 ++ Y2) = X2 ++ Y2 := So.ss_self (by rw [hx0, List.nil_append]; exact sy.2.1)
       rw [hss, ← List.append_assoc _ X2 Y2]
       refine dw_seq ?_; refine dwk [(208, .v (.bool false))] TSO_ok hnt fun K hK => ?_; refine And.intro auF ?_; refine hK _ _ ?_; clear hK K; refine dw_cond (t := false) rfl ?_; rw [if_neg (by simp)]; refine dw_skip ?_
       exact reta rfl
theorem sym_all (N : Nat) : SymC N := by
  induction N using Nat.strongRecOn with
  | ind N ih =>
    intro A X Y Z n a m b hN hn ha hm hb h1 h2 hX hY hM
    by_cases c1 : X.length = 1
    · obtain ⟨x, rfl⟩ := List.length_eq_one_iff.1 c1
      exact sym_left A x Y Z n a m b hn ha (by simpa using hm) hb hY hM
    · by_cases c2 : Y.length = 1
      · obtain ⟨y, rfl⟩ := List.length_eq_one_iff.1 c2
        exact sym_right A X y Z n a m b hn ha hm (by simpa using hb) hX c1 hM
      · exact sym_step N ih A X Y Z n a m b hN hn ha hm hb (by omega) (by omega) hX hY hM
theorem symM_d (A X Y Z : List (Int × Tm)) (n a m b : Nat) (hn : (A ++ X ++ Y ++ Z).length = n) (ha : A.length = a) (hm : a + X.length = m) (hb : m + Y.length = b) (h1 : 0 < X.length) (h2 : 0 < Y.length) (hX : So.Srt X) (hY : So.Srt Y) (hM : n ≤ 1000000) :
    CallG Try.prog 196 (symIn n a m b) (symR (A ++ X ++ Y ++ Z)) (symR (A ++ So.ss (X ++ Y) ++ Z)) (.tu []) := sym_all _ A X Y Z n a m b (Nat.le_refl _) hn ha hm hb h1 h2 hX hY hM
end Go.Proofs.Ytcblpjheoclkeaa

namespace Go.Proofs.Ytcblpjheoclkeaa
open Go.RowKit
def TSP_88 : TI := ⟨5, true, [Value.int IntKind.i64 0, Value.slice none 0 0, Value.int IntKind.i64 0, Value.int IntKind.i64 0, Value.slice none 0 0], [(0, 1, false), (1, 4, true)], none, 72, 6, none, false⟩
theorem TSP_88_ok : TypOk Try.prog 88 TSP_88 := ⟨by kernel_rfl, by kernel_rfl, by kernel_rfl, by kernel_rfl, by kernel_rfl⟩
def TSP_47 : TI := ⟨1, false, [Value.slice none 0 0], [], some 88, 24, 5, none, false⟩
theorem TSP_47_ok : TypOk Try.prog 47 TSP_47 := ⟨by kernel_rfl, by kernel_rfl, by kernel_rfl, by kernel_rfl, by kernel_rfl⟩
def TSP_46 : TI := ⟨1, false, [Value.slice none 0 0], [], some 88, 24, 5, none, false⟩
theorem TSP_46_ok : TypOk Try.prog 46 TSP_46 := ⟨by kernel_rfl, by kernel_rfl, by kernel_rfl, by kernel_rfl, by kernel_rfl⟩
def TSP_3 : TI := ⟨1, false, [Value.int IntKind.i64 0], [], none, 8, 2, none, false⟩
theorem TSP_3_ok : TypOk Try.prog 3 TSP_3 := ⟨by kernel_rfl, by kernel_rfl, by kernel_rfl, by kernel_rfl, by kernel_rfl⟩
def TSP_34 : TI := ⟨4, true, [Value.slice none 0 0, Value.int IntKind.i64 0, Value.int IntKind.i64 0, Value.slice none 0 0], [(0, 1, false), (1, 2, true), (3, 1, false)], none, 64, 6, none, false⟩
theorem TSP_34_ok : TypOk Try.prog 34 TSP_34 := ⟨by kernel_rfl, by kernel_rfl, by kernel_rfl, by kernel_rfl, by kernel_rfl⟩
def TSP_200 : TI := ⟨1, false, [Value.nilFunc], [], none, 8, 8, none, false⟩
theorem TSP_200_ok : TypOk Try.prog 200 TSP_200 := ⟨by kernel_rfl, by kernel_rfl, by kernel_rfl, by kernel_rfl, by kernel_rfl⟩
def TSP : List (Nat × TI) := [(88, TSP_88), (47, TSP_47), (46, TSP_46), (3, TSP_3), (34, TSP_34), (200, TSP_200)]
theorem TSP_ok : TabOk Try.prog TSP := (((((((TabOk.nil _).cons TSP_200_ok).cons TSP_34_ok).cons TSP_3_ok).cons TSP_46_ok).cons TSP_47_ok).cons TSP_88_ok)

namespace So
theorem Ch.two {α : Type} {s : Nat} {Q : List (Int × α)} (h : Ch s Q) (hl : 2 * s ≤ Q.length) (hs : 0 < s) : ∃ c d l, Q = c ++ d ++ l ∧ c.length = s ∧ d.length = s ∧ Srt c ∧ Srt d ∧ Ch s l := by
  obtain ⟨c, l, rfl, hc, hsc, hch⟩ := h.more (by omega)
  rw [List.length_append] at hl
  by_cases h1 : s < l.length
  · obtain ⟨d, l2, rfl, hd, hsd, hch2⟩ := hch.more h1
    exact ⟨c, d, l2, by rw [List.append_assoc], hc, hd, hsc, hsd, hch2⟩
  · exact ⟨c, l, [], by simp, hc, by omega, hsc, hch.one (by omega) hs, .last [] (by simp) srt_nil⟩
end So
set_option maxHeartbeats 4000000 in
theorem stableC_d (l : List (Int × Tm)) (n : Nat) (hn : l.length = n) (hM : n ≤ 1000000) :
  CallG Try.prog 190 [.ps 0 n, .v (.int .i64 ↑n), .fn 106 []] (symR l) (symR (So.ss l)) (.tu []) := by
 refine callG_of_dw 1 63 [] TSO_ok (by kernel_rfl) Try.func190 rfl Try.ntmps190 rfl (by simp) ?dwords ?dbody
 case dwords => simp [wordsG, rowN, rowsR, gkey, Key.eq, D.ok, D.oks, D.okss, rnames, inN, ckey, ePairs_ok]
 case dbody =>
  intro cx hnt hn0
  refine dw_seq ?_; refine dwk [] TSO_ok hnt fun K hK => ?_; refine hK _ _ ?_; clear hK K; refine dw_seq ?_; refine dwk [] TSO_ok hnt fun K hK => ?_; refine hK _ _ ?_; clear hK K; refine dw_seq ?_; refine dw_block ?_
  refine dw_loop (ι := { p : List (Int × Tm) × List (Int × Tm) // So.Fu 20 p.1 ∧ So.Same (p.1 ++ p.2) l ∧ p.1.length + p.2.length = n }) (fun p => [(.t 0, .ps 0 n), (.t 1, .v (.int .i64 ↑n)), (.t 2, .fn 106 []), (.t 6, .v (.int .i64 20)), (.t 7, .v (.int .i64 ↑p.1.1.length)), (.t 8, .v (.int .i64 ↑(p.1.1.length + 20))), (.r 0, .rp 88 5 (ePairs (p.1.1 ++ p.1.2)))]) 1 (fun p => p.1.2.length) (⟨([], l), .nil, So.Same.refl _, by simpa using hn⟩) ((VS.toK (by omega) (by repeat first | exact trivial | refine And.intro (And.intro (by first | rfl | simp [D.ok, D.oks, D.okss, D.okm, upto, keyOk, argsT]) (by first | exact Or.inl rfl | exact Or.inr ⟨_, rfl, (by repeat first | exact VLe.refl _ | exact VLe.nil _ | exact VLe.untag _ _ _ | refine VLe.ag ?_ | refine VLe.tu ?_ | refine VLeL.cons ?_ ?_ | exact VLeL.nil), trivial⟩ | simp [get, Key.eq, argsT])) ?_))) fun j => ?_
  obtain ⟨⟨P, Q⟩, hF, hS, hl⟩ := j
  dsimp only at hF hS hl ⊢
  by_cases hb : P.length + 20 ≤ n
  ·obtain ⟨Q1, Q2, rfl, h20⟩ : ∃ Q1 Q2, Q = Q1 ++ Q2 ∧ Q1.length = 20 := ⟨Q.take 20, Q.drop 20, (List.take_append_drop _ _).symm, by simp; omega⟩
   rw [List.length_append] at hl
   have hins := insSort_d P Q1 Q2 n P.length (P.length + 20) (by simp; omega) rfl (by omega) hM
   rw [← List.append_assoc]
   refine dw_seq ?_; refine dw_seq ?_; refine dwk [(13, .v (.bool true))] TSO_ok hnt fun K hK => ?_; refine And.intro auT ?_; refine hK _ _ ?_; clear hK K; refine dw_cond (t := true) rfl ?_; rw [if_pos rfl]; refine dw_skip ?_; refine dw_block ?_; refine dw_seq ?_; refine dwk [] TSO_ok hnt fun K hK => ?_; refine dcn (CallG.n (hins) _) ?_; refine hK _ _ ?_; clear hK K; refine dw_seq ?_; refine dwk [(7, .v (.int .i64 ↑(P ++ So.ss Q1).length))] TSO_ok hnt fun K hK => ?_
   refine And.intro (VLe.of_eq (by rw [List.length_append, So.ss_len, h20])) ?_; refine hK _ _ ?_; clear hK K; refine dwk [(22, .v (.int .i64 (↑((P ++ So.ss Q1).length + 20))))] TSO_ok hnt fun K hK => ?_; refine And.intro (dintE (by rw [IntWalk.i64_in _ (by omega)]; simp [So.ss_len]; omega)) ?_; refine hK _ _ ?_; clear hK K
   refine ⟨⟨(P ++ So.ss Q1, Q2), hF.snoc (by rw [So.ss_len, h20]) (So.ss_srt _), So.Same.trans (by simpa using ((So.Same.refl P).app ((So.ss_same Q1).app (So.Same.refl Q2)))) (by simpa using hS), by simp [So.ss_len]; omega⟩, by simp; omega, VS.toA⟩
  ·have hins := insSort_d P Q [] n P.length n (by simp; omega) rfl hl hM
   rw [List.append_nil, List.append_nil] at hins
   refine dw_seq ?_; refine dw_seq ?_; refine dwk [(13, .v (.bool false))] TSO_ok hnt fun K hK => ?_; refine And.intro auF ?_; refine hK _ _ ?_; clear hK K; refine dw_cond (t := false) rfl ?_; rw [if_neg (by simp)]; refine dw_exit ?_; refine dw_seq ?_; refine dwk [] TSO_ok hnt fun K hK => ?_; refine dcn (CallG.n (hins) _) ?_; refine hK _ _ ?_; clear hK K; refine dw_block ?_
   refine dw_loop (ι := { p : Nat × List (Int × Tm) // 0 < p.1 ∧ p.1 ≤ 20 + 2 * n ∧ So.Ch p.1 p.2 ∧ So.Same p.2 l ∧ p.2.length = n }) (fun p => [(.t 0, .ps 0 n), (.t 1, .v (.int .i64 ↑n)), (.t 2, .fn 106 []), (.t 6, .v (.int .i64 ↑p.1.1)), (.r 0, .rp 88 5 (ePairs p.1.2))]) 1 (fun p => n - p.1.1) (⟨(20, P ++ So.ss Q), by dsimp only; omega, by dsimp only; omega, hF.ch (.last _ (by rw [So.ss_len]; omega) (So.ss_srt _)), ((So.Same.refl P).app (So.ss_same Q)).trans hS, by simp [So.ss_len]; omega⟩) (VS.toA) fun j => ?_
   clear hins hF hS hl hb P Q
   obtain ⟨⟨s, L⟩, h0, hbd, hC, hS, hl⟩ := j
   dsimp only at h0 hbd hC hS hl ⊢
   by_cases hsn : s < n
   ·skip
    refine dw_seq ?_; refine dw_seq ?_; refine dwk [(30, .v (.bool true))] TSO_ok hnt fun K hK => ?_; refine And.intro auT ?_; refine hK _ _ ?_; clear hK K; refine dw_cond (t := true) rfl ?_; rw [if_pos rfl]; refine dw_skip ?_; refine dw_block ?_; refine dw_seq ?_; refine dwk [(32, .v (.int .i64 (↑(2 * s)))), (8, .v (.int .i64 ↑(0 + 2 * s)))] TSO_ok hnt fun K hK => ?_; refine And.intro auI ?_; refine And.intro (VLe.of_eq (by rw [Nat.zero_add])) ?_
    refine hK _ _ ?_; clear hK K; refine dw_seq ?_; refine dw_block ?_
    refine dw_loop (ι := { p : List (Int × Tm) × List (Int × Tm) // So.Fu (2 * s) p.1 ∧ So.Ch s p.2 ∧ So.Same (p.1 ++ p.2) l ∧ p.1.length + p.2.length = n }) (fun p => [(.t 0, .ps 0 n), (.t 1, .v (.int .i64 ↑n)), (.t 2, .fn 106 []), (.t 6, .v (.int .i64 ↑s)), (.t 7, .v (.int .i64 ↑p.1.1.length)), (.t 8, .v (.int .i64 ↑(p.1.1.length + 2 * s))), (.r 0, .rp 88 5 (ePairs (p.1.1 ++ p.1.2)))]) 1 (fun p => p.1.2.length) (⟨([], L), .nil, hC, hS, by simpa using hl⟩) ((VS.toK (by omega) (by repeat first | exact trivial | refine And.intro (And.intro (by first | rfl | simp [D.ok, D.oks, D.okss, D.okm, upto, keyOk, Nat.zero_add]) (by first | exact Or.inl rfl | exact Or.inr ⟨_, rfl, (by repeat first | exact VLe.refl _ | exact VLe.nil _ | exact VLe.untag _ _ _ | refine VLe.ag ?_ | refine VLe.tu ?_ | refine VLeL.cons ?_ ?_ | exact VLeL.nil), trivial⟩ | simp [get, Key.eq, Nat.zero_add])) ?_))) fun j => ?_
    clear hC hS hl L
    obtain ⟨⟨P, Q⟩, hF, hC, hS, hl⟩ := j
    dsimp only at hF hC hS hl ⊢
    by_cases hb : P.length + 2 * s ≤ n
    ·obtain ⟨c, d, Q2, rfl, hc, hd, sc, sd, hC2⟩ := hC.two (by omega) h0
     rw [List.length_append, List.length_append] at hl
     have hm := symM_d P c d Q2 n P.length (P.length + s) (P.length + 2 * s) (by simp; omega) rfl (by omega) (by omega) (by omega) (by omega) sc sd hM
     have e1 : P ++ (c ++ d ++ Q2) = P ++ c ++ d ++ Q2 := by simp
     rw [e1]
     refine dw_seq ?_; refine dw_seq ?_; refine dwk [(35, .v (.bool true))] TSO_ok hnt fun K hK => ?_; refine And.intro auT ?_; refine hK _ _ ?_; clear hK K; refine dw_cond (t := true) rfl ?_; rw [if_pos rfl]; refine dw_skip ?_; refine dw_block ?_; refine dw_seq ?_; refine dwk [(40, .v (.int .i64 (↑(P.length + s))))] TSO_ok hnt fun K hK => ?_; refine And.intro auI ?_; refine dcn (CallG.n (hm) _) ?_; refine hK _ _ ?_; clear hK K
     refine dw_seq ?_; refine dwk [(7, .v (.int .i64 ↑(P ++ So.ss (c ++ d)).length))] TSO_ok hnt fun K hK => ?_; refine And.intro (VLe.of_eq (by rw [List.length_append, So.ss_len, List.length_append, hc, hd, Nat.two_mul])) ?_; refine hK _ _ ?_; clear hK K; refine dwk [(47, .v (.int .i64 (↑(2 * s)))), (48, .v (.int .i64 (↑((P ++ So.ss (c ++ d)).length + 2 * s))))] TSO_ok hnt fun K hK => ?_; refine And.intro auI ?_
     refine And.intro (dintE (by rw [IntWalk.i64_in _ (by omega)]; simp [So.ss_len]; omega)) ?_; refine hK _ _ ?_; clear hK K
     refine ⟨⟨(P ++ So.ss (c ++ d), Q2), hF.snoc (by rw [So.ss_len, List.length_append]; omega) (So.ss_srt _), hC2, So.Same.trans (by simpa using ((So.Same.refl P).app ((So.ss_same (c ++ d)).app (So.Same.refl Q2)))) (by simpa using hS), by simp [So.ss_len]; omega⟩, by simp; omega, VS.toA⟩
    ·by_cases hq : s < Q.length
     ·obtain ⟨c, d, rfl, hc, sc, hC2⟩ := hC.more hq
      rw [List.length_append] at hl hq
      have sd := hC2.one (by omega) h0
      have hm := symM_d P c d [] n P.length (P.length + s) n (by simp; omega) rfl (by omega) (by omega) (by omega) (by omega) sc sd hM
      have e1 : P ++ (c ++ d) = P ++ c ++ d := by simp
      rw [List.append_nil, List.append_nil] at hm
      rw [e1]
      refine dw_seq ?_; refine dw_seq ?_; refine dwk [(35, .v (.bool false))] TSO_ok hnt fun K hK => ?_; refine And.intro auF ?_; refine hK _ _ ?_; clear hK K; refine dw_cond (t := false) rfl ?_; rw [if_neg (by simp)]; refine dw_exit ?_; refine dw_seq ?_; refine dw_seq ?_; refine dwk [(51, .v (.int .i64 (↑(P.length + s))))] TSO_ok hnt fun K hK => ?_; refine And.intro auI ?_; refine hK _ _ ?_; clear hK K
      refine dw_seq ?_; refine dwk [(54, .v (.bool true))] TSO_ok hnt fun K hK => ?_; refine And.intro auT ?_; refine hK _ _ ?_; clear hK K; refine dw_cond (t := true) rfl ?_; rw [if_pos rfl]; refine dwk [] TSO_ok hnt fun K hK => ?_; refine dcn (CallG.n (hm) _) ?_; refine hK _ _ ?_; clear hK K; refine dwk [(62, .v (.int .i64 (↑(2 * s))))] TSO_ok hnt fun K hK => ?_; refine And.intro auI ?_; refine hK _ _ ?_; clear hK K
      refine ⟨⟨(2 * s, P ++ So.ss (c ++ d)), by dsimp only; omega, by dsimp only; omega, hF.ch (.last _ (by rw [So.ss_len, List.length_append]; omega) (So.ss_srt _)), So.Same.trans ((So.Same.refl P).app (So.ss_same (c ++ d))) hS, by simp [So.ss_len]; omega⟩, by first | omega | (dsimp only; omega), VS.toA⟩
     ·have sq := hC.one (by omega) h0
      refine dw_seq ?_; refine dw_seq ?_; refine dwk [(35, .v (.bool false))] TSO_ok hnt fun K hK => ?_; refine And.intro auF ?_; refine hK _ _ ?_; clear hK K; refine dw_cond (t := false) rfl ?_; rw [if_neg (by simp)]; refine dw_exit ?_; refine dw_seq ?_; refine dw_seq ?_; refine dwk [(51, .v (.int .i64 (↑(P.length + s))))] TSO_ok hnt fun K hK => ?_; refine And.intro auI ?_; refine hK _ _ ?_; clear hK K
      refine dw_seq ?_; refine dwk [(54, .v (.bool false))] TSO_ok hnt fun K hK => ?_; refine And.intro auF ?_; refine hK _ _ ?_; clear hK K; refine dw_cond (t := false) rfl ?_; rw [if_neg (by simp)]; refine dw_skip ?_; refine dwk [(62, .v (.int .i64 (↑(2 * s))))] TSO_ok hnt fun K hK => ?_; refine And.intro auI ?_; refine hK _ _ ?_; clear hK K
      refine ⟨⟨(2 * s, P ++ Q), by dsimp only; omega, by dsimp only; omega, hF.ch (.last _ (by omega) sq), hS, by simp; omega⟩, by first | omega | (dsimp only; omega), VS.toA⟩
   ·have hsrt := hC.one (by omega) h0
    have hfin : So.ss l = L := So.ss_eq hsrt hS
    rw [hfin]
    refine dw_seq ?_; refine dw_seq ?_; refine dwk [(30, .v (.bool false))] TSO_ok hnt fun K hK => ?_; refine And.intro auF ?_; refine hK _ _ ?_; clear hK K; refine dw_cond (t := false) rfl ?_; rw [if_neg (by simp)]; refine dw_exit ?_
    exact reta rfl
theorem stable_d (l : List (Int × Tm)) (n : Nat) (hn : l.length = n) (hM : n ≤ 1000000) :
  CallG Try.prog 176 [.ps 0 n, .fn 106 []] (symR l) (symR (So.ss l)) (.tu []) := by
 have hs := stableC_d l n hn hM
 refine callG_of_dw 1 9 [] TSO_ok (by kernel_rfl) Try.func176 rfl Try.ntmps176 rfl (by simp) ?dwords ?dbody
 case dwords => simp [wordsG, rowN, rowsR, gkey, Key.eq, D.ok, D.oks, D.okss, rnames, inN, ckey, ePairs_ok]
 case dbody =>
  intro cx hnt hn0
  refine dwk [] TSO_ok hnt fun K hK => ?_; refine dcn (CallG.n (hs) _) ?_; refine hK _ _ ?_; clear hK K
  exact reta rfl
theorem sortedN_d (l : List (Int × Tm)) (hl : l.length ≤ 1000000) (ht : ∀ p ∈ l, p.2.full ≤ 80000 ∧ p.2.Fit) (nm : Nat) : CallN Try.prog 147 [.sl 5 (ePairs l) none] [] nm [(.r nm, .rw 88 5 l.length)] (.sl 5 (ePairs (So.ss l)) (some nm)) := by
 have hst := stable_d l l.length rfl hl
 refine callRow_of_dw 25 [ResultVar.tmp 2] TSP_ok (by kernel_rfl) Try.func147 rfl Try.ntmps147 rfl (by simp) (by simp [D.ok, ePairs_ok]) (by simp [D.okss, ePairs_ok]) ?dbody nm
 case dbody =>
  intro cx hnt hn0
  refine dw_seq ?_; refine dwk [] TSP_ok hnt fun K hK => ?_; refine hK _ _ ?_; clear hK K
  refine dw_cut (τ := [(.t 0, .sl 5 (ePairs l) none), (.t 3, .v (.slice none 0 0))]) (N1 := 0) ?_ ?_
  ·skip
   refine dwk [] TSP_ok hnt fun K hK => ?_; refine hK _ _ ?_; clear hK K
   exact cut_ok (VS.toK (by omega) (by repeat first | exact trivial | refine And.intro (And.intro (by first | rfl | simp [D.ok, D.oks, D.okss, D.okm, upto, keyOk, argsT]) (by first | exact Or.inl rfl | exact Or.inr ⟨_, rfl, (by repeat first | exact VLe.refl _ | exact VLe.nil _ | exact VLe.untag _ _ _ | refine VLe.ag ?_ | refine VLe.tu ?_ | refine VLeL.cons ?_ ?_ | exact VLeL.nil), trivial⟩ | simp [get, Key.eq, argsT])) ?_))
  ·refine DW.vs (VS.rowPT (x := 3) (by rw [hnt]; decide) 88 5 rfl) ?_
   refine dw_seq ?_; refine dw_seq ?_; refine dwk [(7, .v (.int .i64 (↑l.length)))] TSP_ok hnt fun K hK => ?_; refine And.intro (dintE (by rw [ePairs_len])) ?_; refine hK _ _ ?_; clear hK K; refine dw_block ?_
   refine dw_loop (ι := { k : Nat // k ≤ l.length }) (fun k => [(.t 3, .ps 0 k.1), (.t 6, .sl 5 (ePairs l) none), (.t 7, .v (.int .i64 ↑l.length)), (.t 8, .v (.int .i64 ↑k.1)), (.r 0, .rp 88 5 (ePairs (l.take k.1)))]) 1 (fun k => l.length - k.1) (⟨0, Nat.zero_le _⟩) ((VS.toK (by omega) (by repeat first | exact trivial | refine And.intro (And.intro (by first | rfl | simp [D.ok, D.oks, D.okss, D.okm, upto, keyOk, argsT]) (by first | exact Or.inl rfl | exact Or.inr ⟨_, rfl, (by repeat first | exact VLe.refl _ | exact VLe.nil _ | exact VLe.untag _ _ _ | refine VLe.ag ?_ | refine VLe.tu ?_ | refine VLeL.cons ?_ ?_ | exact VLeL.nil), trivial⟩ | simp [get, Key.eq, argsT])) ?_))) fun k => ?_
   obtain ⟨k, hk⟩ := k
   dsimp only
   by_cases hlt : k < l.length
   ·have hc := copy_d l[k].2 (ht _ (List.getElem_mem hlt)).1 (ht _ (List.getElem_mem hlt)).2
    rw [eTm_eq] at hc
    have htk : ePairs (l.take k) ++ [[.v (.int .i64 l[k].1), .sl 2 (eTys l[k].2.binds) none, .v (.int .i64 l[k].2.kind), .v (.int .i64 l[k].2.index), .sl 4 (eTms l[k].2.args) none]] = ePairs (l.take (k + 1)) := by
     rw [List.take_add_one, List.getElem?_eq_getElem hlt, ← ePair_eq]
     show List.map ePair (l.take k) ++ [ePair l[k]] = List.map ePair (l.take k ++ [l[k]])
     rw [List.map_append]; rfl
    refine dw_seq ?_; refine dwk [(9, .v (.bool true))] TSP_ok hnt fun K hK => ?_; refine And.intro auT ?_; refine hK _ _ ?_; clear hK K; refine dw_seq ?_; refine dw_cond (t := true) rfl ?_; rw [if_pos rfl]; refine dw_skip ?_; refine dw_seq ?_; refine dw_block ?_; refine dw_seq ?_; refine dwk [(10, .q [.v (.int .i64 l[k].1), .sl 2 (eTys l[k].2.binds) none, .v (.int .i64 l[k].2.kind), .v (.int .i64 l[k].2.index), .sl 4 (eTms l[k].2.args) none])] TSP_ok hnt fun K hK => ?_
    refine And.intro (elo (ePairs_len l)) ?_; refine And.intro (elv (ePairs_getD l k) (ePair_eq _)) ?_; refine hK _ _ ?_; clear hK K; refine dwkD [(20, .ps 0 (k + 1))] TSP_ok hnt fun K hK => ?_; refine dcl (hc) ?_; refine And.intro (⟨by simp [ePairs_len]; omega, by simp [ePairs_len]; omega⟩) ?_; refine And.intro (VLe.refl _) ?_; refine hK _ _ (by kernel_rfl) ?_; clear hK K
    rw [htk]
    refine dwk [(21, .v (.int .i64 (↑(k + 1))))] TSP_ok hnt fun K hK => ?_; refine And.intro auI ?_; refine hK _ _ ?_; clear hK K
    refine ⟨⟨k + 1, by omega⟩, by first | omega | (dsimp only; omega), VS.toA⟩
   ·have hke : l.take k = l := List.take_of_length_le (by omega)
    have hkl : k = l.length := by omega
    rw [hke, hkl]
    refine dw_seq ?_; refine dwk [(9, .v (.bool false))] TSP_ok hnt fun K hK => ?_; refine And.intro auF ?_; refine hK _ _ ?_; clear hK K; refine dw_seq ?_; refine dw_cond (t := false) rfl ?_; rw [if_neg (by simp)]; refine dw_exit ?_; refine dw_seq ?_; refine dwk [] TSP_ok hnt fun K hK => ?_; refine dcn (CallG.n (hst) _) ?_; refine hK _ _ ?_; clear hK K; refine dw_seq ?_; refine dwk [] TSP_ok hnt fun K hK => ?_
    refine hK _ _ ?_; clear hK K
    refine dw_freeze (x := 2) (g := 0) rfl rfl (ePairs_len _ |>.trans (So.ss_len l)) ?_
    rw [show (ePairs (So.ss l)).length = l.length by rw [ePairs_len, So.ss_len]]
    refine dw_ret ?_
    exact ⟨.inr rfl, 0, rfl, rfl⟩
theorem sOf_d (l : List (Int × Tm)) (hl : l.length ≤ 1000000) (ht : ∀ p ∈ l, p.2.full ≤ 80000 ∧ p.2.Fit) : PureC Try.prog 114 [.sl 5 (ePairs l) none] (.tu [.sl 5 (if Sb.right (So.ss l) then ePairs (So.ss l) else []) none, .v (.int .i64 (if Sb.right (So.ss l) then 0 else 1))]) := by
 have hs := sortedN_d l hl ht
 have hr := sright_d (So.ss l) (by rw [So.ss_len]; exact hl)
 cases h : Sb.right (So.ss l) with
 | true =>
  rw [h] at hr
  rw [if_pos rfl, if_pos rfl]
  refine calldw 0 11 [ResultVar.tmp 2, ResultVar.tmp 3] TSP_ok Try.func114 rfl Try.ntmps114 rfl fun cx hnt hn0 => ?_
  ·skip
   refine dw_seq ?_; refine dwk [] TSP_ok hnt fun K hK => ?_; refine hK _ _ ?_; clear hK K; refine dw_seq ?_; refine dwk [(6, .sl 5 (ePairs (So.ss l)) none)] TSP_ok hnt fun K hK => ?_; refine dcn (hs _) ?_; refine And.intro (VLe.untag _ _ _) ?_; refine hK _ _ ?_; clear hK K; refine dw_seq ?_; refine dw_seq ?_; refine dwk [] TSP_ok hnt fun K hK => ?_; refine dcl (hr) ?_; refine hK _ _ ?_; clear hK K; refine dw_cond (t := false) rfl ?_
   rw [if_neg (by simp)]; refine dw_skip ?_; refine dw_seq ?_; refine dwk [] TSP_ok hnt fun K hK => ?_; refine hK _ _ ?_; clear hK K; refine dw_ret ?_
   exact reta rfl
 | false =>
  rw [h] at hr
  rw [if_neg (by simp), if_neg (by simp)]
  refine calldw 0 11 [ResultVar.tmp 2, ResultVar.tmp 3] TSP_ok Try.func114 rfl Try.ntmps114 rfl fun cx hnt hn0 => ?_
  ·skip
   refine dw_seq ?_; refine dwk [] TSP_ok hnt fun K hK => ?_; refine hK _ _ ?_; clear hK K; refine dw_seq ?_; refine dwk [(6, .sl 5 (ePairs (So.ss l)) none)] TSP_ok hnt fun K hK => ?_; refine dcn (hs _) ?_; refine And.intro (VLe.untag _ _ _) ?_; refine hK _ _ ?_; clear hK K; refine dw_seq ?_; refine dw_seq ?_; refine dwk [] TSP_ok hnt fun K hK => ?_; refine dcl (hr) ?_; refine hK _ _ ?_; clear hK K; refine dw_cond (t := true) rfl ?_
   rw [if_pos rfl]; refine dw_seq ?_; refine dwk [] TSP_ok hnt fun K hK => ?_; refine hK _ _ ?_; clear hK K; refine dw_ret ?_
   exact reta rfl
end Go.Proofs.Ytcblpjheoclkeaa

namespace Go.Proofs.Ytcblpjheoclkeaa
open Go.RowKit
def TPM_34 : TI := ⟨4, true, [Value.slice none 0 0, Value.int IntKind.i64 0, Value.int IntKind.i64 0, Value.slice none 0 0], [(0, 1, false), (1, 2, true), (3, 1, false)], none, 64, 6, none, false⟩
theorem TPM_34_ok : TypOk Try.prog 34 TPM_34 := ⟨by kernel_rfl, by kernel_rfl, by kernel_rfl, by kernel_rfl, by kernel_rfl⟩
def TPM_103 : TI := ⟨8, true, [Value.slice none 0 0, Value.int IntKind.i64 0, Value.int IntKind.i64 0, Value.slice none 0 0, Value.slice none 0 0, Value.int IntKind.i64 0, Value.int IntKind.i64 0, Value.slice none 0 0], [(0, 4, true), (4, 4, true)], none, 128, 6, none, false⟩
theorem TPM_103_ok : TypOk Try.prog 103 TPM_103 := ⟨by kernel_rfl, by kernel_rfl, by kernel_rfl, by kernel_rfl, by kernel_rfl⟩
def TPM_169 : TI := ⟨1, false, [Value.slice none 0 0], [], some 103, 24, 5, none, false⟩
theorem TPM_169_ok : TypOk Try.prog 169 TPM_169 := ⟨by kernel_rfl, by kernel_rfl, by kernel_rfl, by kernel_rfl, by kernel_rfl⟩
def TPM_173 : TI := ⟨1, true, [Value.map none], [(0, 1, false)], none, 8, 6, none, false⟩
theorem TPM_173_ok : TypOk Try.prog 173 TPM_173 := ⟨by kernel_rfl, by kernel_rfl, by kernel_rfl, by kernel_rfl, by kernel_rfl⟩
def TPM_46 : TI := ⟨1, false, [Value.slice none 0 0], [], some 88, 24, 5, none, false⟩
theorem TPM_46_ok : TypOk Try.prog 46 TPM_46 := ⟨by kernel_rfl, by kernel_rfl, by kernel_rfl, by kernel_rfl, by kernel_rfl⟩
def TPM_3 : TI := ⟨1, false, [Value.int IntKind.i64 0], [], none, 8, 2, none, false⟩
theorem TPM_3_ok : TypOk Try.prog 3 TPM_3 := ⟨by kernel_rfl, by kernel_rfl, by kernel_rfl, by kernel_rfl, by kernel_rfl⟩
def TPM_171 : TI := ⟨1, false, [Value.map none], [], none, 8, 7, some 34, false⟩
theorem TPM_171_ok : TypOk Try.prog 171 TPM_171 := ⟨by kernel_rfl, by kernel_rfl, by kernel_rfl, by kernel_rfl, by kernel_rfl⟩
def TPM_35 : TI := ⟨1, false, [Value.int IntKind.i64 0], [], none, 8, 2, none, false⟩
theorem TPM_35_ok : TypOk Try.prog 35 TPM_35 := ⟨by kernel_rfl, by kernel_rfl, by kernel_rfl, by kernel_rfl, by kernel_rfl⟩
def TPM_88 : TI := ⟨5, true, [Value.int IntKind.i64 0, Value.slice none 0 0, Value.int IntKind.i64 0, Value.int IntKind.i64 0, Value.slice none 0 0], [(0, 1, false), (1, 4, true)], none, 72, 6, none, false⟩
theorem TPM_88_ok : TypOk Try.prog 88 TPM_88 := ⟨by kernel_rfl, by kernel_rfl, by kernel_rfl, by kernel_rfl, by kernel_rfl⟩
def TPM_30 : TI := ⟨1, false, [Value.slice none 0 0], [], some 83, 24, 5, none, false⟩
theorem TPM_30_ok : TypOk Try.prog 30 TPM_30 := ⟨by kernel_rfl, by kernel_rfl, by kernel_rfl, by kernel_rfl, by kernel_rfl⟩
def TPM_83 : TI := ⟨2, true, [Value.slice none 0 0, Value.int IntKind.i64 0], [(0, 1, false), (1, 1, false)], none, 32, 6, none, false⟩
theorem TPM_83_ok : TypOk Try.prog 83 TPM_83 := ⟨by kernel_rfl, by kernel_rfl, by kernel_rfl, by kernel_rfl, by kernel_rfl⟩
def TPM : List (Nat × TI) := [(34, TPM_34), (103, TPM_103), (169, TPM_169), (173, TPM_173), (46, TPM_46), (3, TPM_3), (171, TPM_171), (35, TPM_35), (88, TPM_88), (30, TPM_30), (83, TPM_83)]
theorem TPM_ok : TabOk Try.prog TPM := ((((((((((((TabOk.nil _).cons TPM_83_ok).cons TPM_30_ok).cons TPM_88_ok).cons TPM_35_ok).cons TPM_171_ok).cons TPM_3_ok).cons TPM_46_ok).cons TPM_173_ok).cons TPM_169_ok).cons TPM_103_ok).cons TPM_34_ok)

def ePP (p : Tm × Tm) : List D := eTm p.1 ++ eTm p.2
def ePPs (l : List (Tm × Tm)) : List (List D) := l.map ePP
theorem ePP_eq (p : Tm × Tm) : ePP p = [.sl 2 (eTys p.1.binds) none, .v (.int .i64 p.1.kind), .v (.int .i64 p.1.index), .sl 4 (eTms p.1.args) none, .sl 2 (eTys p.2.binds) none, .v (.int .i64 p.2.kind), .v (.int .i64 p.2.index), .sl 4 (eTms p.2.args) none] := by unfold ePP; rw [eTm_eq, eTm_eq]; rfl
theorem ePPs_len (l : List (Tm × Tm)) : (ePPs l).length = l.length := List.length_map ..
theorem ePPs_getD (l : List (Tm × Tm)) (i : Nat) (h : i < l.length) : (ePPs l).getD i [] = ePP l[i] := by
  rw [ePPs, List.getD_eq_getElem?_getD, List.getElem?_map, List.getElem?_eq_getElem h]; rfl
@[simp] theorem ePPs_ok (f g : Nat → Bool) (l : List (Tm × Tm)) : D.okss f g (ePPs l) = true := D.okss_map _ l fun p _ => by simp [ePP_eq, D.oks, D.ok, eTms_ok, eTys_ok]
theorem ePPs_one (p : Tm × Tm) : ePPs [p] = [[.sl 2 (eTys p.1.binds) none, .v (.int .i64 p.1.kind), .v (.int .i64 p.1.index), .sl 4 (eTms p.1.args) none, .sl 2 (eTys p.2.binds) none, .v (.int .i64 p.2.kind), .v (.int .i64 p.2.index), .sl 4 (eTms p.2.args) none]] := by rw [← ePP_eq]; rfl
theorem ePairs_snoc' (l : List (Int × Tm)) (p : Int × Tm) : ePairs l ++ [[.v (.int .i64 p.1), .sl 2 (eTys p.2.binds) none, .v (.int .i64 p.2.kind), .v (.int .i64 p.2.index), .sl 4 (eTms p.2.args) none]] = ePairs (l ++ [p]) := by
  rw [← ePair_eq, ePairs, ePairs, List.map_append]; rfl
theorem eBd_len (b : Pn.Bd) : (eBd b).length = b.length := List.length_map ..
theorem eBd_get (b : Pn.Bd) (i : Nat) (h : i < (eBd b).length) : (eBd b)[i] = ((b[i]'(by rw [eBd_len] at h; exact h)).1, .ag (eTm (b[i]'(by rw [eBd_len] at h; exact h)).2)) := by
  simp [eBd]
theorem ss_perm {l b : List (Int × Tm)} (h : l.Perm b) (hk : (b.map (·.1)).Nodup) : So.ss l = So.ss b := by
  refine So.ss_cong fun k => ?_
  have h1 : (b.filter fun a => a.1 == k).length ≤ 1 := by
    clear h
    induction b with
    | nil => simp
    | cons p b ih =>
      rw [List.map_cons, List.nodup_cons] at hk
      rw [List.filter_cons]
      split
      · rename_i he
        have : b.filter (fun a => a.1 == k) = [] := by
          rw [List.filter_eq_nil_iff]
          intro a ha
          have hne : a.1 ≠ p.1 := fun e => hk.1 (List.mem_map.2 ⟨a, ha, e⟩)
          simp only [beq_iff_eq] at he ⊢
          rw [← he]; exact hne
        rw [this]; simp
      · exact ih hk.2
  have hp := h.filter fun a => a.1 == k
  generalize b.filter (fun a => a.1 == k) = c at hp h1
  cases c with
  | nil => exact List.perm_nil.1 hp
  | cons x c =>
    cases c with
    | nil => exact List.perm_singleton.1 hp
    | cons y c => simp at h1
theorem right_ss {b : List (Int × Tm)} (hk : (b.map (·.1)).Nodup) : Sb.right (So.ss b) = true := by
  have h1 := So.ss_srt b
  have h2 : ((So.ss b).map (·.1)).Nodup := by
    have hp : (So.ss b).Perm b := by
      unfold So.ss
      have key : ∀ l : List (Int × Tm), (So.ssr l).Perm l := by
        intro l
        induction l with
        | nil => exact List.Perm.nil
        | cons x l ih =>
          have hi : ∀ m : List (Int × Tm), (So.ins x m).Perm (x :: m) := by
            intro m
            induction m with
            | nil => exact List.Perm.refl _
            | cons y m ihm =>
              rw [So.ins]
              split
              · exact (List.Perm.cons y ihm).trans (List.Perm.swap _ _ _)
              · exact List.Perm.refl _
          exact (hi _).trans (List.Perm.cons x ih)
      exact (key _).trans (List.reverse_perm b)
    exact (hp.map _).nodup_iff.2 hk
  unfold Sb.right
  rw [decide_eq_true_iff]
  have h3 : (So.ss b).Pairwise fun a b => a.1 ≠ b.1 := List.pairwise_map.1 h2
  exact (h1.and h3).imp fun h => by omega
set_option maxHeartbeats 1000000 in
theorem msubst_d (b : Pn.Bd) (hb : Pn.BdOk b) (hl : b.length ≤ 100000) : CallC Try.prog 85 [.mo 0] [(.o 0, .mp (eBd b))] [] (.sl 5 (ePairs (So.ss b)) none) := by
 have hrt := right_ss hb.keys
 refine calldw 1 27 [ResultVar.tmp 2] TPM_ok Try.func85 rfl Try.ntmps85 rfl fun cx hnt hn0 => ?_
 ·skip
  refine dw_seq ?_; refine dwk [] TPM_ok hnt fun K hK => ?_; refine hK _ _ ?_; clear hK K; refine dw_seq ?_; refine dwk [] TPM_ok hnt fun K hK => ?_; refine hK _ _ ?_; clear hK K; refine dw_seq ?_; refine dw_seq ?_
  refine dw_q [] TPM_ok (by kernel_rfl) hnt (by kernel_rfl) (by simp; rfl) fun K hK => ?_
  intro bm es clk hes
  refine hK _ ?_; clear hK K
  have hel := eBd_len b
  refine dw_block ?_
  refine dw_loop (ι := { q : List Nat × Option Nat × List (Int × Tm) // (q.2.2 ++ q.1.map fun i => b.getD i (0, Tm.zero)).Perm b }) (fun q => [(.t 9, .o 4), (.t 3, .sl 5 (ePairs q.1.2.2) (some 5)), (.r 5, .rw 88 5 q.1.2.2.length), (.o 4, .it 0 bm es clk q.1.1 q.1.2.1), (.o 0, .mq bm es clk (eBd b))]) 6 (fun q => q.1.1.length) (⟨(List.range b.length, none, []), by rw [List.nil_append]; exact List.Perm.of_eq (List.ext_getElem (by simp) fun i h1 h2 => by simp [List.getD_eq_getElem?_getD, h2])⟩) ((VS.trans (VS.rowT (x := 3) (by rw [hnt]; decide) 88 5 rfl) (by rw [hel]; exact VS.toA))) fun q => ?_
  obtain ⟨⟨rem, last, acc⟩, hq⟩ := q
  dsimp only at hq ⊢
  have hal : acc.length ≤ b.length := by have := hq.length_eq; rw [List.length_append] at this; omega
  by_cases hrem : rem = []
  ·subst hrem
   rw [List.map_nil, List.append_nil] at hq
   have hss := ss_perm hq hb.keys
   have hOf := sOf_d acc (by omega) fun p hp => ⟨hb.full p (hq.mem_iff.1 hp), hb.fit p (hq.mem_iff.1 hp)⟩
   rw [hss, hrt, if_pos rfl, if_pos rfl] at hOf
   refine dw_seq ?_
   refine dw_q [] TPM_ok (by kernel_rfl) hnt (by kernel_rfl) (by simp; rfl) fun K hK => ?_
   refine And.intro ⟨rfl, rfl⟩ (Or.inl ⟨rfl, ?_⟩); refine hK _ ?_; clear hK K; refine dw_seq ?_; refine dw_cond (t := false) rfl ?_; rw [if_neg (by simp)]; refine dw_exit ?_; refine dw_seq ?_; refine dwk [(22, .sl 5 (ePairs acc) none)] TPM_ok hnt fun K hK => ?_; refine And.intro (VLe.untag _ _ _) ?_; refine dcl (hOf) ?_; refine hK _ _ ?_; clear hK K; refine dw_seq ?_; refine dwk [] TPM_ok hnt fun K hK => ?_
   refine hK _ _ ?_; clear hK K; refine dw_ret ?_
   exact reta rfl
  ·skip
   refine dw_seq ?_
   refine dw_q [] TPM_ok (by kernel_rfl) hnt (by kernel_rfl) (by simp; rfl) fun K hK => ?_
   refine And.intro ⟨rfl, rfl⟩ (Or.inr ⟨hrem, fun ix hix hil => ?_⟩); refine hK _ ?_; clear hK K; refine dw_seq ?_; refine dw_cond (t := true) rfl ?_; rw [if_pos rfl]
   have hib : ix < b.length := by rw [← hel]; exact hil
   have hgd : (b.getD ix (0, Tm.zero)) = b[ix] := by rw [List.getD_eq_getElem?_getD, List.getElem?_eq_getElem hib]; rfl
   have hep := eBd_get b ix hil
   obtain ⟨p, hp⟩ : ∃ p, b[ix] = p := ⟨_, rfl⟩
   rw [hp] at hgd hep
   have hsn := ePairs_snoc' acc p
   have hpm : ((acc ++ [p]) ++ (rem.erase ix).map fun i => b.getD i (0, Tm.zero)).Perm b := by
    refine List.Perm.trans ?_ hq
    rw [List.append_assoc]
    refine List.Perm.append_left _ ?_
    have := (List.perm_cons_erase hix).map fun i => b.getD i (0, Tm.zero)
    rw [List.map_cons, hgd] at this
    exact this.symm
   refine dw_skip ?_; refine dw_block ?_; refine dw_seq ?_
   refine dw_q [(12, .tu [.v (.int .i64 p.1), .ag [.sl 2 (eTys p.2.binds) none, .v (.int .i64 p.2.kind), .v (.int .i64 p.2.index), .sl 4 (eTms p.2.args) none]])] TPM_ok (by kernel_rfl) hnt (by kernel_rfl) (by simp; rfl) fun K hK => ?_
   refine And.intro ⟨rfl, rfl⟩ ⟨hil, ?_⟩; refine And.intro (VLe.of_eq (by rw [hep, ← eTm_eq])) ?_; refine hK _ ?_; clear hK K; refine dwk [(20, .sl 5 (ePairs (acc ++ [p])) (some 5))] TPM_ok hnt fun K hK => ?_; refine And.intro (⟨by rw [ePairs_len], by rw [ePairs_len]; simp; omega⟩) ?_; refine And.intro (VLe.of_eq (by rw [← hsn])) ?_; refine hK _ _ ?_; clear hK K
   have hpl : (ePairs acc).length = acc.length := ePairs_len acc
   refine ⟨⟨(rem.erase ix, some ix, acc ++ [p]), hpm⟩, by dsimp only; rw [List.length_erase_of_mem hix]; have := List.length_pos_of_mem hix; omega, (by try simp only [List.length_append, List.length_take, List.length_cons, List.length_nil, Nat.zero_add, hpl]; exact VS.toA)⟩

namespace Pn
theorem bput_len (b : Bd) (m : Int) (t : Tm) : (bput b m t).2.length ≤ b.length + 1 := by unfold bput; split <;> simp
theorem flex_len (b : Bd) (p t : Tm) (ar : List Ty) : (flex b p t ar).2.length ≤ b.length + 1 := by
  unfold flex
  split
  · exact Nat.le_succ _
  · split
    · exact bput_len _ _ _
    · exact Nat.le_succ _
theorem walk_len (p : Tm) : ∀ (t : Tm) (ar : List Ty) (b : Bd), (walk p t ar b).2.length ≤ b.length + p.full := by
  induction p using Tm.ind with
  | h bs k i a ih =>
    intro t ar b
    rw [Tm.full_eq, walk]
    split
    · exact Nat.le_add_right _ _
    · split
      · have := flex_len b (.mk bs k i a) t (ar ++ bs); omega
      · split
        · exact Nat.le_add_right _ _
        · have key : ∀ (m ts : List Tm) (b : Bd), (∀ x ∈ m, x ∈ a) → (walks m ts (ar ++ bs) b).2.length ≤ b.length + Tm.fulls m := by
            intro m
            induction m with
            | nil => intro ts b _; rw [walks]; exact Nat.le_add_right _ _
            | cons x m ihm =>
              intro ts b hm
              have h1 := ih x (hm x (by simp)) (ts.headD Tm.zero) (ar ++ bs) b
              rw [walks, Tm.fulls]
              split
              · have h2 := ihm ts.tail (walk x (ts.headD Tm.zero) (ar ++ bs) b).2 fun y hy => hm y (by simp [hy])
                omega
              · omega
          have := key a t.args b fun _ h => h
          omega
theorem mayAll_app (l : List (Tm × Tm)) (r : List (Tm × Tm)) (h : mayAll l = 0) : mayAll (l ++ r) = mayAll r := by
  induction l with
  | nil => rfl
  | cons p l ih =>
    rw [mayAll] at h
    split at h
    · rename_i h0
      rw [List.cons_append, mayAll, if_pos h0, ih h]
    · rename_i h0; exact absurd h h0
theorem mayAll_at (l : List (Tm × Tm)) (j : Nat) (hj : j < l.length) (h : mayAll (l.take j) = 0) : (may l[j].1 = 0 → mayAll (l.take (j + 1)) = 0) ∧ (may l[j].1 ≠ 0 → mayAll l = may l[j].1) := by
  constructor
  · intro h0
    rw [List.take_add_one, List.getElem?_eq_getElem hj, mayAll_app _ _ h, Option.toList_some, mayAll, if_pos h0, mayAll]
  · intro h0
    have e : l = l.take j ++ l[j] :: l.drop (j + 1) := by rw [← List.drop_eq_getElem_cons hj, List.take_append_drop]
    have : mayAll (l.take j ++ l[j] :: l.drop (j + 1)) = may l[j].1 := by rw [mayAll_app _ _ h, mayAll, if_neg h0]
    rw [← e] at this; exact this
theorem walkL_app (l r : List (Tm × Tm)) : ∀ b, walkL (l ++ r) b = (walkL l b).bind (walkL r) := by
  induction l with
  | nil => intro b; rfl
  | cons p l ih =>
    intro b
    rw [List.cons_append, walkL, walkL]
    split
    · exact ih _
    · rfl
theorem walkL_at (l : List (Tm × Tm)) (j : Nat) (hj : j < l.length) {b : Bd} (h : walkL (l.take j) [] = some b) : ((walk l[j].1 l[j].2 [] b).1 = true → walkL (l.take (j + 1)) [] = some (walk l[j].1 l[j].2 [] b).2) ∧ ((walk l[j].1 l[j].2 [] b).1 = false → walkL l [] = none) := by
  constructor
  · intro h0
    rw [List.take_add_one, List.getElem?_eq_getElem hj, walkL_app, h, Option.toList_some]
    show walkL [l[j]] b = _
    rw [walkL, if_pos h0, walkL]
  · intro h0
    have e : l = l.take j ++ l[j] :: l.drop (j + 1) := by rw [← List.drop_eq_getElem_cons hj, List.take_append_drop]
    have : walkL (l.take j ++ l[j] :: l.drop (j + 1)) [] = none := by
      rw [walkL_app, h]
      show walkL (l[j] :: _) b = none
      rw [walkL, if_neg (by simp [h0])]
    rw [← e] at this; exact this
end Pn
theorem eBd_renm (ρ : Nat → Nat) (b : Pn.Bd) : D.renm ρ (eBd b) = eBd b := D.renm_id (f := fun _ => false) (g := fun _ => false) (fun _ h => by cases h) _ (eBd_ok _ _ b)
theorem mwalk_at (k : Nat) (p t : Tm) (b : Pn.Bd) (hz : p.full ≤ 250) (hp : p.Fit) (ht : t.full ≤ 10000) (hlow : lowB t = true) (hft : t.Fit) :
    CallC Try.prog 84 [.ag [.mo k], .ag (eTm p), .ag (eTm t), .v (.slice none 0 0)] [(.o k, .mp (eBd b))] [(.o k, .mp (eBd (Pn.walk p t [] b).2))] (.v (.bool (Pn.walk p t [] b).1)) := by
  have h := (mwalk_d p t [] b (by simp [Ty.sizes]; omega) hp ht hlow hft).ren (fun _ => k) (by simp [renOk, D.ok, D.oks, rnames, inN, ckey, eTm_ok, eTms_ok, eTys_ok, eBd_ok]) (by intro a h1 b h2; simp [rnames] at h1 h2; omega)
  simp only [List.map_cons, List.map_nil, D.ren, D.rens, renE, Key.ren, eTm_ren, eTys_ren, eBd_renm] at h
  exact CallC.vle h (.cons (VLe.refl _) (.cons (VLe.refl _) (.cons (VLe.refl _) (.cons (VLe.nil _) .nil)))) (VLe.refl _)
theorem msubst_at (k : Nat) (b : Pn.Bd) (hb : Pn.BdOk b) (hl : b.length ≤ 100000) : CallC Try.prog 85 [.mo k] [(.o k, .mp (eBd b))] [] (.sl 5 (ePairs (So.ss b)) none) := by
  have h := (msubst_d b hb hl).ren (fun _ => k) (by simp [renOk, D.ok, D.oks, rnames, inN, ckey, ePairs_ok, eBd_ok]) (by intro a h1 b h2; simp [rnames] at h1 h2; omega)
  simpa only [List.map_cons, List.map_nil, D.ren, D.rens, renE, Key.ren, ePairs_ren, eBd_renm] using h
def PPok (p : Tm × Tm) : Prop := p.1.full ≤ 250 ∧ p.1.Fit ∧ p.2.full ≤ 10000 ∧ lowB p.2 = true ∧ p.2.Fit
set_option maxHeartbeats 2000000 in
theorem mAll_d (l : List (Tm × Tm)) (hl : l.length ≤ 100) (hp : ∀ p ∈ l, PPok p) : PureC Try.prog 51 [.sl 8 (ePPs l) none] (.tu [.sl 5 (ePairs (Pn.mAll l).1) none, .v (.int .i64 (Pn.mAll l).2)]) := by
 refine calldw 0 42 [ResultVar.tmp 2, ResultVar.tmp 3] TPM_ok Try.func51 rfl Try.ntmps51 rfl fun cx hnt hn0 => ?_
 ·skip
  refine dw_seq ?_; refine dwk [] TPM_ok hnt fun K hK => ?_; refine hK _ _ ?_; clear hK K; refine dw_seq ?_; refine dw_seq ?_; refine dwk [(11, .v (.int .i64 (↑l.length)))] TPM_ok hnt fun K hK => ?_; refine And.intro (dintE (by rw [ePPs_len])) ?_; refine hK _ _ ?_; clear hK K; refine dw_block ?_
  refine dw_loop (ι := { j : Nat // Pn.mayAll (l.take j) = 0 }) (fun j => [(.t 0, .sl 8 (ePPs l) none), (.t 10, .sl 8 (ePPs l) none), (.t 11, .v (.int .i64 ↑l.length)), (.t 12, .v (.int .i64 ↑j.1))]) 0 (fun j => l.length - j.1) (⟨0, rfl⟩) (VS.toA) fun j => ?_
  obtain ⟨j, hj⟩ := j
  dsimp only
  by_cases hlt : j < l.length
  ·have hst := Pn.mayAll_at l j hlt hj
   have hok := hp _ (List.getElem_mem hlt)
   have hm := mmay_d l[j].1 (by have := hok.1; omega) hok.2.1
   rw [eTm_eq] at hm
   by_cases h0 : Pn.may l[j].1 = 0
   ·rw [h0] at hm
    refine dw_seq ?_; refine dwk [(13, .v (.bool true))] TPM_ok hnt fun K hK => ?_; refine And.intro auT ?_; refine hK _ _ ?_; clear hK K; refine dw_seq ?_; refine dw_cond (t := true) rfl ?_; rw [if_pos rfl]; refine dw_skip ?_; refine dw_seq ?_; refine dw_block ?_; refine dw_seq ?_; refine dwk [(14, .q [.sl 2 (eTys l[j].1.binds) none, .v (.int .i64 l[j].1.kind), .v (.int .i64 l[j].1.index), .sl 4 (eTms l[j].1.args) none, .sl 2 (eTys l[j].2.binds) none, .v (.int .i64 l[j].2.kind), .v (.int .i64 l[j].2.index), .sl 4 (eTms l[j].2.args) none])] TPM_ok hnt fun K hK => ?_
    refine And.intro (elo (ePPs_len l)) ?_; refine And.intro (elv (ePPs_getD l j) (ePP_eq _)) ?_; refine hK _ _ ?_; clear hK K; refine dw_seq ?_; refine dwk [] TPM_ok hnt fun K hK => ?_; refine dcl (hm) ?_; refine hK _ _ ?_; clear hK K; refine dw_seq ?_; refine dwk [(20, .v (.bool false))] TPM_ok hnt fun K hK => ?_; refine And.intro auF ?_; refine hK _ _ ?_; clear hK K; refine dw_cond (t := false) rfl ?_
    rw [if_neg (by simp)]; refine dw_skip ?_; refine dwk [(22, .v (.int .i64 (↑(j + 1))))] TPM_ok hnt fun K hK => ?_; refine And.intro auI ?_; refine hK _ _ ?_; clear hK K
    refine ⟨⟨j + 1, hst.1 h0⟩, by first | omega | (dsimp only; omega), VS.toA⟩
   ·have hv : Pn.mAll l = ([], Pn.may l[j].1) := by unfold Pn.mAll; rw [hst.2 h0, if_neg h0]
    rw [hv]
    refine dw_seq ?_; refine dwk [(13, .v (.bool true))] TPM_ok hnt fun K hK => ?_; refine And.intro auT ?_; refine hK _ _ ?_; clear hK K; refine dw_seq ?_; refine dw_cond (t := true) rfl ?_; rw [if_pos rfl]; refine dw_skip ?_; refine dw_seq ?_; refine dw_block ?_; refine dw_seq ?_; refine dwk [(14, .q [.sl 2 (eTys l[j].1.binds) none, .v (.int .i64 l[j].1.kind), .v (.int .i64 l[j].1.index), .sl 4 (eTms l[j].1.args) none, .sl 2 (eTys l[j].2.binds) none, .v (.int .i64 l[j].2.kind), .v (.int .i64 l[j].2.index), .sl 4 (eTms l[j].2.args) none])] TPM_ok hnt fun K hK => ?_
    refine And.intro (elo (ePPs_len l)) ?_; refine And.intro (elv (ePPs_getD l j) (ePP_eq _)) ?_; refine hK _ _ ?_; clear hK K; refine dw_seq ?_; refine dwk [] TPM_ok hnt fun K hK => ?_; refine dcl (hm) ?_; refine hK _ _ ?_; clear hK K; refine dw_seq ?_; refine dwk [(20, .v (.bool true))] TPM_ok hnt fun K hK => ?_; refine And.intro (bneT h0) ?_; refine hK _ _ ?_; clear hK K; refine dw_cond (t := true) rfl ?_
    rw [if_pos rfl]; refine dw_seq ?_; refine dwk [] TPM_ok hnt fun K hK => ?_; refine hK _ _ ?_; clear hK K; refine dw_ret ?_
    exact reta rfl
  ·rw [List.take_of_length_le (by omega)] at hj
   refine dw_seq ?_; refine dwk [(13, .v (.bool false))] TPM_ok hnt fun K hK => ?_; refine And.intro auF ?_; refine hK _ _ ?_; clear hK K; refine dw_seq ?_; refine dw_cond (t := false) rfl ?_; rw [if_neg (by simp)]; refine dw_exit ?_; refine dw_seq ?_; refine dwk [] TPM_ok hnt fun K hK => ?_; refine hK _ _ ?_; clear hK K; refine dw_seq ?_; refine dw_seq ?_; refine dwk [(26, .v (.int .i64 (↑l.length)))] TPM_ok hnt fun K hK => ?_
   refine And.intro (dintE (by rw [ePPs_len])) ?_; refine hK _ _ ?_; clear hK K; refine dw_block ?_
   refine dw_loop (ι := { q : Nat × Pn.Bd // Pn.walkL (l.take q.1) [] = some q.2 ∧ Pn.BdOk q.2 ∧ q.2.length ≤ 250 * q.1 ∧ q.1 ≤ l.length }) (fun q => [(.t 7, .p 3 0), (.c 3 0, .mo 1), (.o 1, .mp (eBd q.1.2)), (.t 25, .sl 8 (ePPs l) none), (.t 26, .v (.int .i64 ↑l.length)), (.t 27, .v (.int .i64 ↑q.1.1))]) 4 (fun q => l.length - q.1.1) (⟨(0, []), by rw [List.take_zero]; exact ⟨rfl, Pn.bdOk_nil, Nat.zero_le _, Nat.zero_le _⟩⟩) ((VS.toK (by omega) (by repeat first | exact trivial | refine And.intro (And.intro (by first | rfl | simp [D.ok, D.oks, D.okss, D.okm, upto, keyOk, eBd]) (by first | exact Or.inl rfl | exact Or.inr ⟨_, rfl, (by repeat first | exact VLe.refl _ | exact VLe.nil _ | exact VLe.untag _ _ _ | refine VLe.ag ?_ | refine VLe.tu ?_ | refine VLeL.cons ?_ ?_ | exact VLeL.nil), trivial⟩ | simp [get, Key.eq, eBd])) ?_))) fun q => ?_
   obtain ⟨⟨k, b⟩, hw, hb, hbl, hkl⟩ := q
   dsimp only at hw hb hbl hkl ⊢
   by_cases hlt : k < l.length
   ·obtain ⟨ok1, ok2, ok3, ok4, ok5⟩ := hp _ (List.getElem_mem hlt)
    have hst := Pn.walkL_at l k hlt hw
    have hbd := Pn.walk_bd l[k].1 l[k].2 [] b hb (by simp [Ty.sizes]; omega) ok3 ok4 ok5
    have hbl2 := Pn.walk_len l[k].1 l[k].2 [] b
    have hcw := mwalk_at 1 l[k].1 l[k].2 b ok1 ok2 ok3 ok4 ok5
    obtain ⟨⟨wb, wl⟩, hwk⟩ : ∃ r, Pn.walk l[k].1 l[k].2 [] b = r := ⟨_, rfl⟩
    rw [hwk] at hst hbd hbl2 hcw
    rw [eTm_eq, eTm_eq] at hcw
    dsimp only at hst hbd hbl2 hcw
    cases wb with
    | true =>
     refine dw_seq ?_; refine dwk [(28, .v (.bool true))] TPM_ok hnt fun K hK => ?_; refine And.intro auT ?_; refine hK _ _ ?_; clear hK K; refine dw_seq ?_; refine dw_cond (t := true) rfl ?_; rw [if_pos rfl]; refine dw_skip ?_; refine dw_seq ?_; refine dw_block ?_; refine dw_seq ?_; refine dwk [(29, .q [.sl 2 (eTys l[k].1.binds) none, .v (.int .i64 l[k].1.kind), .v (.int .i64 l[k].1.index), .sl 4 (eTms l[k].1.args) none, .sl 2 (eTys l[k].2.binds) none, .v (.int .i64 l[k].2.kind), .v (.int .i64 l[k].2.index), .sl 4 (eTms l[k].2.args) none])] TPM_ok hnt fun K hK => ?_
     refine And.intro (elo (ePPs_len l)) ?_; refine And.intro (elv (ePPs_getD l k) (ePP_eq _)) ?_; refine hK _ _ ?_; clear hK K; refine dw_seq ?_; refine dwk [] TPM_ok hnt fun K hK => ?_; refine dcl (hcw) ?_; refine hK _ _ ?_; clear hK K; refine dw_cond (t := false) rfl ?_; rw [if_neg (by simp)]; refine dw_skip ?_; refine dwk [(38, .v (.int .i64 (↑(k + 1))))] TPM_ok hnt fun K hK => ?_; refine And.intro auI ?_
     refine hK _ _ ?_; clear hK K
     refine ⟨⟨(k + 1, wl), hst.1 rfl, hbd, by dsimp only; omega, hlt⟩, by first | omega | (dsimp only; omega), VS.toA⟩
    | false =>
     have hv : Pn.mAll l = ([], 9) := by unfold Pn.mAll; rw [if_pos hj, hst.2 rfl]
     rw [hv]
     refine dw_seq ?_; refine dwk [(28, .v (.bool true))] TPM_ok hnt fun K hK => ?_; refine And.intro auT ?_; refine hK _ _ ?_; clear hK K; refine dw_seq ?_; refine dw_cond (t := true) rfl ?_; rw [if_pos rfl]; refine dw_skip ?_; refine dw_seq ?_; refine dw_block ?_; refine dw_seq ?_; refine dwk [(29, .q [.sl 2 (eTys l[k].1.binds) none, .v (.int .i64 l[k].1.kind), .v (.int .i64 l[k].1.index), .sl 4 (eTms l[k].1.args) none, .sl 2 (eTys l[k].2.binds) none, .v (.int .i64 l[k].2.kind), .v (.int .i64 l[k].2.index), .sl 4 (eTms l[k].2.args) none])] TPM_ok hnt fun K hK => ?_
     refine And.intro (elo (ePPs_len l)) ?_; refine And.intro (elv (ePPs_getD l k) (ePP_eq _)) ?_; refine hK _ _ ?_; clear hK K; refine dw_seq ?_; refine dwk [] TPM_ok hnt fun K hK => ?_; refine dcl (hcw) ?_; refine hK _ _ ?_; clear hK K; refine dw_cond (t := true) rfl ?_; rw [if_pos rfl]; refine dw_seq ?_; refine dwk [] TPM_ok hnt fun K hK => ?_; refine hK _ _ ?_; clear hK K; refine dw_ret ?_
     exact reta rfl
   ·rw [List.take_of_length_le (by omega)] at hw
    have hv : Pn.mAll l = (So.ss b, 0) := by unfold Pn.mAll; rw [if_pos hj, hw]
    have hsb := msubst_at 1 b hb (by omega)
    rw [hv]
    refine dw_seq ?_; refine dwk [(28, .v (.bool false))] TPM_ok hnt fun K hK => ?_; refine And.intro auF ?_; refine hK _ _ ?_; clear hK K; refine dw_seq ?_; refine dw_cond (t := false) rfl ?_; rw [if_neg (by simp)]; refine dw_exit ?_; refine dw_seq ?_; refine dwk [] TPM_ok hnt fun K hK => ?_; refine dcl (hsb) ?_; refine hK _ _ ?_; clear hK K; refine dw_ret ?_
    exact reta rfl
end Go.Proofs.Ytcblpjheoclkeaa

namespace Go.Proofs.Ytcblpjheoclkeaa
open Go.RowKit
def TKM_34 : TI := ⟨4, true, [Value.slice none 0 0, Value.int IntKind.i64 0, Value.int IntKind.i64 0, Value.slice none 0 0], [(0, 1, false), (1, 2, true), (3, 1, false)], none, 64, 6, none, false⟩
theorem TKM_34_ok : TypOk Try.prog 34 TKM_34 := ⟨by kernel_rfl, by kernel_rfl, by kernel_rfl, by kernel_rfl, by kernel_rfl⟩
def TKM_32 : TI := ⟨1, false, [Value.slice none 0 0], [], some 34, 24, 5, none, false⟩
theorem TKM_32_ok : TypOk Try.prog 32 TKM_32 := ⟨by kernel_rfl, by kernel_rfl, by kernel_rfl, by kernel_rfl, by kernel_rfl⟩
def TKM_3 : TI := ⟨1, false, [Value.int IntKind.i64 0], [], none, 8, 2, none, false⟩
theorem TKM_3_ok : TypOk Try.prog 3 TKM_3 := ⟨by kernel_rfl, by kernel_rfl, by kernel_rfl, by kernel_rfl, by kernel_rfl⟩
def TKM_30 : TI := ⟨1, false, [Value.slice none 0 0], [], some 83, 24, 5, none, false⟩
theorem TKM_30_ok : TypOk Try.prog 30 TKM_30 := ⟨by kernel_rfl, by kernel_rfl, by kernel_rfl, by kernel_rfl, by kernel_rfl⟩
def TKM_83 : TI := ⟨2, true, [Value.slice none 0 0, Value.int IntKind.i64 0], [(0, 1, false), (1, 1, false)], none, 32, 6, none, false⟩
theorem TKM_83_ok : TypOk Try.prog 83 TKM_83 := ⟨by kernel_rfl, by kernel_rfl, by kernel_rfl, by kernel_rfl, by kernel_rfl⟩
def TKM_35 : TI := ⟨1, false, [Value.int IntKind.i64 0], [], none, 8, 2, none, false⟩
theorem TKM_35_ok : TypOk Try.prog 35 TKM_35 := ⟨by kernel_rfl, by kernel_rfl, by kernel_rfl, by kernel_rfl, by kernel_rfl⟩
def TKM_31 : TI := ⟨2, true, [Value.int IntKind.i64 0, Value.int IntKind.i64 0], [(0, 1, false), (1, 1, false)], none, 16, 6, none, true⟩
theorem TKM_31_ok : TypOk Try.prog 31 TKM_31 := ⟨by kernel_rfl, by kernel_rfl, by kernel_rfl, by kernel_rfl, by kernel_rfl⟩
def TKM_47 : TI := ⟨1, false, [Value.slice none 0 0], [], some 88, 24, 5, none, false⟩
theorem TKM_47_ok : TypOk Try.prog 47 TKM_47 := ⟨by kernel_rfl, by kernel_rfl, by kernel_rfl, by kernel_rfl, by kernel_rfl⟩
def TKM_169 : TI := ⟨1, false, [Value.slice none 0 0], [], some 103, 24, 5, none, false⟩
theorem TKM_169_ok : TypOk Try.prog 169 TKM_169 := ⟨by kernel_rfl, by kernel_rfl, by kernel_rfl, by kernel_rfl, by kernel_rfl⟩
def TKM_88 : TI := ⟨5, true, [Value.int IntKind.i64 0, Value.slice none 0 0, Value.int IntKind.i64 0, Value.int IntKind.i64 0, Value.slice none 0 0], [(0, 1, false), (1, 4, true)], none, 72, 6, none, false⟩
theorem TKM_88_ok : TypOk Try.prog 88 TKM_88 := ⟨by kernel_rfl, by kernel_rfl, by kernel_rfl, by kernel_rfl, by kernel_rfl⟩
def TKM_103 : TI := ⟨8, true, [Value.slice none 0 0, Value.int IntKind.i64 0, Value.int IntKind.i64 0, Value.slice none 0 0, Value.slice none 0 0, Value.int IntKind.i64 0, Value.int IntKind.i64 0, Value.slice none 0 0], [(0, 4, true), (4, 4, true)], none, 128, 6, none, false⟩
theorem TKM_103_ok : TypOk Try.prog 103 TKM_103 := ⟨by kernel_rfl, by kernel_rfl, by kernel_rfl, by kernel_rfl, by kernel_rfl⟩
def TKM : List (Nat × TI) := [(34, TKM_34), (32, TKM_32), (3, TKM_3), (30, TKM_30), (83, TKM_83), (35, TKM_35), (31, TKM_31), (47, TKM_47), (169, TKM_169), (88, TKM_88), (103, TKM_103)]
theorem TKM_ok : TabOk Try.prog TKM := ((((((((((((TabOk.nil _).cons TKM_103_ok).cons TKM_88_ok).cons TKM_169_ok).cons TKM_47_ok).cons TKM_31_ok).cons TKM_35_ok).cons TKM_83_ok).cons TKM_30_ok).cons TKM_3_ok).cons TKM_32_ok).cons TKM_34_ok)

theorem mMatch_d (p t : Tm) (h : PPok (p, t)) : PureC Try.prog 16 [.ag (eTm p), .ag (eTm t)] (.tu [.sl 5 (ePairs (Pn.mAll [(p, t)]).1) none, .v (.int .i64 (Pn.mAll [(p, t)]).2)]) := by
 have hA := mAll_d [(p, t)] (by simp) (fun q hq => by rw [List.mem_singleton] at hq; subst hq; exact h)
 have h1 := ePPs_one (p, t)
 dsimp only at h1
 rw [eTm_eq, eTm_eq]
 refine calldw 0 13 [ResultVar.tmp 4, ResultVar.tmp 5] TKM_ok Try.func16 rfl Try.ntmps16 rfl fun cx hnt hn0 => ?_
 ·skip
  refine dw_seq ?_; refine dwk [] TKM_ok hnt fun K hK => ?_; refine hK _ _ ?_; clear hK K; refine dw_seq ?_; refine dwk [(9, .sl 8 (ePPs [(p, t)]) none)] TKM_ok hnt fun K hK => ?_; refine And.intro ((by rw [h1]; exact VLe.untag _ _ _)) ?_; refine dcl (hA) ?_; refine hK _ _ ?_; clear hK K; refine dw_ret ?_
  exact reta rfl
theorem mIs_d (p t : Tm) (h : PPok (p, t)) : PureC Try.prog 22 [.ag (eTm p), .ag (eTm t)] (.v (.bool (decide ((Pn.mAll [(p, t)]).2 = 0)))) := by
 have hM := mMatch_d p t h
 obtain ⟨⟨s, e⟩, hr⟩ : ∃ r, Pn.mAll [(p, t)] = r := ⟨_, rfl⟩
 rw [hr] at hM ⊢
 dsimp only at hM ⊢
 rw [eTm_eq, eTm_eq] at hM ⊢
 refine calldw 0 15 [ResultVar.tmp 4] TKM_ok Try.func22 rfl Try.ntmps22 rfl fun cx hnt hn0 => ?_
 ·skip
  refine dw_seq ?_; refine dwk [] TKM_ok hnt fun K hK => ?_; refine hK _ _ ?_; clear hK K; refine dw_seq ?_; refine dwk [] TKM_ok hnt fun K hK => ?_; refine dcl (hM) ?_; refine hK _ _ ?_; clear hK K; refine dw_seq ?_; refine dwk [(14, .v (.bool (decide (e = 0))))] TKM_ok hnt fun K hK => ?_; refine And.intro (VLe.of_eq (by by_cases h : e = 0 <;> simp [h])) ?_; refine hK _ _ ?_; clear hK K; refine dw_ret ?_
  exact reta rfl
/-! the examples -/
def mb (i : Int) : Tm := .mk [] 0 i []
def mc (i : Int) (l : List Tm) : Tm := .mk [] 1 i l
def mm (l : List Tm) : Tm := .mk [] 2 0 l
theorem mk1_d (i : Int) : PureC Try.prog 48 [.v (.int .i64 i)] (.ag (eTm (mb i))) := by
 unfold mb
 rw [eTm_eq]
 refine calldw 0 6 [ResultVar.cell 2 34] TKM_ok Try.func48 rfl Try.ntmps48 rfl fun cx hnt hn0 => ?_
 ·skip
  refine dw_seq ?_; refine dwk [] TKM_ok hnt fun K hK => ?_; refine hK _ _ ?_; clear hK K; refine dw_seq ?_; refine dwk [] TKM_ok hnt fun K hK => ?_; refine hK _ _ ?_; clear hK K; refine dw_ret ?_
  exact reta rfl
theorem mk2_d (i : Int) (l : List Tm) : PureC Try.prog 49 [.v (.int .i64 i), .sl 4 (eTms l) none] (.ag (eTm (mc i l))) := by
 unfold mc
 rw [eTm_eq]
 refine calldw 0 9 [ResultVar.cell 4 34] TKM_ok Try.func49 rfl Try.ntmps49 rfl fun cx hnt hn0 => ?_
 ·skip
  refine dw_seq ?_; refine dwk [] TKM_ok hnt fun K hK => ?_; refine hK _ _ ?_; clear hK K; refine dw_seq ?_; refine dwk [] TKM_ok hnt fun K hK => ?_; refine hK _ _ ?_; clear hK K; refine dw_ret ?_
  exact reta rfl
theorem mk3_d (l : List Tm) : PureC Try.prog 50 [.sl 4 (eTms l) none] (.ag (eTm (mm l))) := by
 unfold mm
 rw [eTm_eq]
 refine calldw 0 6 [ResultVar.cell 2 34] TKM_ok Try.func50 rfl Try.ntmps50 rfl fun cx hnt hn0 => ?_
 ·skip
  refine dw_seq ?_; refine dwk [] TKM_ok hnt fun K hK => ?_; refine hK _ _ ?_; clear hK K; refine dw_seq ?_; refine dwk [] TKM_ok hnt fun K hK => ?_; refine hK _ _ ?_; clear hK K; refine dw_ret ?_
  exact reta rfl
theorem mk2_nil (i : Int) : PureC Try.prog 49 [.v (.int .i64 i), .v (.slice none 0 0)] (.ag (eTm (mc i []))) := CallC.vle (mk2_d i []) (.cons (VLe.refl _) (.cons (VLe.nil _) .nil)) (VLe.refl _)
theorem mk3_nil : PureC Try.prog 50 [.v (.slice none 0 0)] (.ag (eTm (mm []))) := CallC.vle (mk3_d []) (.cons (VLe.nil _) .nil) (VLe.refl _)
def mA : Ty := .mk [] 0
def mP : Tm := .mk [mA] 1 0 [mm [mb 0], mb 0]
def mT : Tm := .mk [mA] 1 0 [mc 1 [mb 0, mb 0], mb 0]
theorem mK1 : Pn.mAll [(mP, mT)] = ([(0, .mk [mA] 1 1 [mb 0, mb 0])], 0) := by kernel_rfl
theorem mK2 : Pn.mAll [(mm [mc 2 []], mc 1 [mc 2 []])] = ([], 6) := by kernel_rfl
theorem mK3 : Pn.mAll [(mc 0 [mm [], mm []], mc 0 [mc 1 [], mc 2 []])] = ([], 9) := by kernel_rfl
theorem fit_mk {b : List Ty} {k i : Int} {a : List Tm} (h1 : -1000 ≤ i) (h2 : i ≤ 1000) (h : ∀ t ∈ a, t.Fit) : (Tm.mk b k i a).Fit := Tm.fit_iff.2 ⟨by omega, by omega, h⟩
theorem fit0 (k i : Int) (h1 : -1000 ≤ i) (h2 : i ≤ 1000) (b : List Ty) : (Tm.mk b k i []).Fit := fit_mk h1 h2 nofun
theorem fit1 {k i : Int} {b : List Ty} {t : Tm} (h1 : -1000 ≤ i) (h2 : i ≤ 1000) (h : t.Fit) : (Tm.mk b k i [t]).Fit := fit_mk h1 h2 fun u hu => by rw [List.mem_singleton] at hu; subst hu; exact h
theorem fit2 {k i : Int} {b : List Ty} {t u : Tm} (h1 : -1000 ≤ i) (h2 : i ≤ 1000) (h : t.Fit) (h' : u.Fit) : (Tm.mk b k i [t, u]).Fit := fit_mk h1 h2 fun x hx => by
  rcases List.mem_cons.1 hx with rfl | hx
  · exact h
  · rw [List.mem_singleton] at hx; subst hx; exact h'
theorem mF1 : PPok (mP, mT) := ⟨by decide, fit2 (by decide) (by decide) (fit1 (by decide) (by decide) (fit0 _ _ (by decide) (by decide) _)) (fit0 _ _ (by decide) (by decide) _), by decide, by kernel_rfl, fit2 (by decide) (by decide) (fit2 (by decide) (by decide) (fit0 _ _ (by decide) (by decide) _) (fit0 _ _ (by decide) (by decide) _)) (fit0 _ _ (by decide) (by decide) _)⟩
theorem mF2 : PPok (mm [mc 2 []], mc 1 [mc 2 []]) := ⟨by decide, fit1 (by decide) (by decide) (fit0 _ _ (by decide) (by decide) _), by decide, by kernel_rfl, fit1 (by decide) (by decide) (fit0 _ _ (by decide) (by decide) _)⟩
theorem mF3 : PPok (mc 0 [mm [], mm []], mc 0 [mc 1 [], mc 2 []]) := ⟨by decide, fit2 (by decide) (by decide) (fit0 _ _ (by decide) (by decide) _) (fit0 _ _ (by decide) (by decide) _), by decide, by kernel_rfl, fit2 (by decide) (by decide) (fit0 _ _ (by decide) (by decide) _) (fit0 _ _ (by decide) (by decide) _)⟩
set_option maxHeartbeats 2000000 in
theorem known12_d : PureC Try.prog 15 [] (.v (.bool true)) := by
 have h1 := mMatch_d mP mT mF1
 have h2 := mMatch_d _ _ mF2
 have h3 := mMatch_d _ _ mF3
 rw [mK1] at h1
 rw [mK2] at h2
 rw [mK3] at h3
 have b0 := mk1_d 0
 refine calldw 0 113 [ResultVar.tmp 0] TKM_ok Try.func15 rfl Try.ntmps15 rfl fun cx hnt hn0 => ?_
 ·skip
  refine dw_seq ?_; refine dwk [] TKM_ok hnt fun K hK => ?_; refine hK _ _ ?_; clear hK K; refine dw_seq ?_; refine dwk [(13, .ag [.sl 2 [] none, .v (.int .i64 0)])] TKM_ok hnt fun K hK => ?_; refine And.intro (auV) ?_; refine hK _ _ ?_; clear hK K; refine dw_seq ?_; refine dwk [] TKM_ok hnt fun K hK => ?_; refine hK _ _ ?_; clear hK K; refine dw_seq ?_; refine dwk [] TKM_ok hnt fun K hK => ?_; refine hK _ _ ?_; clear hK K
  refine dw_seq ?_; refine dwk [] TKM_ok hnt fun K hK => ?_; refine hK _ _ ?_; clear hK K; refine dw_seq ?_; refine dwk [(18, .sl 4 (eTms [mb 0]) none), (22, .sl 4 (eTms [mm [mb 0], mb 0]) none), (30, .sl 4 (eTms [mb 0, mb 0]) none), (34, .sl 4 (eTms [mc 1 [mb 0, mb 0], mb 0]) none)] TKM_ok hnt fun K hK => ?_; refine dcl (b0) ?_; refine And.intro (VLe.untag _ _ _) ?_; refine dcl (mk3_d [mb 0]) ?_; refine dcl (b0) ?_
  refine And.intro (VLe.untag _ _ _) ?_; refine dcl (mk2_d 0 [mm [mb 0], mb 0]) ?_; refine dcl (b0) ?_; refine dcl (b0) ?_; refine And.intro (VLe.untag _ _ _) ?_; refine dcl (mk2_d 1 [mb 0, mb 0]) ?_; refine dcl (b0) ?_; refine And.intro (VLe.untag _ _ _) ?_; refine dcl (mk2_d 0 [mc 1 [mb 0, mb 0], mb 0]) ?_; refine hK _ _ ?_; clear hK K; refine dw_seq ?_; refine dwkD [] TKM_ok hnt fun K hK => ?_; refine hK _ _ (by kernel_rfl) ?_; clear hK K
  refine dw_seq ?_; refine dwk [(43, .ag (eTm mP)), (44, .ag (eTm mT))] TKM_ok hnt fun K hK => ?_; refine And.intro (auV) ?_; refine And.intro (auV) ?_; refine dcl (h1) ?_; refine hK _ _ ?_; clear hK K; refine dw_seq ?_; refine dwk [(52, .sl 4 (eTms [mc 2 []]) none), (57, .sl 4 (eTms [mc 2 []]) none)] TKM_ok hnt fun K hK => ?_; refine dcl (mk2_nil 2) ?_; refine And.intro (VLe.untag _ _ _) ?_; refine dcl (mk3_d [mc 2 []]) ?_
  refine dcl (mk2_nil 2) ?_; refine And.intro (VLe.untag _ _ _) ?_; refine dcl (mk2_d 1 [mc 2 []]) ?_; refine dcl (h2) ?_; refine hK _ _ ?_; clear hK K; refine dw_seq ?_; refine dwk [(68, .sl 4 (eTms [mm [], mm []]) none), (75, .sl 4 (eTms [mc 1 [], mc 2 []]) none)] TKM_ok hnt fun K hK => ?_; refine dcl (mk3_nil) ?_; refine dcl (mk3_nil) ?_; refine And.intro (VLe.untag _ _ _) ?_; refine dcl (mk2_d 0 [mm [], mm []]) ?_
  refine dcl (mk2_nil 1) ?_; refine dcl (mk2_nil 2) ?_; refine And.intro (VLe.untag _ _ _) ?_; refine dcl (mk2_d 0 [mc 1 [], mc 2 []]) ?_; refine dcl (h3) ?_; refine hK _ _ ?_; clear hK K; refine dw_seq ?_; refine dwk [(81, .v (.bool true)), (84, .v (.int .i64 (1))), (85, .v (.bool true)), (93, .v (.int .i64 (1))), (94, .v (.bool true)), (103, .v (.bool true)), (107, .v (.bool true)), (111, .v (.bool true))] TKM_ok hnt fun K hK => ?_
  refine And.intro (VLe.refl _) ?_; refine And.intro (dintE (by rfl)) ?_; refine And.intro (VLe.refl _) ?_; refine And.intro (by decide) ?_; refine And.intro (dintE (by rfl)) ?_; refine And.intro (VLe.refl _) ?_; refine And.intro (by decide) ?_; refine And.intro (VLe.refl _) ?_; refine And.intro (VLe.refl _) ?_; refine And.intro (VLe.refl _) ?_; refine hK _ _ ?_; clear hK K; refine dw_ret ?_
  exact reta rfl
end Go.Proofs.Ytcblpjheoclkeaa

namespace Go.Proofs.Ytcblpjheoclkeaa
open Go.RowKit
namespace So
variable {α : Type} {f : α → Bool} {l : List α} {j : Nat}
end So
def del (m : List Int) (p : Int × Tm) : Bool := m.any fun x => decide (x = p.1)
def kept (m : List Int) (l : List (Int × Tm)) : List (Int × Tm) := l.filter fun p => !del m p
end Go.Proofs.Ytcblpjheoclkeaa

namespace Go.Proofs.Ytcblpjheoclkeaa
open Go.RowKit
def TRP_27 : TI := ⟨4, true, [Value.slice none 0 0, Value.int IntKind.i64 0, Value.int IntKind.i64 0, Value.slice none 0 0], [(0, 1, false), (1, 2, true), (3, 1, false)], none, 64, 6, none, false⟩
theorem TRP_27_ok : TypOk Try.prog 27 TRP_27 := ⟨by kernel_rfl, by kernel_rfl, by kernel_rfl, by kernel_rfl, by kernel_rfl⟩
def TRP_3 : TI := ⟨1, false, [Value.int IntKind.i64 0], [], none, 8, 2, none, false⟩
theorem TRP_3_ok : TypOk Try.prog 3 TRP_3 := ⟨by kernel_rfl, by kernel_rfl, by kernel_rfl, by kernel_rfl, by kernel_rfl⟩
def TRP_43 : TI := ⟨1, false, [Value.slice none 0 0], [], some 3, 24, 5, none, false⟩
theorem TRP_43_ok : TypOk Try.prog 43 TRP_43 := ⟨by kernel_rfl, by kernel_rfl, by kernel_rfl, by kernel_rfl, by kernel_rfl⟩
def TRP_25 : TI := ⟨1, false, [Value.slice none 0 0], [], some 27, 24, 5, none, false⟩
theorem TRP_25_ok : TypOk Try.prog 25 TRP_25 := ⟨by kernel_rfl, by kernel_rfl, by kernel_rfl, by kernel_rfl, by kernel_rfl⟩
def TRP_24 : TI := ⟨2, true, [Value.int IntKind.i64 0, Value.int IntKind.i64 0], [(0, 1, false), (1, 1, false)], none, 16, 6, none, true⟩
theorem TRP_24_ok : TypOk Try.prog 24 TRP_24 := ⟨by kernel_rfl, by kernel_rfl, by kernel_rfl, by kernel_rfl, by kernel_rfl⟩
def TRP_22 : TI := ⟨1, false, [Value.slice none 0 0], [], some 123, 24, 5, none, false⟩
theorem TRP_22_ok : TypOk Try.prog 22 TRP_22 := ⟨by kernel_rfl, by kernel_rfl, by kernel_rfl, by kernel_rfl, by kernel_rfl⟩
def TRP_113 : TI := ⟨1, false, [Value.slice none 0 0], [], some 43, 24, 5, none, false⟩
theorem TRP_113_ok : TypOk Try.prog 113 TRP_113 := ⟨by kernel_rfl, by kernel_rfl, by kernel_rfl, by kernel_rfl, by kernel_rfl⟩
def TRP_176 : TI := ⟨1, false, [Value.slice none 0 0], [], some 180, 24, 5, none, false⟩
theorem TRP_176_ok : TypOk Try.prog 176 TRP_176 := ⟨by kernel_rfl, by kernel_rfl, by kernel_rfl, by kernel_rfl, by kernel_rfl⟩
def TRP_180 : TI := ⟨4, true, [Value.int IntKind.i64 0, Value.slice none 0 0, Value.slice none 0 0, Value.slice none 0 0], [(0, 1, false), (1, 1, false), (2, 1, false), (3, 1, false)], none, 80, 6, none, false⟩
theorem TRP_180_ok : TypOk Try.prog 180 TRP_180 := ⟨by kernel_rfl, by kernel_rfl, by kernel_rfl, by kernel_rfl, by kernel_rfl⟩
def TRP_123 : TI := ⟨2, true, [Value.slice none 0 0, Value.int IntKind.i64 0], [(0, 1, false), (1, 1, false)], none, 32, 6, none, false⟩
theorem TRP_123_ok : TypOk Try.prog 123 TRP_123 := ⟨by kernel_rfl, by kernel_rfl, by kernel_rfl, by kernel_rfl, by kernel_rfl⟩
def TRP : List (Nat × TI) := [(27, TRP_27), (3, TRP_3), (43, TRP_43), (25, TRP_25), (24, TRP_24), (22, TRP_22), (113, TRP_113), (176, TRP_176), (180, TRP_180), (123, TRP_123)]
theorem TRP_ok : TabOk Try.prog TRP := (((((((((((TabOk.nil _).cons TRP_123_ok).cons TRP_180_ok).cons TRP_176_ok).cons TRP_113_ok).cons TRP_22_ok).cons TRP_24_ok).cons TRP_25_ok).cons TRP_43_ok).cons TRP_3_ok).cons TRP_27_ok)

namespace Pn
mutual
def pth : Tm → List Int → List (List Int)
  | .mk _ _ _ a, p => p :: pths a p 0
def pths : List Tm → List Int → Nat → List (List Int)
  | [], _, _ => []
  | t :: l, p, j => pth t (p ++ [(j : Int)]) ++ pths l p (j + 1)
end
theorem pth_eq (b : List Ty) (k i : Int) (a : List Tm) (p : List Int) : pth (.mk b k i a) p = p :: pths a p 0 := by rw [pth]
theorem pths_app (p : List Int) : ∀ (l r : List Tm) (j : Nat), pths (l ++ r) p j = pths l p j ++ pths r p (j + l.length)
  | [], r, j => by simp [pths]
  | t :: l, r, j => by rw [List.cons_append, pths, pths, pths_app p l r (j + 1), List.append_assoc, List.length_cons, show j + 1 + l.length = j + (l.length + 1) by omega]
theorem pths_take (p : List Int) (a : List Tm) (j : Nat) (h : j < a.length) : pths (a.take (j + 1)) p 0 = pths (a.take j) p 0 ++ pth a[j] (p ++ [(j : Int)]) := by
  rw [List.take_add_one, List.getElem?_eq_getElem h, pths_app, List.length_take, Nat.min_eq_left (by omega), Nat.zero_add, Option.toList_some, pths, pths, List.append_nil]
theorem subs_pth (t : Tm) : ∀ (ar : List Ty) (p : List Int), (subs t ar p).map (·.2.2) = pth t p := by
  induction t using Tm.ind with
  | h bs k i a ih =>
    intro ar p
    rw [subs_eq, pth_eq, List.map_cons]
    have key : ∀ (l : List Tm) (j : Nat), (∀ t ∈ l, t ∈ a) → (subss l (ar ++ bs) p j).map (·.2.2) = pths l p j := by
      intro l
      induction l with
      | nil => intro j _; simp [subss, pths]
      | cons t l ihl => intro j hl; rw [subss, pths, List.map_append, ih t (hl t (by simp)), ihl _ fun u hu => hl u (by simp [hu])]
    rw [key a 0 fun t ht => ht]
theorem pth_len (t : Tm) (p : List Int) : (pth t p).length = t.size := by rw [← subs_pth t [] p, List.length_map, subs_len]
theorem pths_len (p : List Int) : ∀ (l : List Tm) (j : Nat), (pths l p j).length = Tm.sizes l
  | [], _ => by simp [pths, Tm.sizes]
  | t :: l, j => by rw [pths, List.length_append, pth_len, pths_len p l]; simp [Tm.sizes]
end Pn
theorem sizes_le_fulls (a : List Tm) : Tm.sizes a ≤ Tm.fulls a := by
  induction a with
  | nil => simp [Tm.sizes]
  | cons t l ih => have := Tm.size_le_full t; simp only [Tm.sizes, Tm.fulls]; omega
def ePaths (l : List (List Int)) : List (List D) := l.map fun p => [.sl 1 (eIs p) none]
theorem ePaths_len (l : List (List Int)) : (ePaths l).length = l.length := List.length_map ..
theorem ePaths_append (l r : List (List Int)) : ePaths (l ++ r) = ePaths l ++ ePaths r := List.map_append ..
theorem ePaths_getD (l : List (List Int)) (i : Nat) (h : i < l.length) : (ePaths l).getD i [] = [.sl 1 (eIs l[i]) none] := by
  rw [ePaths, List.getD_eq_getElem?_getD, List.getElem?_map, List.getElem?_eq_getElem h]; rfl
@[simp] theorem ePaths_ok (f g : Nat → Bool) (l : List (List Int)) : D.okss f g (ePaths l) = true := D.okss_map _ l fun l _ => by simp [D.oks, D.ok, eIs_ok]
set_option maxHeartbeats 1000000 in
theorem rall_d : ∀ (t : Tm) (p : List Int), t.full + p.length ≤ 100000 → PureC Try.prog 57 [.ag (eTm t), .sl 1 (eIs p) none] (.sl 1 (ePaths (Pn.pth t p)) none) := by
 intro t
 induction t using Tm.ind with
 | h bs k i a ih =>
 intro p hz
 rw [Tm.full_eq] at hz
 have hal := fulls_len a
 rw [Pn.pth_eq, eTm_eq]
 simp only [binds_mk', kind_mk', index_mk', args_mkT]
 refine calldw 0 34 [ResultVar.tmp 4] TRP_ok Try.func57 rfl Try.ntmps57 rfl fun cx hnt hn0 => ?_
 ·skip
  refine dw_seq ?_; refine dwk [] TRP_ok hnt fun K hK => ?_; refine hK _ _ ?_; clear hK K; refine dw_seq ?_; refine dwk [] TRP_ok hnt fun K hK => ?_; refine hK _ _ ?_; clear hK K; refine dw_seq ?_; refine dw_seq ?_; refine dwk [] TRP_ok hnt fun K hK => ?_; refine hK _ _ ?_; clear hK K; refine dw_block ?_
  refine dw_loop (ι := { j : Nat // j ≤ a.length }) (fun j => [(.t 1, .sl 1 (eIs p) none), (.t 2, .p 0 0), (.t 5, .sl 1 (ePaths (p :: Pn.pths (a.take j.1) p 0)) (some 3)), (.r 3, .rw 43 1 (Pn.pths (a.take j.1) p 0).length.succ), (.t 6, .v (.int .i64 ↑j.1)), (.c 0 3, .sl 4 (eTms a) none)]) 4 (fun j => a.length - j.1) (⟨0, Nat.zero_le _⟩) ((VS.toK (by omega) (by repeat first | exact trivial | refine And.intro (And.intro (by first | rfl | simp [D.ok, D.oks, D.okss, D.okm, upto, keyOk, ePaths, Pn.pths]) (by first | exact Or.inl rfl | exact Or.inr ⟨_, rfl, (by repeat first | exact VLe.refl _ | exact VLe.nil _ | exact VLe.untag _ _ _ | refine VLe.ag ?_ | refine VLe.tu ?_ | refine VLeL.cons ?_ ?_ | exact VLeL.nil), trivial⟩ | simp [get, Key.eq, ePaths, Pn.pths])) ?_))) fun j => ?_
  obtain ⟨j, hj⟩ := j
  dsimp only
  by_cases hlt : j < a.length
  ·have hmem := List.getElem_mem hlt
   have hfm := full_mem hmem
   have hih := ih a[j] hmem (p ++ [(j : Int)]) (by simp; omega)
   have hst := Pn.pths_take p a j hlt
   have hl1 := Pn.pths_len p (a.take j) 0
   have hl2 := Tm.sizes_take_le a j
   have hl3 := sizes_le_fulls a
   have hl4 := Pn.pth_len a[j] (p ++ [(j : Int)])
   have hl5 := Tm.size_le_full a[j]
   rw [eTm_eq] at hih
   obtain ⟨p2, hp2⟩ : ∃ q, p ++ [(j : Int)] = q := ⟨_, rfl⟩
   rw [hp2] at hih hst hl4
   refine dw_seq ?_; refine dw_seq ?_; refine dwk [(13, .v (.int .i64 (↑a.length))), (14, .v (.bool true))] TRP_ok hnt fun K hK => ?_; refine And.intro (dintE (by rw [eTms_len])) ?_; refine And.intro auT ?_; refine hK _ _ ?_; clear hK K; refine dw_cond (t := true) rfl ?_; rw [if_pos rfl]; refine dw_skip ?_; refine dw_seq ?_; refine dw_block ?_; refine dw_seq ?_; refine dwk [] TRP_ok hnt fun K hK => ?_
   refine hK _ _ ?_; clear hK K; refine dw_seq ?_; refine dwk [] TRP_ok hnt fun K hK => ?_; refine And.intro (by rw [eIs_len]; omega) ?_; refine hK _ _ ?_; clear hK K; refine dw_seq ?_; refine dwk [] TRP_ok hnt fun K hK => ?_; refine And.intro (⟨rfl, by rw [eIs_len]; simp; omega⟩) ?_; refine hK _ _ ?_; clear hK K; refine dwk [(28, .q [.sl 2 (eTys a[j].binds) none, .v (.int .i64 a[j].kind), .v (.int .i64 a[j].index), .sl 4 (eTms a[j].args) none]), (30, .sl 1 (eIs p2) none), (32, .sl 1 (ePaths (p :: Pn.pths (a.take (j + 1)) p 0)) (some 3))] TRP_ok hnt fun K hK => ?_
   refine And.intro (elo (eTms_len a)) ?_; refine And.intro (elv (eTms_getD a j) (eTm_eq _)) ?_; refine And.intro ((by rw [← hp2, eIs_append]; exact VLe.untag _ _ _)) ?_; refine dcl (hih) ?_; refine And.intro (⟨by rw [ePaths_len]; rfl, by rw [ePaths_len, ePaths_len]; simp; omega⟩) ?_; refine And.intro (VLe.of_eq (by rw [hst, ← List.cons_append, ePaths_append])) ?_; refine hK _ _ ?_; clear hK K; refine dwk [(16, .v (.int .i64 (↑(j + 1))))] TRP_ok hnt fun K hK => ?_
   refine And.intro auI ?_; refine hK _ _ ?_; clear hK K
   have hl6 : (ePaths (p :: Pn.pths (a.take j) p 0) ++ ePaths (Pn.pth a[j] p2)).length = (Pn.pths (a.take (j + 1)) p 0).length + 1 := by rw [← ePaths_append, ePaths_len, hst]; rfl
   refine ⟨⟨j + 1, by omega⟩, by first | omega | (dsimp only; omega), (by try simp only [List.length_append, List.length_take, List.length_cons, List.length_nil, Nat.zero_add, hl6]; exact VS.toA)⟩
  ·rw [List.take_of_length_le (by omega)]
   refine dw_seq ?_; refine dw_seq ?_; refine dwk [(13, .v (.int .i64 (↑a.length))), (14, .v (.bool false))] TRP_ok hnt fun K hK => ?_; refine And.intro (dintE (by rw [eTms_len])) ?_; refine And.intro auF ?_; refine hK _ _ ?_; clear hK K; refine dw_cond (t := false) rfl ?_; rw [if_neg (by simp)]; refine dw_exit ?_; refine dw_seq ?_; refine dwk [] TRP_ok hnt fun K hK => ?_; refine hK _ _ ?_; clear hK K
   refine dw_ret ?_
   exact reta rfl
theorem rbehind_d (l r : List Ty) (h : l.length + r.length ≤ 900000) : PureC Try.prog 59 [.sl 2 (eTys l) none, .sl 2 (eTys r) none] (.sl 2 (eTys (l ++ r)) none) := by
 rw [eTys_append]
 have e1 := eTys_len l
 have e2 := eTys_len r
 refine call_of_dw 0 12 [ResultVar.tmp 4] TRP_ok (by kernel_rfl) Try.func59 rfl Try.ntmps59 rfl (by simp) ?dwords ?dbody
 case dwords => simp [wordsOk, D.ok, D.oks, D.okss, rnames, inN, ckey, eTys_ok, ← eTys_append]
 case dbody =>
  intro cx hnt hn0
  refine dw_seq ?_; refine dwk [] TRP_ok hnt fun K hK => ?_; refine hK _ _ ?_; clear hK K; refine dw_seq ?_; refine dwk [] TRP_ok hnt fun K hK => ?_; refine hK _ _ ?_; clear hK K; refine dw_seq ?_; refine dwk [] TRP_ok hnt fun K hK => ?_; refine And.intro (by omega) ?_; refine hK _ _ ?_; clear hK K; refine dw_seq ?_; refine dwk [] TRP_ok hnt fun K hK => ?_; refine And.intro (⟨rfl, by omega⟩) ?_; refine hK _ _ ?_; clear hK K
  refine dw_ret ?_
  exact reta rfl
def atV (r : Option (Tm × List Ty)) : D := match r with
  | some r => .tu [.ag (eTm r.1), .sl 2 (eTys r.2) none, .v (.bool true)]
  | none => .tu [.ag (eTm Tm.zero), .sl 2 [] none, .v (.bool false)]
theorem atP_sizes : ∀ (p : List Int) (t : Tm) (r : Tm × List Ty), Pn.atP p t = some r → r.2.length + r.1.full ≤ t.full + r.1.binds.length ∧ r.1.full ≤ t.full ∧ r.2.length ≤ t.full ∧ Ty.sizes r.2 ≤ t.full
  | [], t, r, h => by
    rw [Pn.atP] at h; cases h
    have := full_args t
    have h2 := Ty.le_sizes t.binds
    dsimp only; omega
  | j :: p, t, r, h => by
    rw [Pn.atP] at h
    split at h
    · rename_i hj
      cases h2 : Pn.atP p (t.args.getD j.toNat Tm.zero) with
      | none => rw [h2] at h; cases h
      | some r' =>
        rw [h2] at h; cases h
        have hlt : j.toNat < t.args.length := by omega
        have e : t.args.getD j.toNat Tm.zero = t.args[j.toNat] := by rw [List.getD_eq_getElem?_getD, List.getElem?_eq_getElem hlt]; rfl
        rw [e] at h2
        have ih := atP_sizes p _ r' h2
        have hm := full_mem (List.getElem_mem hlt)
        have := full_args t
        have h3 := Ty.le_sizes t.binds
        dsimp only
        rw [List.length_append, Ty.sizes_append]
        omega
    · cases h
set_option maxHeartbeats 1000000 in
theorem rat_d : ∀ (p : List Int) (t : Tm), t.full ≤ 100000 → p.length ≤ 100000 → (∀ x ∈ p, -1000000000 ≤ x ∧ x ≤ 1000000000) → PureC Try.prog 58 [.ag (eTm t), .sl 1 (eIs p) none] (atV (Pn.atP p t))
 | [], t, hz, hp, hr => by
  rw [Pn.atP]
  unfold atV
  dsimp only
  rw [eTm_eq]
  refine calldw 0 50 [ResultVar.cell 4 27, ResultVar.tmp 5, ResultVar.tmp 6] TRP_ok Try.func58 rfl Try.ntmps58 rfl fun cx hnt hn0 => ?_
  ·skip
   refine dw_seq ?_; refine dwk [] TRP_ok hnt fun K hK => ?_; refine hK _ _ ?_; clear hK K; refine dw_seq ?_; refine dw_seq ?_; refine dwk [(13, .v (.bool true))] TRP_ok hnt fun K hK => ?_; refine And.intro (VLe.refl _) ?_; refine hK _ _ ?_; clear hK K; refine dw_cond (t := true) rfl ?_; rw [if_pos rfl]; refine dw_seq ?_; refine dwkD [] TRP_ok hnt fun K hK => ?_; refine hK _ _ (by kernel_rfl) ?_; clear hK K
   refine dw_ret ?_
   exact reta rfl
 | j :: q, t, hz, hp, hr => by
  rw [Pn.atP]
  have hj := hr j (by simp)
  by_cases hc : 0 ≤ j ∧ j < (t.args.length : Int)
  ·rw [if_pos hc]
   have hlt : j.toNat < t.args.length := by omega
   have e : t.args.getD j.toNat Tm.zero = t.args[j.toNat] := by rw [List.getD_eq_getElem?_getD, List.getElem?_eq_getElem hlt]; rfl
   rw [e]
   have hm := full_mem (List.getElem_mem hlt)
   have hft := full_args t
   have hih := rat_d q t.args[j.toNat] (by omega) (by simp at hp; omega) (fun x hx => hr x (by simp [hx]))
   have hsz := atP_sizes q t.args[j.toNat]
   have hbl := Ty.le_sizes t.binds
   obtain ⟨n, hn⟩ : ∃ n : Nat, j = n := ⟨j.toNat, by omega⟩
   subst hn
   rw [Int.toNat_natCast] at hlt
   obtain ⟨u, hu⟩ : ∃ u, t.args[(n : Int).toNat] = u := ⟨_, rfl⟩
   have hu' : t.args[n] = u := by rw [← hu]; simp
   rw [hu] at hih hsz hm ⊢
   cases ha : Pn.atP q u with
   | none =>
    rw [ha] at hih
    unfold atV at hih ⊢
    dsimp only [Option.map_none] at hih ⊢
    rw [eTm_eq, eTm_eq] at hih
    rw [eTm_eq, eTm_eq]
    refine calldw 0 50 [ResultVar.cell 4 27, ResultVar.tmp 5, ResultVar.tmp 6] TRP_ok Try.func58 rfl Try.ntmps58 rfl fun cx hnt hn0 => ?_
    ·skip
     refine dw_seq ?_; refine dwk [] TRP_ok hnt fun K hK => ?_; refine hK _ _ ?_; clear hK K; refine dw_seq ?_; refine dw_seq ?_; refine dwk [(12, .v (.int .i64 (↑(q.length + 1)))), (13, .v (.bool false))] TRP_ok hnt fun K hK => ?_; refine And.intro (dintE (by rw [eIs_len]; rfl)) ?_; refine And.intro (beqF (by omega)) ?_; refine hK _ _ ?_; clear hK K; refine dw_cond (t := false) rfl ?_; rw [if_neg (by simp)]
     refine dw_skip ?_; refine dw_seq ?_; refine dwk [(18, .q [.v (.int .i64 ↑n)])] TRP_ok hnt fun K hK => ?_; refine And.intro (⟨by omega, by rw [eIs_len, List.length_cons]; omega⟩) ?_; refine And.intro (VLe.of_eq (by simp [eIs])) ?_; refine hK _ _ ?_; clear hK K; refine dw_seq ?_; refine dw_seq ?_; refine dwk [(21, .v (.bool false)), (26, .v (.int .i64 (↑t.args.length))), (27, .v (.bool false))] TRP_ok hnt fun K hK => ?_
     refine And.intro auF ?_; refine And.intro (dintE (by rw [eTms_len])) ?_; refine And.intro auF ?_; refine hK _ _ ?_; clear hK K; refine dw_cond (t := false) rfl ?_; rw [if_neg (by simp)]; refine dw_skip ?_; refine dw_seq ?_; refine dwkD [(34, .q [.sl 2 (eTys u.binds) none, .v (.int .i64 u.kind), .v (.int .i64 u.index), .sl 4 (eTms u.args) none]), (37, .sl 1 (eIs q) none)] TRP_ok hnt fun K hK => ?_; refine And.intro (⟨by omega, by rw [eTms_len]; omega⟩) ?_
     refine And.intro (VLe.of_eq (by rw [Int.toNat_natCast, eTms_getD t.args n hlt, hu', eTm_eq])) ?_; refine And.intro (⟨by decide, by rw [eIs_len]; simp; omega⟩) ?_; refine And.intro (VLe.of_eq (by simp [eIs, List.take_of_length_le])) ?_; refine dcl (hih) ?_; refine hK _ _ (by kernel_rfl) ?_; clear hK K; refine dw_seq ?_; refine dw_seq ?_; refine dwk [] TRP_ok hnt fun K hK => ?_; refine hK _ _ ?_; clear hK K
     refine dw_cond (t := true) rfl ?_; rw [if_pos rfl]; refine dw_seq ?_; refine dwk [] TRP_ok hnt fun K hK => ?_; refine hK _ _ ?_; clear hK K; refine dw_ret ?_
     exact reta rfl
   | some r =>
    obtain ⟨x, l⟩ := r
    have hsz := hsz _ ha
    have hbh := rbehind_d t.binds l (by dsimp only at hsz; omega)
    rw [ha] at hih
    unfold atV at hih ⊢
    dsimp only [Option.map_some] at hih ⊢
    rw [eTm_eq, eTm_eq] at hih
    rw [eTm_eq, eTm_eq]
    refine calldw 0 50 [ResultVar.cell 4 27, ResultVar.tmp 5, ResultVar.tmp 6] TRP_ok Try.func58 rfl Try.ntmps58 rfl fun cx hnt hn0 => ?_
    ·skip
     refine dw_seq ?_; refine dwk [] TRP_ok hnt fun K hK => ?_; refine hK _ _ ?_; clear hK K; refine dw_seq ?_; refine dw_seq ?_; refine dwk [(12, .v (.int .i64 (↑(q.length + 1)))), (13, .v (.bool false))] TRP_ok hnt fun K hK => ?_; refine And.intro (dintE (by rw [eIs_len]; rfl)) ?_; refine And.intro (beqF (by omega)) ?_; refine hK _ _ ?_; clear hK K; refine dw_cond (t := false) rfl ?_; rw [if_neg (by simp)]
     refine dw_skip ?_; refine dw_seq ?_; refine dwk [(18, .q [.v (.int .i64 ↑n)])] TRP_ok hnt fun K hK => ?_; refine And.intro (⟨by omega, by rw [eIs_len, List.length_cons]; omega⟩) ?_; refine And.intro (VLe.of_eq (by simp [eIs])) ?_; refine hK _ _ ?_; clear hK K; refine dw_seq ?_; refine dw_seq ?_; refine dwk [(21, .v (.bool false)), (26, .v (.int .i64 (↑t.args.length))), (27, .v (.bool false))] TRP_ok hnt fun K hK => ?_
     refine And.intro auF ?_; refine And.intro (dintE (by rw [eTms_len])) ?_; refine And.intro auF ?_; refine hK _ _ ?_; clear hK K; refine dw_cond (t := false) rfl ?_; rw [if_neg (by simp)]; refine dw_skip ?_; refine dw_seq ?_; refine dwkD [(34, .q [.sl 2 (eTys u.binds) none, .v (.int .i64 u.kind), .v (.int .i64 u.index), .sl 4 (eTms u.args) none]), (37, .sl 1 (eIs q) none)] TRP_ok hnt fun K hK => ?_; refine And.intro (⟨by omega, by rw [eTms_len]; omega⟩) ?_
     refine And.intro (VLe.of_eq (by rw [Int.toNat_natCast, eTms_getD t.args n hlt, hu', eTm_eq])) ?_; refine And.intro (⟨by decide, by rw [eIs_len]; simp; omega⟩) ?_; refine And.intro (VLe.of_eq (by simp [eIs, List.take_of_length_le])) ?_; refine dcl (hih) ?_; refine hK _ _ (by kernel_rfl) ?_; clear hK K; refine dw_seq ?_; refine dw_seq ?_; refine dwk [] TRP_ok hnt fun K hK => ?_; refine hK _ _ ?_; clear hK K
     refine dw_cond (t := false) rfl ?_; rw [if_neg (by simp)]; refine dw_skip ?_; refine dw_seq ?_; refine dwkD [] TRP_ok hnt fun K hK => ?_; refine dcl (hbh) ?_; refine hK _ _ (by kernel_rfl) ?_; clear hK K; refine dw_ret ?_
     exact reta rfl
  ·rw [if_neg hc]
   unfold atV
   dsimp only
   rw [eTm_eq, eTm_eq]
   by_cases h0 : j < 0
   ·skip
    refine calldw 0 50 [ResultVar.cell 4 27, ResultVar.tmp 5, ResultVar.tmp 6] TRP_ok Try.func58 rfl Try.ntmps58 rfl fun cx hnt hn0 => ?_
    ·skip
     refine dw_seq ?_; refine dwk [] TRP_ok hnt fun K hK => ?_; refine hK _ _ ?_; clear hK K; refine dw_seq ?_; refine dw_seq ?_; refine dwk [(12, .v (.int .i64 (↑(q.length + 1)))), (13, .v (.bool false))] TRP_ok hnt fun K hK => ?_; refine And.intro (dintE (by rw [eIs_len]; rfl)) ?_; refine And.intro (beqF (by omega)) ?_; refine hK _ _ ?_; clear hK K; refine dw_cond (t := false) rfl ?_; rw [if_neg (by simp)]
     refine dw_skip ?_; refine dw_seq ?_; refine dwk [(18, .q [.v (.int .i64 j)])] TRP_ok hnt fun K hK => ?_; refine And.intro (⟨by omega, by rw [eIs_len, List.length_cons]; omega⟩) ?_; refine And.intro (VLe.of_eq (by simp [eIs])) ?_; refine hK _ _ ?_; clear hK K; refine dw_seq ?_; refine dw_seq ?_; refine dwk [(21, .v (.bool true))] TRP_ok hnt fun K hK => ?_; refine And.intro auT ?_; refine hK _ _ ?_; clear hK K
     refine dw_cond (t := true) rfl ?_; rw [if_pos rfl]; refine dw_seq ?_; refine dwk [] TRP_ok hnt fun K hK => ?_; refine hK _ _ ?_; clear hK K; refine dw_ret ?_
     exact reta rfl
   ·skip
    refine calldw 0 50 [ResultVar.cell 4 27, ResultVar.tmp 5, ResultVar.tmp 6] TRP_ok Try.func58 rfl Try.ntmps58 rfl fun cx hnt hn0 => ?_
    ·skip
     refine dw_seq ?_; refine dwk [] TRP_ok hnt fun K hK => ?_; refine hK _ _ ?_; clear hK K; refine dw_seq ?_; refine dw_seq ?_; refine dwk [(12, .v (.int .i64 (↑(q.length + 1)))), (13, .v (.bool false))] TRP_ok hnt fun K hK => ?_; refine And.intro (dintE (by rw [eIs_len]; rfl)) ?_; refine And.intro (beqF (by omega)) ?_; refine hK _ _ ?_; clear hK K; refine dw_cond (t := false) rfl ?_; rw [if_neg (by simp)]
     refine dw_skip ?_; refine dw_seq ?_; refine dwk [(18, .q [.v (.int .i64 j)])] TRP_ok hnt fun K hK => ?_; refine And.intro (⟨by omega, by rw [eIs_len, List.length_cons]; omega⟩) ?_; refine And.intro (VLe.of_eq (by simp [eIs])) ?_; refine hK _ _ ?_; clear hK K; refine dw_seq ?_; refine dw_seq ?_; refine dwk [(21, .v (.bool false)), (26, .v (.int .i64 (↑t.args.length))), (27, .v (.bool true))] TRP_ok hnt fun K hK => ?_
     refine And.intro auF ?_; refine And.intro (dintE (by rw [eTms_len])) ?_; refine And.intro auT ?_; refine hK _ _ ?_; clear hK K; refine dw_cond (t := true) rfl ?_; rw [if_pos rfl]; refine dw_seq ?_; refine dwk [] TRP_ok hnt fun K hK => ?_; refine hK _ _ ?_; clear hK K; refine dw_ret ?_
     exact reta rfl
theorem contains_take {l : List Int} {j : Nat} {n : Int} (hlt : j < l.length) (hj : (l.take j).contains n = false) (he : l[j] ≠ n) : (l.take (j + 1)).contains n = false := by
  rw [Bool.eq_false_iff, ne_eq, List.contains_iff_mem, List.take_add_one, List.getElem?_eq_getElem hlt, List.mem_append]
  rintro (h | h)
  · rw [← List.contains_iff_mem, hj] at h; cases h
  · rw [Option.toList_some, List.mem_singleton] at h; exact he h.symm
theorem rhas_d (l : List Int) (n : Int) (hl : l.length ≤ 1000000) : PureC Try.prog 149 [.sl 1 (eIs l) none, .v (.int .i64 n)] (.v (.bool (l.contains n))) := by
 refine calldw 0 18 [ResultVar.tmp 4] TRP_ok Try.func149 rfl Try.ntmps149 rfl fun cx hnt hn0 => ?_
 ·skip
  refine dw_seq ?_; refine dwk [] TRP_ok hnt fun K hK => ?_; refine hK _ _ ?_; clear hK K; refine dw_seq ?_; refine dw_seq ?_; refine dwk [] TRP_ok hnt fun K hK => ?_; refine hK _ _ ?_; clear hK K; refine dw_block ?_
  refine dw_loop (ι := { j : Nat // (l.take j).contains n = false }) (fun j => [(.t 0, .sl 1 (eIs l) none), (.t 1, .v (.int .i64 n)), (.t 5, .v (.int .i64 ↑j.1))]) 0 (fun j => l.length - j.1) (⟨0, rfl⟩) ((VS.toK (by omega) (by repeat first | exact trivial | refine And.intro (And.intro (by first | rfl | simp [D.ok, D.oks, D.okss, D.okm, upto, keyOk, argsT]) (by first | exact Or.inl rfl | exact Or.inr ⟨_, rfl, (by repeat first | exact VLe.refl _ | exact VLe.nil _ | exact VLe.untag _ _ _ | refine VLe.ag ?_ | refine VLe.tu ?_ | refine VLeL.cons ?_ ?_ | exact VLeL.nil), trivial⟩ | simp [get, Key.eq, argsT])) ?_))) fun j => ?_
  obtain ⟨j, hj⟩ := j
  dsimp only
  by_cases hlt : j < l.length
  ·by_cases he : l[j] = n
   ·have hc : l.contains n = true := by rw [List.contains_iff_mem, ← he]; exact List.getElem_mem hlt
    rw [hc]
    refine dw_seq ?_; refine dw_seq ?_; refine dwk [(8, .v (.int .i64 (↑l.length))), (9, .v (.bool true))] TRP_ok hnt fun K hK => ?_; refine And.intro (dintE (by rw [eIs_len])) ?_; refine And.intro auT ?_; refine hK _ _ ?_; clear hK K; refine dw_cond (t := true) rfl ?_; rw [if_pos rfl]; refine dw_skip ?_; refine dw_seq ?_; refine dw_block ?_; refine dw_seq ?_; refine dwk [(14, .q [.v (.int .i64 (l[j]))]), (17, .v (.bool true))] TRP_ok hnt fun K hK => ?_
    refine And.intro (elo (eIs_len l)) ?_; refine And.intro (elv (eIs_getD l j) rfl) ?_; refine And.intro (beqT he) ?_; refine hK _ _ ?_; clear hK K; refine dw_cond (t := true) rfl ?_; rw [if_pos rfl]; refine dw_seq ?_; refine dwk [] TRP_ok hnt fun K hK => ?_; refine hK _ _ ?_; clear hK K; refine dw_ret ?_
    exact reta rfl
   ·skip
    refine dw_seq ?_; refine dw_seq ?_; refine dwk [(8, .v (.int .i64 (↑l.length))), (9, .v (.bool true))] TRP_ok hnt fun K hK => ?_; refine And.intro (dintE (by rw [eIs_len])) ?_; refine And.intro auT ?_; refine hK _ _ ?_; clear hK K; refine dw_cond (t := true) rfl ?_; rw [if_pos rfl]; refine dw_skip ?_; refine dw_seq ?_; refine dw_block ?_; refine dw_seq ?_; refine dwk [(14, .q [.v (.int .i64 (l[j]))]), (17, .v (.bool false))] TRP_ok hnt fun K hK => ?_
    refine And.intro (elo (eIs_len l)) ?_; refine And.intro (elv (eIs_getD l j) rfl) ?_; refine And.intro (beqF he) ?_; refine hK _ _ ?_; clear hK K; refine dw_cond (t := false) rfl ?_; rw [if_neg (by simp)]; refine dw_skip ?_; refine dwk [(11, .v (.int .i64 (↑(j + 1))))] TRP_ok hnt fun K hK => ?_; refine And.intro auI ?_; refine hK _ _ ?_; clear hK K
    refine ⟨⟨j + 1, contains_take hlt hj he⟩, by first | omega | (dsimp only; omega), VS.toA⟩
  ·rw [List.take_of_length_le (by omega)] at hj
   rw [hj]
   refine dw_seq ?_; refine dw_seq ?_; refine dwk [(8, .v (.int .i64 (↑l.length))), (9, .v (.bool false))] TRP_ok hnt fun K hK => ?_; refine And.intro (dintE (by rw [eIs_len])) ?_; refine And.intro auF ?_; refine hK _ _ ?_; clear hK K; refine dw_cond (t := false) rfl ?_; rw [if_neg (by simp)]; refine dw_exit ?_; refine dw_seq ?_; refine dwk [] TRP_ok hnt fun K hK => ?_; refine hK _ _ ?_; clear hK K; refine dw_ret ?_
   exact reta rfl
end Go.Proofs.Ytcblpjheoclkeaa

namespace Go.Proofs.Ytcblpjheoclkeaa
open Go.RowKit
def TRQ_3 : TI := ⟨1, false, [Value.int IntKind.i64 0], [], none, 8, 2, none, false⟩
theorem TRQ_3_ok : TypOk Try.prog 3 TRQ_3 := ⟨by kernel_rfl, by kernel_rfl, by kernel_rfl, by kernel_rfl, by kernel_rfl⟩
def TRQ_27 : TI := ⟨4, true, [Value.slice none 0 0, Value.int IntKind.i64 0, Value.int IntKind.i64 0, Value.slice none 0 0], [(0, 1, false), (1, 2, true), (3, 1, false)], none, 64, 6, none, false⟩
theorem TRQ_27_ok : TypOk Try.prog 27 TRQ_27 := ⟨by kernel_rfl, by kernel_rfl, by kernel_rfl, by kernel_rfl, by kernel_rfl⟩
def TRQ_43 : TI := ⟨1, false, [Value.slice none 0 0], [], some 3, 24, 5, none, false⟩
theorem TRQ_43_ok : TypOk Try.prog 43 TRQ_43 := ⟨by kernel_rfl, by kernel_rfl, by kernel_rfl, by kernel_rfl, by kernel_rfl⟩
def TRQ_24 : TI := ⟨2, true, [Value.int IntKind.i64 0, Value.int IntKind.i64 0], [(0, 1, false), (1, 1, false)], none, 16, 6, none, true⟩
theorem TRQ_24_ok : TypOk Try.prog 24 TRQ_24 := ⟨by kernel_rfl, by kernel_rfl, by kernel_rfl, by kernel_rfl, by kernel_rfl⟩
def TRQ_25 : TI := ⟨1, false, [Value.slice none 0 0], [], some 27, 24, 5, none, false⟩
theorem TRQ_25_ok : TypOk Try.prog 25 TRQ_25 := ⟨by kernel_rfl, by kernel_rfl, by kernel_rfl, by kernel_rfl, by kernel_rfl⟩
def TRQ_22 : TI := ⟨1, false, [Value.slice none 0 0], [], some 123, 24, 5, none, false⟩
theorem TRQ_22_ok : TypOk Try.prog 22 TRQ_22 := ⟨by kernel_rfl, by kernel_rfl, by kernel_rfl, by kernel_rfl, by kernel_rfl⟩
def TRQ_113 : TI := ⟨1, false, [Value.slice none 0 0], [], some 43, 24, 5, none, false⟩
theorem TRQ_113_ok : TypOk Try.prog 113 TRQ_113 := ⟨by kernel_rfl, by kernel_rfl, by kernel_rfl, by kernel_rfl, by kernel_rfl⟩
def TRQ_176 : TI := ⟨1, false, [Value.slice none 0 0], [], some 180, 24, 5, none, false⟩
theorem TRQ_176_ok : TypOk Try.prog 176 TRQ_176 := ⟨by kernel_rfl, by kernel_rfl, by kernel_rfl, by kernel_rfl, by kernel_rfl⟩
def TRQ_180 : TI := ⟨4, true, [Value.int IntKind.i64 0, Value.slice none 0 0, Value.slice none 0 0, Value.slice none 0 0], [(0, 1, false), (1, 1, false), (2, 1, false), (3, 1, false)], none, 80, 6, none, false⟩
theorem TRQ_180_ok : TypOk Try.prog 180 TRQ_180 := ⟨by kernel_rfl, by kernel_rfl, by kernel_rfl, by kernel_rfl, by kernel_rfl⟩
def TRQ_123 : TI := ⟨2, true, [Value.slice none 0 0, Value.int IntKind.i64 0], [(0, 1, false), (1, 1, false)], none, 32, 6, none, false⟩
theorem TRQ_123_ok : TypOk Try.prog 123 TRQ_123 := ⟨by kernel_rfl, by kernel_rfl, by kernel_rfl, by kernel_rfl, by kernel_rfl⟩
def TRQ : List (Nat × TI) := [(3, TRQ_3), (27, TRQ_27), (43, TRQ_43), (24, TRQ_24), (25, TRQ_25), (22, TRQ_22), (113, TRQ_113), (176, TRQ_176), (180, TRQ_180), (123, TRQ_123)]
theorem TRQ_ok : TabOk Try.prog TRQ := (((((((((((TabOk.nil _).cons TRQ_123_ok).cons TRQ_180_ok).cons TRQ_176_ok).cons TRQ_113_ok).cons TRQ_22_ok).cons TRQ_25_ok).cons TRQ_24_ok).cons TRQ_43_ok).cons TRQ_27_ok).cons TRQ_3_ok)

set_option maxHeartbeats 2000000 in
theorem rvars_d (t : Tm) (n : Int) (hz : t.full ≤ 100000) (hf : t.Fit) : PureC Try.prog 115 [.ag (eTm t), .v (.int .i64 n)] (.tu [.sl 1 (eIs (Pn.vars t n).1) none, .v (.int .i64 (Pn.vars t n).2)]) := by
 have hz2 := full_args t
 have hz3 := fulls_len t.args
 rw [eTm_eq]
 by_cases hk : t.kind = 2
 ·by_cases hn : n < 0
  ·have hv : Pn.vars t n = ([], 1) := by unfold Pn.vars; rw [if_pos (.inr hn)]
   rw [hv]
   refine calldw 0 59 [ResultVar.tmp 4, ResultVar.tmp 5] TRQ_ok Try.func115 rfl Try.ntmps115 rfl fun cx hnt hn0 => ?_
   ·skip
    refine dw_seq ?_; refine dwk [] TRQ_ok hnt fun K hK => ?_; refine hK _ _ ?_; clear hK K; refine dw_seq ?_; refine dw_seq ?_; refine dwk [(13, .v (.bool false)), (16, .v (.bool true))] TRQ_ok hnt fun K hK => ?_; refine And.intro (bneF hk) ?_; refine And.intro auT ?_; refine hK _ _ ?_; clear hK K; refine dw_cond (t := true) rfl ?_; rw [if_pos rfl]; refine dw_seq ?_; refine dwk [] TRQ_ok hnt fun K hK => ?_
    refine hK _ _ ?_; clear hK K; refine dw_ret ?_
    exact reta rfl
  ·have hv : Pn.vars t n = match Pn.varsL n t.args [] with | some l => (l, 0) | none => ([], 6) := by unfold Pn.vars; exact if_neg (by simp [hk]; omega)
   refine calldw 0 59 [ResultVar.tmp 4, ResultVar.tmp 5] TRQ_ok Try.func115 rfl Try.ntmps115 rfl fun cx hnt hn0 => ?_
   ·skip
    refine dw_seq ?_; refine dwk [] TRQ_ok hnt fun K hK => ?_; refine hK _ _ ?_; clear hK K; refine dw_seq ?_; refine dw_seq ?_; refine dwk [(13, .v (.bool false)), (16, .v (.bool false))] TRQ_ok hnt fun K hK => ?_; refine And.intro (bneF hk) ?_; refine And.intro auF ?_; refine hK _ _ ?_; clear hK K; refine dw_cond (t := false) rfl ?_; rw [if_neg (by simp)]; refine dw_skip ?_; refine dw_seq ?_; refine dwk [] TRQ_ok hnt fun K hK => ?_
    refine hK _ _ ?_; clear hK K; refine dw_seq ?_; refine dw_seq ?_; refine dwk [] TRQ_ok hnt fun K hK => ?_; refine hK _ _ ?_; clear hK K; refine dw_block ?_
    refine dw_loop (ι := { p : Nat × List Int // Pn.varsL n (t.args.take p.1) [] = some p.2 ∧ p.1 ≤ t.args.length }) (fun p => [(.t 1, .v (.int .i64 n)), (.t 2, .p 0 0), (.t 6, .sl 1 (eIs p.1.2) (some 13)), (.t 7, .v (.int .i64 ↑p.1.1)), (.c 0 3, .sl 4 (eTms t.args) none), (.r 13, .rw 3 1 p.1.2.length)]) 14 (fun p => t.args.length - p.1.1) (⟨(0, []), rfl, Nat.zero_le _⟩) ((VS.trans (VS.rowT (x := 6) (by rw [hnt]; decide) 3 1 rfl) VS.toA)) fun p => ?_
    obtain ⟨⟨j, acc⟩, hp, hjl⟩ := p
    dsimp only at hp hjl ⊢
    by_cases hlt : j < t.args.length
    ·have hst := Pn.varsL_take n t.args j hlt hp
     have hal := Pn.varsL_len n _ _ _ hp
     rw [List.length_take, List.length_nil] at hal
     have hmem := List.getElem_mem hlt
     have hva := rvar_d t.args[j] (by have := full_mem hmem; omega) (fit_args hf _ hmem)
     unfold varV at hva
     rw [eTm_eq] at hva
     have hno : Pn.isVar n acc t.args[j] = false → Pn.vars t n = ([], 6) := fun h => by
      rw [hv, Pn.varsL_none n t.args (j + 1) (by rw [hst, h]; rfl)]
     unfold Pn.isVar at hno hst
     have hha := rhas_d acc t.args[j].headIx (by omega)
     refine dw_seq ?_; refine dw_seq ?_; refine dwk [(21, .v (.int .i64 (↑t.args.length))), (22, .v (.bool true))] TRQ_ok hnt fun K hK => ?_; refine And.intro (dintE (by rw [eTms_len])) ?_; refine And.intro auT ?_; refine hK _ _ ?_; clear hK K; refine dw_cond (t := true) rfl ?_; rw [if_pos rfl]
     cases h1 : longB t.args[j] with
     | false =>
      rw [hno (by simp [h1])]
      rw [h1] at hva
      refine dw_skip ?_; refine dw_seq ?_; refine dw_block ?_; refine dw_seq ?_; refine dwk [(29, .q [.sl 2 (eTys t.args[j].binds) none, .v (.int .i64 t.args[j].kind), .v (.int .i64 t.args[j].index), .sl 4 (eTms t.args[j].args) none])] TRQ_ok hnt fun K hK => ?_; refine And.intro (elo (eTms_len t.args)) ?_; refine And.intro (elv (eTms_getD t.args j) (eTm_eq _)) ?_; refine dcl (hva) ?_; refine hK _ _ ?_; clear hK K
      refine dw_seq ?_; refine dw_seq ?_; refine dwk [] TRQ_ok hnt fun K hK => ?_; refine hK _ _ ?_; clear hK K; refine dw_cond (t := true) rfl ?_; rw [if_pos rfl]; refine dw_seq ?_; refine dwk [] TRQ_ok hnt fun K hK => ?_; refine hK _ _ ?_; clear hK K; refine dw_ret ?_
      exact reta rfl
     | true =>
      rw [h1, if_pos rfl, if_pos rfl] at hva
      refine dw_skip ?_; refine dw_seq ?_; refine dw_block ?_; refine dw_seq ?_; refine dwk [(29, .q [.sl 2 (eTys t.args[j].binds) none, .v (.int .i64 t.args[j].kind), .v (.int .i64 t.args[j].index), .sl 4 (eTms t.args[j].args) none])] TRQ_ok hnt fun K hK => ?_; refine And.intro (elo (eTms_len t.args)) ?_; refine And.intro (elv (eTms_getD t.args j) (eTm_eq _)) ?_; refine dcl (hva) ?_; refine hK _ _ ?_; clear hK K
      by_cases h2 : t.args[j].kind = 0
      ·by_cases h3 : t.args[j].headIx < n
       ·cases h4 : acc.contains t.args[j].headIx with
        | true =>
         rw [hno (by rw [h1, h4]; simp)]
         rw [h4] at hha
         refine dw_seq ?_; refine dw_seq ?_; refine dwk [(39, .v (.bool false)), (45, .v (.bool false)), (48, .sl 1 (eIs acc) none)] TRQ_ok hnt fun K hK => ?_; refine And.intro (bneF h2) ?_; refine And.intro auF ?_; refine And.intro (VLe.untag _ _ _) ?_; refine dcl (hha) ?_; refine hK _ _ ?_; clear hK K; refine dw_cond (t := true) rfl ?_; rw [if_pos rfl]; refine dw_seq ?_; refine dwk [] TRQ_ok hnt fun K hK => ?_
         refine hK _ _ ?_; clear hK K; refine dw_ret ?_
         exact reta rfl
        | false =>
         rw [h4] at hha
         rw [if_pos (by simp only [h1, h2, h3, h4]; rfl)] at hst; refine dw_seq ?_; refine dw_seq ?_; refine dwk [(39, .v (.bool false)), (45, .v (.bool false)), (48, .sl 1 (eIs acc) none)] TRQ_ok hnt fun K hK => ?_; refine And.intro (bneF h2) ?_; refine And.intro auF ?_; refine And.intro (VLe.untag _ _ _) ?_; refine dcl (hha) ?_; refine hK _ _ ?_; clear hK K; refine dw_cond (t := false) rfl ?_; rw [if_neg (by simp)]
         refine dw_skip ?_; refine dwk [(57, .sl 1 (eIs (acc ++ [t.args[j].headIx])) (some 13))] TRQ_ok hnt fun K hK => ?_; refine And.intro (⟨by rw [eIs_len], by rw [eIs_len]; simp; omega⟩) ?_; refine And.intro (VLe.of_eq (by rw [eIs_append]; rfl)) ?_; refine hK _ _ ?_; clear hK K; refine dwk [(24, .v (.int .i64 (↑(j + 1))))] TRQ_ok hnt fun K hK => ?_; refine And.intro auI ?_; refine hK _ _ ?_; clear hK K
         have hl5 : (eIs acc).length = acc.length := eIs_len acc
         refine ⟨⟨(j + 1, acc ++ [t.args[j].headIx]), hst, hlt⟩, by first | omega | (dsimp only; omega), (by try simp only [List.length_append, List.length_take, List.length_cons, List.length_nil, Nat.zero_add, hl5]; exact VS.toA)⟩
       ·rw [hno (by rw [h1, h2, decide_eq_false h3]; simp)]
        refine dw_seq ?_; refine dw_seq ?_; refine dwk [(39, .v (.bool false)), (45, .v (.bool true))] TRQ_ok hnt fun K hK => ?_; refine And.intro (bneF h2) ?_; refine And.intro auT ?_; refine hK _ _ ?_; clear hK K; refine dw_cond (t := true) rfl ?_; rw [if_pos rfl]; refine dw_seq ?_; refine dwk [] TRQ_ok hnt fun K hK => ?_; refine hK _ _ ?_; clear hK K; refine dw_ret ?_
        exact reta rfl
      ·rw [hno (by rw [h1, decide_eq_false h2]; simp)]
       refine dw_seq ?_; refine dw_seq ?_; refine dwk [(39, .v (.bool true))] TRQ_ok hnt fun K hK => ?_; refine And.intro (bneT h2) ?_; refine hK _ _ ?_; clear hK K; refine dw_cond (t := true) rfl ?_; rw [if_pos rfl]; refine dw_seq ?_; refine dwk [] TRQ_ok hnt fun K hK => ?_; refine hK _ _ ?_; clear hK K; refine dw_ret ?_
       exact reta rfl
    ·rw [List.take_of_length_le (by omega)] at hp
     rw [hv, hp]
     refine dw_seq ?_; refine dw_seq ?_; refine dwk [(21, .v (.int .i64 (↑t.args.length))), (22, .v (.bool false))] TRQ_ok hnt fun K hK => ?_; refine And.intro (dintE (by rw [eTms_len])) ?_; refine And.intro auF ?_; refine hK _ _ ?_; clear hK K; refine dw_cond (t := false) rfl ?_; rw [if_neg (by simp)]; refine dw_exit ?_; refine dw_seq ?_; refine dwk [] TRQ_ok hnt fun K hK => ?_; refine hK _ _ ?_; clear hK K
     refine dw_ret ?_
     exact reta rfl
 ·have hv : Pn.vars t n = ([], 1) := by unfold Pn.vars; rw [if_pos (.inl hk)]
  rw [hv]
  refine calldw 0 59 [ResultVar.tmp 4, ResultVar.tmp 5] TRQ_ok Try.func115 rfl Try.ntmps115 rfl fun cx hnt hn0 => ?_
  ·skip
   refine dw_seq ?_; refine dwk [] TRQ_ok hnt fun K hK => ?_; refine hK _ _ ?_; clear hK K; refine dw_seq ?_; refine dw_seq ?_; refine dwk [(13, .v (.bool true))] TRQ_ok hnt fun K hK => ?_; refine And.intro (bneT hk) ?_; refine hK _ _ ?_; clear hK K; refine dw_cond (t := true) rfl ?_; rw [if_pos rfl]; refine dw_seq ?_; refine dwk [] TRQ_ok hnt fun K hK => ?_; refine hK _ _ ?_; clear hK K; refine dw_ret ?_
   exact reta rfl
namespace Pn
theorem useL_take (l : List Spot) (j : Nat) (hj : j < l.length) (h : (useL (l.take j)).2 = true) : useL (l.take (j + 1)) = ((useL (l.take j)).1 ++ (useL [l[j]]).1, (useL [l[j]]).2) := by
  rw [List.take_add_one, List.getElem?_eq_getElem hj, Option.toList_some, useL_app, if_pos h]
theorem useL_stop (l : List Spot) (j : Nat) (h : (useL (l.take j)).2 = false) : (useL l).2 = false := by
  have h1 : useL l = useL (l.take j ++ l.drop j) := by rw [List.take_append_drop]
  rw [h1, useL_app, if_neg (by simp [h])]; exact h
theorem useL_len (l : List Spot) : (useL l).1.length ≤ l.length := by
  induction l with
  | nil => simp [useL]
  | cons s l ih =>
    by_cases hk : s.1.kind = 2
    · cases hv : varsL (s.2.1.length : Nat) s.1.args [] with
      | none => rw [useL_bad _ hk hv]; simp
      | some v => rw [useL_use _ hk hv]; simpa using ih
    · rw [useL_other _ hk]; simp; omega
theorem subs_rng (t : Tm) : ∀ (ar : List Ty) (p : List Int), ∀ s ∈ subs t ar p, (∀ x ∈ s.2.2, x ∈ p ∨ (0 ≤ x ∧ x ≤ (t.full : Int))) ∧ s.2.2.length ≤ p.length + t.full ∧ s.2.1.length ≤ ar.length + t.full := by
  induction t using Tm.ind with
  | h bs k i a ih =>
    intro ar p s hs
    rw [subs_eq] at hs
    rw [Tm.full_eq]
    have hbl := Ty.le_sizes bs
    rcases List.mem_cons.1 hs with rfl | hs
    · exact ⟨fun x hx => .inl hx, by dsimp only; omega, by dsimp only; rw [List.length_append]; omega⟩
    · obtain ⟨j, hj, hs⟩ := subss_mem _ _ _ _ hs
      rw [Nat.zero_add] at hs
      have hfm := full_mem (List.getElem_mem hj)
      have hal := fulls_len a
      obtain ⟨h1, h2, h3⟩ := ih a[j] (List.getElem_mem hj) _ _ s hs
      refine ⟨fun x hx => ?_, by rw [List.length_append] at h2; simp at h2; omega, by rw [List.length_append] at h3; omega⟩
      rcases h1 x hx with h | h
      · rcases List.mem_append.1 h with h | h
        · exact .inl h
        · rw [List.mem_singleton] at h; right; omega
      · right; omega
end Pn
theorem subs_part (t : Tm) : ∀ (ar : List Ty) (p : List Int), t.Fit → ∀ s ∈ Pn.subs t ar p, s.1.full ≤ t.full ∧ s.1.Fit := by
  induction t using Tm.ind with
  | h bs k i a ih =>
    intro ar p hf s hs
    rw [Pn.subs_eq] at hs
    rcases List.mem_cons.1 hs with rfl | hs
    · exact ⟨Nat.le_refl _, hf⟩
    · obtain ⟨j, hj, hs⟩ := Pn.subss_mem _ _ _ _ hs
      have hfm := full_mem (List.getElem_mem hj)
      have := ih a[j] (List.getElem_mem hj) _ _ (fit_args hf _ (List.getElem_mem hj)) s hs
      rw [Tm.full_eq]
      exact ⟨by omega, this.2⟩
set_option maxHeartbeats 2000000 in
theorem ruses_d (t : Tm) (hz : t.full ≤ 50000) (hf : t.Fit) : PureC Try.prog 87 [.ag (eTm t)] (.tu [.sl 4 (if (Pn.uses t [] []).2 then eUses (Pn.uses t [] []).1 else []) none, .v (.bool (Pn.uses t [] []).2)]) := by
 have hall : PureC Try.prog 57 [.ag (eTm t), .v (.slice none 0 0)] (.sl 1 (ePaths (Pn.pth t [])) none) := CallC.vle (rall_d t [] (by simp; omega)) (.cons (VLe.refl _) (.cons (VLe.nil _) .nil)) (VLe.refl _)
 rw [← Pn.useL_subs, ← Pn.subs_pth t [] []] at *
 have hsl := Pn.subs_len t [] []
 have hsf := Tm.size_le_full t
 have hrg := Pn.subs_rng t [] []
 have hpt := subs_part t [] [] hf
 have hat := Pn.subs_at t [] [] t t.binds (by simp) rfl
 have hrat := fun p => rat_d p t
 obtain ⟨L, hL⟩ : ∃ L, Pn.subs t [] [] = L := ⟨_, rfl⟩
 rw [hL] at hsl hrg hpt hat hall ⊢
 obtain ⟨Ps, hPs⟩ : ∃ Ps, L.map (·.2.2) = Ps := ⟨_, rfl⟩
 rw [hPs] at hall
 have hPl : Ps.length = L.length := by rw [← hPs, List.length_map]
 rw [eTm_eq] at hall
 rw [eTm_eq]
 refine call_of_dw 0 57 [ResultVar.tmp 2, ResultVar.tmp 3] TRQ_ok (by kernel_rfl) Try.func87 rfl Try.ntmps87 rfl (by simp) ?dwords ?dbody
 case dwords => simp [wordsOk, D.ok, D.oks, D.okss, rnames, inN, ckey, eTms_ok, eTys_ok, eIs_ok, eUses_ok, apply_ite]
 case dbody =>
  intro cx hnt hn0
  refine dw_seq ?_; refine dwk [] TRQ_ok hnt fun K hK => ?_; refine hK _ _ ?_; clear hK K; refine dw_seq ?_; refine dwk [] TRQ_ok hnt fun K hK => ?_; refine hK _ _ ?_; clear hK K; refine dw_seq ?_; refine dwk [] TRQ_ok hnt fun K hK => ?_; refine dcl (hall) ?_; refine hK _ _ ?_; clear hK K; refine dw_seq ?_; refine dw_seq ?_; refine dwk [] TRQ_ok hnt fun K hK => ?_; refine hK _ _ ?_; clear hK K; refine dw_block ?_
  refine dw_loop (ι := { j : Nat // (Pn.useL (L.take j)).2 = true }) (fun j => [(.t 1, .p 0 0), (.t 4, .sl 4 (eUses (Pn.useL (L.take j.1)).1) (some 8)), (.r 8, .rw 180 4 (Pn.useL (L.take j.1)).1.length), (.t 5, .sl 1 (ePaths Ps) none), (.t 6, .v (.int .i64 ↑j.1)), (.c 0 0, .sl 2 (eTys t.binds) none), (.c 0 1, .v (.int .i64 t.kind)), (.c 0 2, .v (.int .i64 t.index)), (.c 0 3, .sl 4 (eTms t.args) none)]) 9 (fun j => Ps.length - j.1) (⟨0, rfl⟩) ((VS.trans (VS.rowT (x := 4) (by rw [hnt]; decide) 180 4 rfl) (VS.toK (by omega) (by repeat first | exact trivial | refine And.intro (And.intro (by first | rfl | simp [D.ok, D.oks, D.okss, D.okm, upto, keyOk, Pn.useL, eUses]) (by first | exact Or.inl rfl | exact Or.inr ⟨_, rfl, (by repeat first | exact VLe.refl _ | exact VLe.nil _ | exact VLe.untag _ _ _ | refine VLe.ag ?_ | refine VLe.tu ?_ | refine VLeL.cons ?_ ?_ | exact VLeL.nil), trivial⟩ | simp [get, Key.eq, Pn.useL, eUses])) ?_)))) fun j => ?_
  obtain ⟨j, hj⟩ := j
  dsimp only
  by_cases hlt : j < Ps.length
  ·have hltL : j < L.length := by omega
   have hmem := List.getElem_mem hltL
   have hst := Pn.useL_take L j hltL hj
   have hul := Pn.useL_len (L.take j)
   rw [List.length_take] at hul
   have hPj : Ps[j] = L[j].2.2 := by subst hPs; simp
   obtain ⟨⟨x, ar, p⟩, hs⟩ : ∃ s, L[j] = s := ⟨_, rfl⟩
   rw [hs] at hst hPj hmem
   dsimp only at hPj
   have h1 := hrg _ hmem
   have h2 := hpt _ hmem
   have h3 := hat _ hmem
   dsimp only at h1 h2 h3
   have hA := hrat p (by omega) (by simp at h1; omega) (fun y hy => by rcases h1.1 y hy with h | h; cases h; omega)
   rw [h3] at hA
   unfold atV at hA
   dsimp only at hA
   rw [eTm_eq, eTm_eq] at hA
   refine dw_seq ?_; refine dw_seq ?_; refine dwk [(16, .v (.int .i64 (↑Ps.length))), (17, .v (.bool true))] TRQ_ok hnt fun K hK => ?_; refine And.intro (dintE (by rw [ePaths_len])) ?_; refine And.intro auT ?_; refine hK _ _ ?_; clear hK K; refine dw_cond (t := true) rfl ?_; rw [if_pos rfl]; refine dw_skip ?_; refine dw_seq ?_; refine dw_block ?_; refine dw_seq ?_; refine dwkD [(24, .q [.sl 1 (eIs Ps[j]) none]), (25, .sl 1 (eIs p) none)] TRQ_ok hnt fun K hK => ?_
   refine And.intro (elo (ePaths_len Ps)) ?_; refine And.intro (elv (ePaths_getD Ps j) rfl) ?_; refine And.intro (VLe.of_eq (by rw [hPj])) ?_; refine dcl (hA) ?_; refine hK _ _ (by kernel_rfl) ?_; clear hK K
   by_cases hk : x.kind = 2
   ·have hV := rvars_d x (ar.length : Nat) (by omega) h2.2
    have hVv : Pn.vars x (ar.length : Nat) = match Pn.varsL (ar.length : Nat) x.args [] with | some l => (l, 0) | none => ([], 6) := by unfold Pn.vars; exact if_neg (by simp [hk])
    rw [hVv, eTm_eq] at hV
    cases hv : Pn.varsL (ar.length : Nat) x.args [] with
    | none =>
     rw [hv] at hV
     have hbad := Pn.useL_bad (s := (x, ar, p)) [] hk hv
     rw [hbad] at hst
     have hfin := Pn.useL_stop L (j + 1) (by rw [hst])
     rw [hfin]
     refine dw_seq ?_; refine dw_seq ?_; refine dwk [(33, .v (.bool false))] TRQ_ok hnt fun K hK => ?_; refine And.intro (bneF hk) ?_; refine hK _ _ ?_; clear hK K; refine dw_cond (t := false) rfl ?_; rw [if_neg (by simp)]; refine dw_skip ?_; refine dw_seq ?_; refine dwk [(37, .v (.int .i64 (↑ar.length)))] TRQ_ok hnt fun K hK => ?_; refine And.intro (dintE (by rw [eTys_len])) ?_; refine dcl (hV) ?_; refine hK _ _ ?_; clear hK K
     refine dw_seq ?_; refine dw_seq ?_; refine dwk [(42, .v (.bool true))] TRQ_ok hnt fun K hK => ?_; refine And.intro (VLe.refl _) ?_; refine hK _ _ ?_; clear hK K; refine dw_cond (t := true) rfl ?_; rw [if_pos rfl]; refine dw_seq ?_; refine dwk [] TRQ_ok hnt fun K hK => ?_; refine hK _ _ ?_; clear hK K; refine dw_ret ?_
     exact reta rfl
    | some v =>
     rw [hv] at hV
     have hus := Pn.useL_use (s := (x, ar, p)) [] hk hv
     rw [hus] at hst
     simp only [Pn.useL] at hst
     refine dw_seq ?_; refine dw_seq ?_; refine dwk [(33, .v (.bool false))] TRQ_ok hnt fun K hK => ?_; refine And.intro (bneF hk) ?_; refine hK _ _ ?_; clear hK K; refine dw_cond (t := false) rfl ?_; rw [if_neg (by simp)]; refine dw_skip ?_; refine dw_seq ?_; refine dwk [(37, .v (.int .i64 (↑ar.length)))] TRQ_ok hnt fun K hK => ?_; refine And.intro (dintE (by rw [eTys_len])) ?_; refine dcl (hV) ?_; refine hK _ _ ?_; clear hK K
     refine dw_seq ?_; refine dw_seq ?_; refine dwk [(42, .v (.bool false))] TRQ_ok hnt fun K hK => ?_; refine And.intro (VLe.refl _) ?_; refine hK _ _ ?_; clear hK K; refine dw_cond (t := false) rfl ?_; rw [if_neg (by simp)]; refine dw_skip ?_; refine dwkD [(51, .q [.sl 1 (eIs Ps[j]) none]), (52, .sl 1 (eIs p) none), (55, .sl 4 (eUses (Pn.useL (L.take (j + 1))).1) (some 8))] TRQ_ok hnt fun K hK => ?_; refine And.intro (elo (ePaths_len Ps)) ?_
     refine And.intro (elv (ePaths_getD Ps j) rfl) ?_; refine And.intro (VLe.of_eq (by rw [hPj])) ?_; refine And.intro (⟨by rw [eUses_len], by rw [eUses_len]; simp; omega⟩) ?_; refine And.intro (VLe.of_eq (by rw [hst, eUses_append]; rfl)) ?_; refine hK _ _ (by kernel_rfl) ?_; clear hK K; refine dwk [(19, .v (.int .i64 (↑(j + 1))))] TRQ_ok hnt fun K hK => ?_; refine And.intro auI ?_; refine hK _ _ ?_; clear hK K
     have hlq : (eUses (Pn.useL (L.take j)).1).length + 1 = (Pn.useL (L.take (j + 1))).1.length := by rw [eUses_len, hst]; simp
     refine ⟨⟨j + 1, by rw [hst]⟩, by first | omega | (dsimp only; omega), (by try simp only [List.length_append, List.length_take, List.length_cons, List.length_nil, Nat.zero_add, hlq]; exact VS.toA)⟩
   ·have hot := Pn.useL_other (s := (x, ar, p)) [] hk
    rw [hot] at hst
    simp only [Pn.useL, List.append_nil] at hst
    have e1 : (Pn.useL (L.take (j + 1))).1 = (Pn.useL (L.take j)).1 := by rw [hst]
    rw [← e1]
    refine dw_seq ?_; refine dw_seq ?_; refine dwk [(33, .v (.bool true))] TRQ_ok hnt fun K hK => ?_; refine And.intro (bneT hk) ?_; refine hK _ _ ?_; clear hK K; refine dw_cond (t := true) rfl ?_; rw [if_pos rfl]; refine dw_exit ?_; refine dwk [(19, .v (.int .i64 (↑(j + 1))))] TRQ_ok hnt fun K hK => ?_; refine And.intro auI ?_; refine hK _ _ ?_; clear hK K
    refine ⟨⟨j + 1, by rw [hst]⟩, by first | omega | (dsimp only; omega), VS.toA⟩
  ·rw [List.take_of_length_le (by omega)] at hj ⊢
   rw [hj, if_pos rfl]
   refine dw_seq ?_; refine dw_seq ?_; refine dwk [(16, .v (.int .i64 (↑Ps.length))), (17, .v (.bool false))] TRQ_ok hnt fun K hK => ?_; refine And.intro (dintE (by rw [ePaths_len])) ?_; refine And.intro auF ?_; refine hK _ _ ?_; clear hK K; refine dw_cond (t := false) rfl ?_; rw [if_neg (by simp)]; refine dw_exit ?_; refine dw_seq ?_; refine dwk [] TRQ_ok hnt fun K hK => ?_; refine hK _ _ ?_; clear hK K
   refine dw_ret ?_
   exact reta rfl
end Go.Proofs.Ytcblpjheoclkeaa

