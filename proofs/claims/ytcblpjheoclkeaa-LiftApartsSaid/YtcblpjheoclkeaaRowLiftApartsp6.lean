/-
  How many terms: exactly what the reference counts; the laws' Few. What the laws' Few tells of a term. The laws' Small (seats without Chk9). Types and terms of the laws, there and back, walked in the deep way. Pairs of terms with the types of their metavariables (rule.Pair, filigreeref17.Pair), and the laws' helpers for them: To, Of, Same, Few. The readings of a row's arguments that are pairs of terms with their metavariables' types. A term that nothing else holds: each row of its tree is another block, and may be written.
-/
import Derived.Test.YtcblpjheoclkeaaRowLiftApartsp5
import Derived.Test.YtcblpjheoclkeaaRowLiftApartsp4
import Derived.Test.YtcblpjheoclkeaaRowLiftApartsp1
set_option maxRecDepth 100000
set_option maxHeartbeats 1000000
set_option linter.unusedVariables false
set_option linter.unusedSimpArgs false
namespace Go.Proofs.Ytcblpjheoclkeaa
open Go.RowKit
def TF6_3 : TI := ⟨1, false, [Value.int IntKind.i64 0], [], none, 8, 2, none, false⟩
theorem TF6_3_ok : TypOk Try.prog 3 TF6_3 := ⟨by kernel_rfl, by kernel_rfl, by kernel_rfl, by kernel_rfl, by kernel_rfl⟩
def TF6_27 : TI := ⟨4, true, [Value.slice none 0 0, Value.int IntKind.i64 0, Value.int IntKind.i64 0, Value.slice none 0 0], [(0, 1, false), (1, 2, true), (3, 1, false)], none, 64, 6, none, false⟩
theorem TF6_27_ok : TypOk Try.prog 27 TF6_27 := ⟨by kernel_rfl, by kernel_rfl, by kernel_rfl, by kernel_rfl, by kernel_rfl⟩
def TF6_22 : TI := ⟨1, false, [Value.slice none 0 0], [], some 123, 24, 5, none, false⟩
theorem TF6_22_ok : TypOk Try.prog 22 TF6_22 := ⟨by kernel_rfl, by kernel_rfl, by kernel_rfl, by kernel_rfl, by kernel_rfl⟩
def TF6_25 : TI := ⟨1, false, [Value.slice none 0 0], [], some 27, 24, 5, none, false⟩
theorem TF6_25_ok : TypOk Try.prog 25 TF6_25 := ⟨by kernel_rfl, by kernel_rfl, by kernel_rfl, by kernel_rfl, by kernel_rfl⟩
def TF6_123 : TI := ⟨2, true, [Value.slice none 0 0, Value.int IntKind.i64 0], [(0, 1, false), (1, 1, false)], none, 32, 6, none, false⟩
theorem TF6_123_ok : TypOk Try.prog 123 TF6_123 := ⟨by kernel_rfl, by kernel_rfl, by kernel_rfl, by kernel_rfl, by kernel_rfl⟩
def TF6 : List (Nat × TI) := [(3, TF6_3), (27, TF6_27), (22, TF6_22), (25, TF6_25), (123, TF6_123)]
theorem TF6_ok : TabOk Try.prog TF6 := ((((((TabOk.nil _).cons TF6_123_ok).cons TF6_25_ok).cons TF6_22_ok).cons TF6_27_ok).cons TF6_3_ok)

def fewB1 (most d : Int) : List Ty → Int → Option Int
  | [], n => some n
  | t :: l, n => if n ≤ most then (if fewT most t d ≤ most then fewB1 most d l (n + t.size) else none) else some n
mutual
def fewM (most : Int) : Tm → Int → Int
  | .mk bs _ _ a, d => if d ≤ 0 then most + 1 else match fewB1 most d bs 1 with
    | none => most + 1
    | some n => fewMs most a (d - 1) n
def fewMs (most : Int) : List Tm → Int → Int → Int
  | [], _, n => n
  | t :: l, d, n => if n ≤ most then fewMs most l d (n + fewM most t d) else n
end
theorem fewB1_le {most d : Int} (hm : 1 ≤ most) (hd : d ≤ 1000) : ∀ (l : List Ty) (n : Int), 1 ≤ n → n ≤ 2 * most → ∀ r, fewB1 most d l n = some r → 1 ≤ r ∧ r ≤ 2 * most
  | [], n, h0, h1, r, h => by rw [fewB1] at h; cases h; exact ⟨h0, h1⟩
  | t :: l, n, h0, h1, r, h => by
    rw [fewB1] at h
    split at h
    · split at h
      · rename_i h2
        have := fewT_size hm 1000 t d hd h2
        have := (fewT_le hm 1000 t d hd).1
        exact fewB1_le hm hd l _ (by omega) (by omega) r h
      · cases h
    · cases h; exact ⟨h0, h1⟩
theorem fewMs_le {most : Int} (hm : 1 ≤ most) {B : Int} (hB : most ≤ B) : ∀ (l : List Tm) (d n : Int), (∀ t ∈ l, 1 ≤ fewM most t d ∧ fewM most t d ≤ B) → 1 ≤ n → n ≤ most + B → 1 ≤ fewMs most l d n ∧ fewMs most l d n ≤ most + B
  | [], d, n, _, h0, h1 => by rw [fewMs]; exact ⟨h0, h1⟩
  | t :: l, d, n, h, h0, h1 => by
    rw [fewMs]
    split
    · have := h t (by simp)
      exact fewMs_le hm hB l d _ (fun u hu => h u (by simp [hu])) (by omega) (by omega)
    · exact ⟨h0, h1⟩
theorem fewM_le {most : Int} (hm : 1 ≤ most) : ∀ (k : Nat) (t : Tm) (d : Int), k ≤ 1000 → d ≤ k → 1 ≤ fewM most t d ∧ fewM most t d ≤ most * k + most + 1
  | 0, .mk bs kd i a, d, hk, hd => by
    rw [fewM, if_pos (by omega)]
    have e : most * ((0 : Nat) : Int) = 0 := Int.mul_zero _
    rw [e]; omega
  | k + 1, .mk bs kd i a, d, hk, hd => by
    rw [fewM]
    have e : most * ((k + 1 : Nat) : Int) = most * (k : Int) + most := by rw [Int.natCast_add, Int.mul_add]; simp
    have h0 : 0 ≤ most * (k : Int) := Int.mul_nonneg (by omega) (by omega)
    rw [e]
    split
    · omega
    · cases hb : fewB1 most d bs 1 with
      | none => dsimp only; omega
      | some n =>
        have hn := fewB1_le hm (by omega) bs 1 (by omega) (by omega) n hb
        have := fewMs_le hm (B := most * k + most + 1) (by omega) a (d - 1) n (fun t _ => fewM_le hm k t (d - 1) (by omega) (by omega)) hn.1 (by omega)
        dsimp only
        omega
set_option maxHeartbeats 4000000 in
theorem few6_d (most : Int) (h1 : 1 ≤ most) (h2 : most ≤ 1000) : ∀ (t : Tm) (d : Int), -1000 ≤ d → d ≤ 1000 → PureC Try.prog 69 [.ag (eTm t), .v (.int .i64 most), .v (.int .i64 d)] (.v (.int .i64 (fewM most t d))) := by
 intro t
 induction t using Tm.ind with
 | h bs k i a ih =>
 intro d hd1 hd2
 obtain ⟨V, hV⟩ : ∃ V, fewM most (.mk bs k i a) d = V := ⟨_, rfl⟩
 rw [hV]
 rw [fewM] at hV
 refine call_of_dw 0 69 [ResultVar.tmp 6] TF6_ok (by kernel_rfl) Try.func69 rfl Try.ntmps69 rfl (by simp) ?dwords ?dbody
 case dwords => simp [wordsOk, D.ok, D.oks, rnames, eTm_ok]
 case dbody =>
  intro cx hnt hn0
  refine dw_seq ?_; refine dwk [] TF6_ok hnt fun K hK => ?_; refine hK _ _ ?_; clear hK K; refine dw_seq (dw_seq ?_)
  by_cases hd : d ≤ 0
  ·rw [if_pos hd] at hV
   subst hV
   refine dwk [(11, .v (.bool true))] TF6_ok hnt fun K hK => ?_; refine And.intro (dtrue hd) ?_; refine hK _ _ ?_; clear hK K; refine dw_cond (t := true) rfl ?_; rw [if_pos rfl]; refine dw_seq ?_; refine dwk [(13, .v (.int .i64 (most + 1)))] TF6_ok hnt fun K hK => ?_; refine And.intro (dintE (IntWalk.i64_in _ (by omega))) ?_; refine hK _ _ ?_; clear hK K; refine dw_ret ?_
   exact retv (N := 0) (.inr rfl) rfl (VLe.refl _) trivial
  ·rw [if_neg hd] at hV; refine dwk [(11, .v (.bool false))] TF6_ok hnt fun K hK => ?_; refine And.intro (dfalse hd) ?_; refine hK _ _ ?_; clear hK K; refine dw_cond (t := false) rfl ?_; rw [if_neg (by simp)]; refine dw_skip ?_; refine dw_seq ?_; refine dwk [] TF6_ok hnt fun K hK => ?_; refine hK _ _ ?_; clear hK K
   refine dw_cutE (ι := { n : Int // 1 ≤ n ∧ n ≤ 2 * most ∧ V = fewMs most a (d - 1) n }) (fun n => [(.t 1, .v (.int .i64 most)), (.t 2, .v (.int .i64 d)), (.t 3, .p 0 0), (.t 7, .v (.int .i64 n.1)), (.c 0 0, .sl 2 (eTys bs) none), (.c 0 1, .v (.int .i64 k)), (.c 0 2, .v (.int .i64 i)), (.c 0 3, .sl 4 (eTms a) none)]) 1 ?_ fun n => ?_
   ·refine dw_seq ?_; refine dwk [] TF6_ok hnt fun K hK => ?_; refine hK _ _ ?_; clear hK K; refine dw_block ?_
    refine dw_loop (ι := { p : Nat × Int // fewB1 most d (bs.drop p.1) p.2 = fewB1 most d bs 1 ∧ (p.1 : Int) + 1 ≤ p.2 ∧ p.2 ≤ 2 * most ∧ p.1 ≤ bs.length }) (fun p => [(.t 1, .v (.int .i64 most)), (.t 2, .v (.int .i64 d)), (.t 3, .p 0 0), (.t 7, .v (.int .i64 p.1.2)), (.t 8, .v (.int .i64 (p.1.1 : Int))), (.c 0 0, .sl 2 (eTys bs) none), (.c 0 1, .v (.int .i64 k)), (.c 0 2, .v (.int .i64 i)), (.c 0 3, .sl 4 (eTms a) none)]) 1 (fun p => bs.length - p.1.1) ⟨(0, 1), by simp, by simp, by dsimp only; omega, by simp⟩ VS.toA fun p => ?_
    obtain ⟨⟨j, n⟩, hj1, hj2, hj3, hj4⟩ := p
    dsimp only at hj1 hj2 hj3 hj4 ⊢
    refine dw_seq (dw_seq ?_)
    by_cases hlt : j < bs.length
    ·have hdr : bs.drop j = bs[j] :: bs.drop (j + 1) := List.drop_eq_getElem_cons hlt
     rw [hdr, fewB1] at hj1
     by_cases hn : n ≤ most
     ·rw [if_pos hn] at hj1
      have hF := Few4_d most h1 h2 bs[j] d hd1 hd2
      rw [eTy_eq] at hF
      have hq : (eTys bs).getD (j : Int).toNat [] = [.sl 2 (eTys bs[j].args) none, .v (.int .i64 bs[j].base)] := by rw [Int.toNat_natCast, eTys_getD bs j hlt, eTy_eq]
      have hb : (0 : Int) ≤ (j : Int) ∧ (j : Int) < ((eTys bs).length : Int) := ⟨by omega, by rw [eTys_len]; omega⟩
      refine dwk [(18, .v (.bool true)), (22, .v (.bool true))] TF6_ok hnt fun K hK => ?_; refine And.intro (dtrue (by rw [eTys_len]; omega)) ?_; refine And.intro (dtrue hn) ?_; refine hK _ _ ?_; clear hK K; refine dw_cond (t := true) rfl ?_; rw [if_pos rfl]; refine dw_skip ?_; refine dw_seq (dw_block ?_); refine dw_seq (dw_seq ?_)
      by_cases hff : fewT most bs[j] d ≤ most
      ·rw [if_pos hff] at hj1
       rw [decide_eq_true hff] at hF
       have hs1 := fewT_size h1 1000 bs[j] d (by omega) hff
       have hs2 := (fewT_le h1 1000 bs[j] d (by omega)).1
       have hS := Size4_d bs[j] (by omega)
       rw [eTy_eq] at hS
       refine dwk [(29, .q [.sl 2 (eTys bs[j].args) none, .v (.int .i64 bs[j].base)])] TF6_ok hnt fun K hK => ?_; refine And.intro (hb) ?_; refine And.intro (VLe.of_eq (by rw [hq])) ?_; refine dcl (hF) ?_; refine hK _ _ ?_; clear hK K; refine dw_cond (t := false) rfl ?_; rw [if_neg (by simp)]; refine dw_skip ?_; refine dwk [(41, .q [.sl 2 (eTys bs[j].args) none, .v (.int .i64 bs[j].base)]), (44, .v (.int .i64 (n + (bs[j].size : Int))))] TF6_ok hnt fun K hK => ?_
       refine And.intro (hb) ?_; refine And.intro (VLe.of_eq (by rw [hq])) ?_; refine dcl (hS) ?_; refine And.intro (dintE (IntWalk.i64_in _ (by omega))) ?_; refine hK _ _ ?_; clear hK K; refine dwk [(25, .v (.int .i64 ((j + 1 : Nat) : Int)))] TF6_ok hnt fun K hK => ?_; refine And.intro (dintE (by rw [IntWalk.i64_in _ (by omega)]; omega)) ?_; refine hK _ _ ?_; clear hK K
       exact ⟨⟨(j + 1, n + (bs[j].size : Int)), hj1, by dsimp only; omega, by dsimp only; omega, hlt⟩, by dsimp only; omega, VS.toA⟩
      ·rw [if_neg hff] at hj1
       rw [decide_eq_false hff] at hF
       rw [← hj1] at hV
       dsimp only at hV
       subst hV
       refine dwk [(29, .q [.sl 2 (eTys bs[j].args) none, .v (.int .i64 bs[j].base)])] TF6_ok hnt fun K hK => ?_; refine And.intro (hb) ?_; refine And.intro (VLe.of_eq (by rw [hq])) ?_; refine dcl (hF) ?_; refine hK _ _ ?_; clear hK K; refine dw_cond (t := true) rfl ?_; rw [if_pos rfl]; refine dw_seq ?_; refine dwk [(36, .v (.int .i64 (most + 1)))] TF6_ok hnt fun K hK => ?_; refine And.intro (dintE (IntWalk.i64_in _ (by omega))) ?_
       refine hK _ _ ?_; clear hK K; refine dw_ret ?_
       exact retv (N := 0) (.inr rfl) rfl (VLe.refl _) trivial
     ·rw [if_neg hn] at hj1
      rw [← hj1] at hV
      dsimp only at hV
      refine dwk [(18, .v (.bool true)), (22, .v (.bool false))] TF6_ok hnt fun K hK => ?_; refine And.intro (dtrue (by rw [eTys_len]; omega)) ?_; refine And.intro (dfalse hn) ?_; refine hK _ _ ?_; clear hK K; refine dw_cond (t := false) rfl ?_; rw [if_neg (by simp)]; refine dw_exit ?_
      exact cutE_ok (Q := RetOk TF6 [ResultVar.tmp 6] (.v (.int .i64 V)) []) ⟨n, by omega, hj3, hV.symm⟩ VS.toA
    ·rw [List.drop_eq_nil_of_le (by omega), fewB1] at hj1
     rw [← hj1] at hV
     dsimp only at hV
     refine dwk [(18, .v (.bool false))] TF6_ok hnt fun K hK => ?_; refine And.intro (dfalse (by rw [eTys_len]; omega)) ?_; refine hK _ _ ?_; clear hK K; refine dw_cond (t := false) rfl ?_; rw [if_neg (by simp)]; refine dw_exit ?_
     exact cutE_ok (Q := RetOk TF6 [ResultVar.tmp 6] (.v (.int .i64 V)) []) ⟨n, by omega, hj3, hV.symm⟩ VS.toA
   ·obtain ⟨n0, hn1, hn2, hVn⟩ := n
    dsimp only
    rw [hVn]
    refine dw_seq (dw_seq ?_); refine dwk [] TF6_ok hnt fun K hK => ?_; refine hK _ _ ?_; clear hK K; refine dw_block ?_
    refine dw_loop (ι := { p : Nat × Int // fewMs most (a.drop p.1) (d - 1) p.2 = fewMs most a (d - 1) n0 ∧ (p.1 : Int) + 1 ≤ p.2 ∧ p.2 ≤ 2000000 ∧ p.1 ≤ a.length }) (fun p => [(.t 1, .v (.int .i64 most)), (.t 2, .v (.int .i64 d)), (.t 3, .p 0 0), (.t 7, .v (.int .i64 p.1.2)), (.t 9, .v (.int .i64 (p.1.1 : Int))), (.c 0 0, .sl 2 (eTys bs) none), (.c 0 1, .v (.int .i64 k)), (.c 0 2, .v (.int .i64 i)), (.c 0 3, .sl 4 (eTms a) none)]) 1 (fun p => a.length - p.1.1) ⟨(0, n0), by simp, by dsimp only; omega, by dsimp only; omega, by simp⟩ VS.toA fun p => ?_
    obtain ⟨⟨j, n⟩, hj1, hj2, hj3, hj4⟩ := p
    dsimp only at hj1 hj2 hj3 hj4 ⊢
    refine dw_seq (dw_seq ?_)
    by_cases hlt : j < a.length
    ·have hdr : a.drop j = a[j] :: a.drop (j + 1) := List.drop_eq_getElem_cons hlt
     rw [hdr, fewMs] at hj1
     by_cases hn : n ≤ most
     ·rw [if_pos hn] at hj1
      have hih := ih a[j] (List.getElem_mem hlt) (d - 1) (by omega) (by omega)
      rw [eTm_eq] at hih
      have hbd := fewM_le h1 1000 a[j] (d - 1) (by omega) (by omega)
      have hbd2 : most * ((1000 : Nat) : Int) ≤ 1000000 := by
       have : most * ((1000 : Nat) : Int) = 1000 * most := by rw [Int.mul_comm]; rfl
       omega
      refine dwk [(49, .v (.bool true)), (53, .v (.bool true))] TF6_ok hnt fun K hK => ?_; refine And.intro (dtrue (by rw [eTms_len]; omega)) ?_; refine And.intro (dtrue hn) ?_; refine hK _ _ ?_; clear hK K; refine dw_cond (t := true) rfl ?_; rw [if_pos rfl]; refine dw_skip ?_; refine dw_seq (dw_block ?_); refine dwk [(61, .q [.sl 2 (eTys a[j].binds) none, .v (.int .i64 a[j].kind), .v (.int .i64 a[j].index), .sl 4 (eTms a[j].args) none]), (65, .v (.int .i64 (d - 1))), (67, .v (.int .i64 (n + fewM most a[j] (d - 1))))] TF6_ok hnt fun K hK => ?_
      refine And.intro (⟨by omega, by rw [eTms_len]; omega⟩) ?_; refine And.intro (VLe.of_eq (by rw [Int.toNat_natCast, eTms_getD a j hlt, eTm_eq])) ?_; refine And.intro (dintE (IntWalk.i64_in _ (by omega))) ?_; refine dcl (hih) ?_; refine And.intro (dintE (IntWalk.i64_in _ (by omega))) ?_; refine hK _ _ ?_; clear hK K; refine dwk [(56, .v (.int .i64 ((j + 1 : Nat) : Int)))] TF6_ok hnt fun K hK => ?_; refine And.intro (dintE (by rw [IntWalk.i64_in _ (by omega)]; omega)) ?_
      refine hK _ _ ?_; clear hK K
      exact ⟨⟨(j + 1, n + fewM most a[j] (d - 1)), hj1, by dsimp only; omega, by dsimp only; omega, hlt⟩, by dsimp only; omega, VS.toA⟩
     ·rw [if_neg hn] at hj1
      rw [← hj1]
      refine dwk [(49, .v (.bool true)), (53, .v (.bool false))] TF6_ok hnt fun K hK => ?_; refine And.intro (dtrue (by rw [eTms_len]; omega)) ?_; refine And.intro (dfalse hn) ?_; refine hK _ _ ?_; clear hK K; refine dw_cond (t := false) rfl ?_; rw [if_neg (by simp)]; refine dw_exit ?_; refine dw_seq ?_; refine dwk [] TF6_ok hnt fun K hK => ?_; refine hK _ _ ?_; clear hK K; refine dw_ret ?_
      exact retv (N := 0) (.inr rfl) rfl (VLe.refl _) trivial
    ·rw [List.drop_eq_nil_of_le (by omega), fewMs] at hj1
     rw [← hj1]
     refine dwk [(49, .v (.bool false))] TF6_ok hnt fun K hK => ?_; refine And.intro (dfalse (by rw [eTms_len]; omega)) ?_; refine hK _ _ ?_; clear hK K; refine dw_cond (t := false) rfl ?_; rw [if_neg (by simp)]; refine dw_exit ?_; refine dw_seq ?_; refine dwk [] TF6_ok hnt fun K hK => ?_; refine hK _ _ ?_; clear hK K; refine dw_ret ?_
     exact retv (N := 0) (.inr rfl) rfl (VLe.refl _) trivial
theorem Few6_d (most : Int) (h1 : 1 ≤ most) (h2 : most ≤ 1000) (t : Tm) (d : Int) (h3 : -1000 ≤ d) (h4 : d ≤ 1000) : PureC Try.prog 35 [.ag (eTm t), .v (.int .i64 most), .v (.int .i64 d)] (.v (.bool (decide (fewM most t d ≤ most)))) := by
 have h := few6_d most h1 h2 t d h3 h4
 rw [eTm_eq] at h ⊢
 refine call_of_dw 0 13 [ResultVar.tmp 6] TF6_ok (by kernel_rfl) Try.func35 rfl Try.ntmps35 rfl (by simp) ?dwords ?dbody
 case dwords => simp [wordsOk, D.ok, D.oks, rnames, eTys_ok, eTms_ok]
 case dbody =>
  intro cx hnt hn0
  refine dw_seq ?_; refine dwk [] TF6_ok hnt fun K hK => ?_; refine hK _ _ ?_; clear hK K; refine dw_seq ?_; refine dwk [] TF6_ok hnt fun K hK => ?_; refine dcl (h) ?_; refine hK _ _ ?_; clear hK K; refine dw_ret ?_
  exact retv (N := 0) (.inr rfl) rfl (VLe.refl _) trivial
def fewB (t : Tm) : Bool := decide (fewM 150 t 70 ≤ 150)
set_option maxHeartbeats 1000000 in
theorem lawFew_d (l : List Tm) (hl : l.length ≤ 1000000) : PureC Try.prog 6 [.sl 4 (eTms l) none] (.v (.bool (l.all fewB))) := by
 refine call_of_dw 0 16 [ResultVar.tmp 2] TF6_ok (by kernel_rfl) Try.func6 rfl Try.ntmps6 rfl (by simp) ?dwords ?dbody
 case dwords => simp [wordsOk, D.ok, D.oks, rnames, eTms_ok]
 case dbody =>
  intro cx hnt hn0
  refine dw_seq ?_; refine dwk [] TF6_ok hnt fun K hK => ?_; refine hK _ _ ?_; clear hK K; refine dw_seq (dw_seq ?_); refine dwk [] TF6_ok hnt fun K hK => ?_; refine hK _ _ ?_; clear hK K; refine dw_block ?_
  refine dw_loop (ι := { j : Nat // ∀ i (h : i < l.length), i < j → fewB l[i] = true }) (fun j => [(.t 0, .sl 4 (eTms l) none), (.t 3, .v (.int .i64 (j.1 : Int)))]) 1 (fun j => l.length - j.1) ⟨0, fun i h1 h2 => by omega⟩ VS.toA fun j => ?_
  obtain ⟨j, hj⟩ := j
  dsimp only
  refine dw_seq (dw_seq ?_)
  by_cases hlt : j < l.length
  ·have hi := Few6_d 150 (by decide) (by decide) l[j] 70 (by decide) (by decide)
   rw [eTm_eq] at hi
   have hq : (eTms l).getD (j : Int).toNat [] = [.sl 2 (eTys l[j].binds) none, .v (.int .i64 l[j].kind), .v (.int .i64 l[j].index), .sl 4 (eTms l[j].args) none] := by rw [Int.toNat_natCast, eTms_getD l j hlt, eTm_eq]
   have hb : (0 : Int) ≤ (j : Int) ∧ (j : Int) < ((eTms l).length : Int) := ⟨by omega, by rw [eTms_len]; omega⟩
   refine dwk [(7, .v (.bool true))] TF6_ok hnt fun K hK => ?_; refine And.intro (dtrue (by rw [eTms_len]; omega)) ?_; refine hK _ _ ?_; clear hK K; refine dw_cond (t := true) rfl ?_; rw [if_pos rfl]; refine dw_skip ?_; refine dw_seq (dw_block (dw_seq ?_))
   cases hf : fewB l[j] with
   | true =>
    have hf2 := hf
    unfold fewB at hf2
    rw [hf2] at hi
    refine dwk [(12, .q [.sl 2 (eTys l[j].binds) none, .v (.int .i64 l[j].kind), .v (.int .i64 l[j].index), .sl 4 (eTms l[j].args) none])] TF6_ok hnt fun K hK => ?_; refine And.intro (hb) ?_; refine And.intro (VLe.of_eq (by rw [hq])) ?_; refine dcl (hi) ?_; refine hK _ _ ?_; clear hK K; refine dw_cond (t := false) rfl ?_; rw [if_neg (by simp)]; refine dw_skip ?_; refine dwk [(9, .v (.int .i64 ((j + 1 : Nat) : Int)))] TF6_ok hnt fun K hK => ?_
    refine And.intro (dintE (by rw [IntWalk.i64_in _ (by omega)]; omega)) ?_; refine hK _ _ ?_; clear hK K
    refine ⟨⟨j + 1, fun i h1 h2 => ?_⟩, by dsimp only; omega, VS.toA⟩
    by_cases he : i = j
    ·subst he; exact hf
    ·exact hj i h1 (by omega)
   | false =>
    have hf2 := hf
    unfold fewB at hf2
    rw [hf2] at hi
    have ha : l.all fewB = false := by rw [List.all_eq_false]; exact ⟨l[j], List.getElem_mem hlt, by rw [hf]; simp⟩
    rw [ha]
    refine dwk [(12, .q [.sl 2 (eTys l[j].binds) none, .v (.int .i64 l[j].kind), .v (.int .i64 l[j].index), .sl 4 (eTms l[j].args) none])] TF6_ok hnt fun K hK => ?_; refine And.intro (hb) ?_; refine And.intro (VLe.of_eq (by rw [hq])) ?_; refine dcl (hi) ?_; refine hK _ _ ?_; clear hK K; refine dw_cond (t := true) rfl ?_; rw [if_pos rfl]; refine dw_seq ?_; refine dwk [] TF6_ok hnt fun K hK => ?_; refine hK _ _ ?_; clear hK K
    refine dw_ret ?_
    exact retv (N := 0) (.inr rfl) rfl (VLe.refl _) trivial
  ·have ha : l.all fewB = true := by
    rw [List.all_eq_true]
    intro t ht
    obtain ⟨i, hi, rfl⟩ := List.getElem_of_mem ht
    exact hj i hi (by omega)
   rw [ha]
   refine dwk [(7, .v (.bool false))] TF6_ok hnt fun K hK => ?_; refine And.intro (dfalse (by rw [eTms_len]; omega)) ?_; refine hK _ _ ?_; clear hK K; refine dw_cond (t := false) rfl ?_; rw [if_neg (by simp)]; refine dw_exit ?_; refine dw_seq ?_; refine dwk [] TF6_ok hnt fun K hK => ?_; refine hK _ _ ?_; clear hK K; refine dw_ret ?_
   exact retv (N := 0) (.inr rfl) rfl (VLe.refl _) trivial
end Go.Proofs.Ytcblpjheoclkeaa

namespace Go.Proofs.Ytcblpjheoclkeaa
open Go.RowKit

theorem fewB1_full {most d : Int} (hm : 1 ≤ most) (hd : d ≤ 1000) : ∀ (l : List Ty) (n r : Int), fewB1 most d l n = some r → r ≤ most → r = n + Ty.sizes l
  | [], n, r, h, _ => by rw [fewB1] at h; cases h; simp [Ty.sizes]
  | t :: l, n, r, h, hr => by
    rw [fewB1] at h
    split at h
    · split at h
      · have := fewB1_full hm hd l _ r h hr
        rw [this, Ty.sizes]; omega
      · cases h
    · cases h; omega
theorem fewMs_full {most : Int} : ∀ (l : List Tm) (d n : Int), (∀ t ∈ l, fewM most t d ≤ most → (t.full : Int) = fewM most t d ∧ (t.depth : Int) ≤ d) → (∀ t ∈ l, 1 ≤ fewM most t d) → 1 ≤ n → fewMs most l d n ≤ most → fewMs most l d n = n + Tm.fulls l ∧ (∀ t ∈ l, (t.depth : Int) ≤ d) ∧ n ≤ most
  | [], d, n, _, _, _, h => by rw [fewMs] at h ⊢; exact ⟨by simp [Tm.fulls], nofun, h⟩
  | t :: l, d, n, h, h1, hn, hf => by
    rw [fewMs] at hf ⊢
    split at hf
    · rename_i hm
      rw [if_pos hm]
      have h2 := h1 t (by simp)
      obtain ⟨h3, h4, h5⟩ := fewMs_full l d _ (fun u hu => h u (by simp [hu])) (fun u hu => h1 u (by simp [hu])) (by omega) hf
      obtain ⟨h6, h7⟩ := h t (by simp) (by omega)
      refine ⟨by rw [h3, Tm.fulls]; omega, fun u hu => ?_, hm⟩
      rcases List.mem_cons.1 hu with rfl | hu
      · exact h7
      · exact h4 u hu
    · rename_i hm; omega
theorem depths_max {d : Int} (hd : 0 ≤ d) : ∀ (l : List Tm), (∀ t ∈ l, (t.depth : Int) ≤ d) → (Tm.depths l : Int) ≤ d
  | [], _ => by simp [Tm.depths]; exact hd
  | t :: l, h => by
    have h1 := h t (by simp)
    have h2 := depths_max hd l fun u hu => h u (by simp [hu])
    simp only [Tm.depths]; omega
theorem fewM_full {most : Int} (hm : 1 ≤ most) : ∀ (k : Nat) (t : Tm) (d : Int), k ≤ 1000 → d ≤ k → fewM most t d ≤ most → (t.full : Int) = fewM most t d ∧ (t.depth : Int) ≤ d
  | 0, .mk bs kd i a, d, hk, hd, h => by rw [fewM, if_pos (by omega)] at h; omega
  | k + 1, .mk bs kd i a, d, hk, hd, h => by
    rw [fewM] at h ⊢
    split at h
    · omega
    · rename_i hp
      rw [if_neg hp]
      cases hb : fewB1 most d bs 1 with
      | none => rw [hb] at h; dsimp only at h; omega
      | some n =>
        rw [hb] at h
        dsimp only at h ⊢
        have hn := fewB1_le hm (by omega) bs 1 (by omega) (by omega) n hb
        obtain ⟨h3, h4, h5⟩ := fewMs_full a (d - 1) n (fun t _ => fewM_full hm k t (d - 1) (by omega) (by omega)) (fun t _ => (fewM_le hm k t (d - 1) (by omega) (by omega)).1) hn.1 h
        have h6 := fewB1_full hm (by omega) bs 1 n hb h5
        have h7 := depths_max (by omega) a h4
        rw [Tm.full_eq, Tm.depth_eq]
        constructor
        · omega
        · omega
theorem fewB_full {t : Tm} (h : fewB t = true) : t.full ≤ 150 ∧ t.depth ≤ 70 := by
  unfold fewB at h
  rw [decide_eq_true_eq] at h
  obtain ⟨h1, h2⟩ := fewM_full (by decide) 1000 t 70 (by decide) (by decide) h
  omega
end Go.Proofs.Ytcblpjheoclkeaa

namespace Go.Proofs.Ytcblpjheoclkeaa
open Go.RowKit
def TS9_22 : TI := ⟨1, false, [Value.slice none 0 0], [], some 123, 24, 5, none, false⟩
theorem TS9_22_ok : TypOk Try.prog 22 TS9_22 := ⟨by kernel_rfl, by kernel_rfl, by kernel_rfl, by kernel_rfl, by kernel_rfl⟩
def TS9_3 : TI := ⟨1, false, [Value.int IntKind.i64 0], [], none, 8, 2, none, false⟩
theorem TS9_3_ok : TypOk Try.prog 3 TS9_3 := ⟨by kernel_rfl, by kernel_rfl, by kernel_rfl, by kernel_rfl, by kernel_rfl⟩
def TS9_66 : TI := ⟨3, true, [Value.int IntKind.i64 0, Value.slice none 0 0, Value.slice none 0 0], [(0, 1, false), (1, 1, false), (2, 1, false)], none, 56, 6, none, false⟩
theorem TS9_66_ok : TypOk Try.prog 66 TS9_66 := ⟨by kernel_rfl, by kernel_rfl, by kernel_rfl, by kernel_rfl, by kernel_rfl⟩
def TS9_123 : TI := ⟨2, true, [Value.slice none 0 0, Value.int IntKind.i64 0], [(0, 1, false), (1, 1, false)], none, 32, 6, none, false⟩
theorem TS9_123_ok : TypOk Try.prog 123 TS9_123 := ⟨by kernel_rfl, by kernel_rfl, by kernel_rfl, by kernel_rfl, by kernel_rfl⟩
def TS9 : List (Nat × TI) := [(22, TS9_22), (3, TS9_3), (66, TS9_66), (123, TS9_123)]
theorem TS9_ok : TabOk Try.prog TS9 := (((((TabOk.nil _).cons TS9_123_ok).cons TS9_66_ok).cons TS9_3_ok).cons TS9_22_ok)
def few4B (t : Ty) : Bool := decide (fewT 60 t 60 ≤ 60)
theorem fewT60 {t : Ty} (h : few4B t = true) : t.size ≤ 60 := by
  unfold few4B at h
  rw [decide_eq_true_eq] at h
  have := fewT_size (by decide) 1000 t 60 (by decide) h
  omega
set_option maxHeartbeats 1000000 in
theorem small_d (b : Int) (C M X : List Ty) (h1 : C.length ≤ 20) (h2 : M.length ≤ 20) (h3 : X.length ≤ 20) : PureC Try.prog 25 [.ag [.v (.int .i64 b), .sl 2 (eTys C) none, .sl 2 (eTys M) none], .sl 2 (eTys X) none] (.v (.bool (((C ++ M) ++ X).all few4B))) := by
 have hB := rbehind_d C M (by omega)
 have hB2 := rbehind_d (C ++ M) X (by simp; omega)
 obtain ⟨l, hl⟩ : ∃ l, (C ++ M) ++ X = l := ⟨_, rfl⟩
 rw [hl] at hB2 ⊢
 have hll : l.length ≤ 60 := by rw [← hl]; simp; omega
 refine call_of_dw 0 41 [ResultVar.tmp 4] TS9_ok (by kernel_rfl) Try.func25 rfl Try.ntmps25 rfl (by simp) ?dwords ?dbody
 case dwords => simp [wordsOk, D.ok, D.oks, rnames, eTys_ok]
 case dbody =>
  intro cx hnt hn0
  refine dw_seq ?_; refine dwk [] TS9_ok hnt fun K hK => ?_; refine hK _ _ ?_; clear hK K; refine dw_seq (dw_seq ?_); refine dwk [(10, .v (.bool false)), (15, .v (.bool false)), (20, .v (.bool false))] TS9_ok hnt fun K hK => ?_; refine And.intro (dfalse (by rw [eTys_len]; omega)) ?_; refine And.intro (dfalse (by rw [eTys_len]; omega)) ?_; refine And.intro (dfalse (by rw [eTys_len]; omega)) ?_; refine hK _ _ ?_; clear hK K
  refine dw_cond (t := false) rfl ?_; rw [if_neg (by simp)]; refine dw_skip ?_; refine dw_seq ?_; refine dwk [] TS9_ok hnt fun K hK => ?_; refine dcl (hB) ?_; refine dcl (hB2) ?_; refine hK _ _ ?_; clear hK K; refine dw_seq (dw_seq ?_); refine dwk [] TS9_ok hnt fun K hK => ?_; refine hK _ _ ?_; clear hK K; refine dw_block ?_
  refine dw_loop (ι := { j : Nat // ∀ i (h : i < l.length), i < j → few4B l[i] = true }) (fun j => [(.t 5, .sl 2 (eTys l) none), (.t 6, .v (.int .i64 (j.1 : Int)))]) 1 (fun j => l.length - j.1) ⟨0, fun i h1 h2 => by omega⟩ VS.toA fun j => ?_
  obtain ⟨j, hj⟩ := j
  dsimp only
  refine dw_seq (dw_seq ?_)
  by_cases hlt : j < l.length
  ·have hi := Few4_d 60 (by decide) (by decide) l[j] 60 (by decide) (by decide)
   rw [eTy_eq] at hi
   have hq : (eTys l).getD (j : Int).toNat [] = [.sl 2 (eTys l[j].args) none, .v (.int .i64 l[j].base)] := by rw [Int.toNat_natCast, eTys_getD l j hlt, eTy_eq]
   have hb : (0 : Int) ≤ (j : Int) ∧ (j : Int) < ((eTys l).length : Int) := ⟨by omega, by rw [eTys_len]; omega⟩
   refine dwk [(32, .v (.bool true))] TS9_ok hnt fun K hK => ?_; refine And.intro (dtrue (by rw [eTys_len]; omega)) ?_; refine hK _ _ ?_; clear hK K; refine dw_cond (t := true) rfl ?_; rw [if_pos rfl]; refine dw_skip ?_; refine dw_seq (dw_block (dw_seq ?_))
   cases hf : few4B l[j] with
   | true =>
    have hf2 := hf
    unfold few4B at hf2
    rw [hf2] at hi
    refine dwk [(37, .q [.sl 2 (eTys l[j].args) none, .v (.int .i64 l[j].base)])] TS9_ok hnt fun K hK => ?_; refine And.intro (hb) ?_; refine And.intro (VLe.of_eq (by rw [hq])) ?_; refine dcl (hi) ?_; refine hK _ _ ?_; clear hK K; refine dw_cond (t := false) rfl ?_; rw [if_neg (by simp)]; refine dw_skip ?_; refine dwk [(34, .v (.int .i64 ((j + 1 : Nat) : Int)))] TS9_ok hnt fun K hK => ?_; refine And.intro (dintE (by rw [IntWalk.i64_in _ (by omega)]; omega)) ?_
    refine hK _ _ ?_; clear hK K
    refine ⟨⟨j + 1, fun i h1 h2 => ?_⟩, by dsimp only; omega, VS.toA⟩
    by_cases he : i = j
    ·subst he; exact hf
    ·exact hj i h1 (by omega)
   | false =>
    have hf2 := hf
    unfold few4B at hf2
    rw [hf2] at hi
    have ha : l.all few4B = false := by rw [List.all_eq_false]; exact ⟨l[j], List.getElem_mem hlt, by rw [hf]; simp⟩
    rw [ha]
    refine dwk [(37, .q [.sl 2 (eTys l[j].args) none, .v (.int .i64 l[j].base)])] TS9_ok hnt fun K hK => ?_; refine And.intro (hb) ?_; refine And.intro (VLe.of_eq (by rw [hq])) ?_; refine dcl (hi) ?_; refine hK _ _ ?_; clear hK K; refine dw_cond (t := true) rfl ?_; rw [if_pos rfl]; refine dw_seq ?_; refine dwk [] TS9_ok hnt fun K hK => ?_; refine hK _ _ ?_; clear hK K; refine dw_ret ?_
    exact retv (N := 0) (.inr rfl) rfl (VLe.refl _) trivial
  ·have ha : l.all few4B = true := by
    rw [List.all_eq_true]
    intro t ht
    obtain ⟨i, hi, rfl⟩ := List.getElem_of_mem ht
    exact hj i hi (by omega)
   rw [ha]
   refine dwk [(32, .v (.bool false))] TS9_ok hnt fun K hK => ?_; refine And.intro (dfalse (by rw [eTys_len]; omega)) ?_; refine hK _ _ ?_; clear hK K; refine dw_cond (t := false) rfl ?_; rw [if_neg (by simp)]; refine dw_exit ?_; refine dw_seq ?_; refine dwk [] TS9_ok hnt fun K hK => ?_; refine hK _ _ ?_; clear hK K; refine dw_ret ?_
   exact retv (N := 0) (.inr rfl) rfl (VLe.refl _) trivial
set_option maxHeartbeats 1000000 in
theorem small_no (b : Int) (C M X : List Ty) (h : ¬ (C.length ≤ 20 ∧ M.length ≤ 20 ∧ X.length ≤ 20)) : PureC Try.prog 25 [.ag [.v (.int .i64 b), .sl 2 (eTys C) none, .sl 2 (eTys M) none], .sl 2 (eTys X) none] (.v (.bool false)) := by
 refine call_of_dw 0 41 [ResultVar.tmp 4] TS9_ok (by kernel_rfl) Try.func25 rfl Try.ntmps25 rfl (by simp) ?dwords ?dbody
 case dwords => simp [wordsOk, D.ok, D.oks, rnames, eTys_ok]
 case dbody =>
  intro cx hnt hn0
  refine dw_seq ?_; refine dwk [] TS9_ok hnt fun K hK => ?_; refine hK _ _ ?_; clear hK K; refine dw_seq (dw_seq ?_)
  by_cases h1 : C.length ≤ 20
  ·by_cases h2 : M.length ≤ 20
   ·skip
    refine dwk [(10, .v (.bool false)), (15, .v (.bool false)), (20, .v (.bool true))] TS9_ok hnt fun K hK => ?_; refine And.intro (dfalse (by rw [eTys_len]; omega)) ?_; refine And.intro (dfalse (by rw [eTys_len]; omega)) ?_; refine And.intro (dtrue (by rw [eTys_len]; omega)) ?_; refine hK _ _ ?_; clear hK K; refine dw_cond (t := true) rfl ?_; rw [if_pos rfl]; refine dw_seq ?_; refine dwk [] TS9_ok hnt fun K hK => ?_
    refine hK _ _ ?_; clear hK K; refine dw_ret ?_
    exact retv (N := 0) (.inr rfl) rfl (VLe.refl _) trivial
   ·skip
    refine dwk [(10, .v (.bool false)), (15, .v (.bool true))] TS9_ok hnt fun K hK => ?_; refine And.intro (dfalse (by rw [eTys_len]; omega)) ?_; refine And.intro (dtrue (by rw [eTys_len]; omega)) ?_; refine hK _ _ ?_; clear hK K; refine dw_cond (t := true) rfl ?_; rw [if_pos rfl]; refine dw_seq ?_; refine dwk [] TS9_ok hnt fun K hK => ?_; refine hK _ _ ?_; clear hK K; refine dw_ret ?_
    exact retv (N := 0) (.inr rfl) rfl (VLe.refl _) trivial
  ·skip
   refine dwk [(10, .v (.bool true))] TS9_ok hnt fun K hK => ?_; refine And.intro (dtrue (by rw [eTys_len]; omega)) ?_; refine hK _ _ ?_; clear hK K; refine dw_cond (t := true) rfl ?_; rw [if_pos rfl]; refine dw_seq ?_; refine dwk [] TS9_ok hnt fun K hK => ?_; refine hK _ _ ?_; clear hK K; refine dw_ret ?_
   exact retv (N := 0) (.inr rfl) rfl (VLe.refl _) trivial
end Go.Proofs.Ytcblpjheoclkeaa

namespace Go.Proofs.Ytcblpjheoclkeaa
open Go.RowKit
def TTO_3 : TI := ⟨1, false, [Value.int IntKind.i64 0], [], none, 8, 2, none, false⟩
theorem TTO_3_ok : TypOk Try.prog 3 TTO_3 := ⟨by kernel_rfl, by kernel_rfl, by kernel_rfl, by kernel_rfl, by kernel_rfl⟩
def TTO_123 : TI := ⟨2, true, [Value.slice none 0 0, Value.int IntKind.i64 0], [(0, 1, false), (1, 1, false)], none, 32, 6, none, false⟩
theorem TTO_123_ok : TypOk Try.prog 123 TTO_123 := ⟨by kernel_rfl, by kernel_rfl, by kernel_rfl, by kernel_rfl, by kernel_rfl⟩
def TTO_83 : TI := ⟨2, true, [Value.slice none 0 0, Value.int IntKind.i64 0], [(0, 1, false), (1, 1, false)], none, 32, 6, none, false⟩
theorem TTO_83_ok : TypOk Try.prog 83 TTO_83 := ⟨by kernel_rfl, by kernel_rfl, by kernel_rfl, by kernel_rfl, by kernel_rfl⟩
def TTO_27 : TI := ⟨4, true, [Value.slice none 0 0, Value.int IntKind.i64 0, Value.int IntKind.i64 0, Value.slice none 0 0], [(0, 1, false), (1, 2, true), (3, 1, false)], none, 64, 6, none, false⟩
theorem TTO_27_ok : TypOk Try.prog 27 TTO_27 := ⟨by kernel_rfl, by kernel_rfl, by kernel_rfl, by kernel_rfl, by kernel_rfl⟩
def TTO_34 : TI := ⟨4, true, [Value.slice none 0 0, Value.int IntKind.i64 0, Value.int IntKind.i64 0, Value.slice none 0 0], [(0, 1, false), (1, 2, true), (3, 1, false)], none, 64, 6, none, false⟩
theorem TTO_34_ok : TypOk Try.prog 34 TTO_34 := ⟨by kernel_rfl, by kernel_rfl, by kernel_rfl, by kernel_rfl, by kernel_rfl⟩
def TTO_22 : TI := ⟨1, false, [Value.slice none 0 0], [], some 123, 24, 5, none, false⟩
theorem TTO_22_ok : TypOk Try.prog 22 TTO_22 := ⟨by kernel_rfl, by kernel_rfl, by kernel_rfl, by kernel_rfl, by kernel_rfl⟩
def TTO_30 : TI := ⟨1, false, [Value.slice none 0 0], [], some 83, 24, 5, none, false⟩
theorem TTO_30_ok : TypOk Try.prog 30 TTO_30 := ⟨by kernel_rfl, by kernel_rfl, by kernel_rfl, by kernel_rfl, by kernel_rfl⟩
def TTO_25 : TI := ⟨1, false, [Value.slice none 0 0], [], some 27, 24, 5, none, false⟩
theorem TTO_25_ok : TypOk Try.prog 25 TTO_25 := ⟨by kernel_rfl, by kernel_rfl, by kernel_rfl, by kernel_rfl, by kernel_rfl⟩
def TTO_32 : TI := ⟨1, false, [Value.slice none 0 0], [], some 34, 24, 5, none, false⟩
theorem TTO_32_ok : TypOk Try.prog 32 TTO_32 := ⟨by kernel_rfl, by kernel_rfl, by kernel_rfl, by kernel_rfl, by kernel_rfl⟩
def TTO_24 : TI := ⟨2, true, [Value.int IntKind.i64 0, Value.int IntKind.i64 0], [(0, 1, false), (1, 1, false)], none, 16, 6, none, true⟩
theorem TTO_24_ok : TypOk Try.prog 24 TTO_24 := ⟨by kernel_rfl, by kernel_rfl, by kernel_rfl, by kernel_rfl, by kernel_rfl⟩
def TTO_31 : TI := ⟨2, true, [Value.int IntKind.i64 0, Value.int IntKind.i64 0], [(0, 1, false), (1, 1, false)], none, 16, 6, none, true⟩
theorem TTO_31_ok : TypOk Try.prog 31 TTO_31 := ⟨by kernel_rfl, by kernel_rfl, by kernel_rfl, by kernel_rfl, by kernel_rfl⟩
def TTO : List (Nat × TI) := [(3, TTO_3), (123, TTO_123), (83, TTO_83), (27, TTO_27), (34, TTO_34), (22, TTO_22), (30, TTO_30), (25, TTO_25), (32, TTO_32), (24, TTO_24), (31, TTO_31)]
theorem TTO_ok : TabOk Try.prog TTO := ((((((((((((TabOk.nil _).cons TTO_31_ok).cons TTO_24_ok).cons TTO_32_ok).cons TTO_25_ok).cons TTO_30_ok).cons TTO_22_ok).cons TTO_34_ok).cons TTO_27_ok).cons TTO_83_ok).cons TTO_123_ok).cons TTO_3_ok)
theorem eTys_tlen (l : List Ty) (j : Nat) (h : j ≤ l.length) : (eTys (l.take j)).length = j := by rw [eTys_len, List.length_take]; omega
theorem eTms_tlen (l : List Tm) (j : Nat) (h : j ≤ l.length) : (eTms (l.take j)).length = j := by rw [eTms_len, List.length_take]; omega
theorem to4D_d : ∀ t : Ty, t.size ≤ 900000 → PureC Try.prog 64 [.ag (eTy t)] (.ag (eTy t)) := by
 intro t
 induction t using Ty.ind with
 | h ar base ih =>
  intro hz
  rw [Ty.size_eq] at hz
  have hal := Ty.le_sizes ar
  rw [eTy_eq]
  dsimp only [Ty.args, Ty.base]
  refine calldw 0 27 [ResultVar.cell 2 83] TTO_ok Try.func64 rfl Try.ntmps64 rfl fun cx hnt hn0 => ?_
  ·skip
   refine dw_seq ?_; refine dwk [] TTO_ok hnt fun K hK => ?_; refine hK _ _ ?_; clear hK K; refine dw_seq ?_; refine dwk [] TTO_ok hnt fun K hK => ?_; refine hK _ _ ?_; clear hK K
   refine DW.vs (VS.row (k := 5) (off := 0) 83 2 rfl) ?_
   refine dw_seq ?_; refine dw_seq ?_; refine dwk [] TTO_ok hnt fun K hK => ?_; refine hK _ _ ?_; clear hK K; refine dw_block ?_
   refine dw_loop (ι := { j : Nat // j ≤ ar.length }) (fun j => [(.t 1, .p 0 0), (.t 2, .p 1 0), (.t 3, .p 5 0), (.t 4, .v (.int .i64 ↑j.1)), (.c 0 0, .sl 2 (eTys ar) none), (.c 0 1, .v (.int .i64 base)), (.c 1 0, .v (.slice none 0 0)), (.c 1 1, .v (.int .i64 0)), (.c 5 0, .sl 2 (eTys (ar.take j.1)) (some 7)), (.c 5 1, .v (.int .i64 base)), (.r 7, .rw 83 2 j.1)]) 8 (fun j => ar.length - j.1) (⟨0, Nat.zero_le _⟩) ((VS.toK (by omega) (by repeat first | exact trivial | refine And.intro (And.intro (by first | rfl | simp [D.ok, D.oks, D.okss, D.okm, upto, keyOk, argsT]) (by first | exact Or.inl rfl | exact Or.inr ⟨_, rfl, (by repeat first | exact VLe.refl _ | exact VLe.nil _ | exact VLe.untag _ _ _ | refine VLe.ag ?_ | refine VLe.tu ?_ | refine VLeL.cons ?_ ?_ | exact VLeL.nil), trivial⟩ | simp [get, Key.eq, argsT])) ?_))) fun j => ?_
   obtain ⟨j, hj⟩ := j
   dsimp only
   by_cases hlt : j < ar.length
   ·have hmem := List.getElem_mem hlt
    have hsz := Ty.size_mem hmem
    have hc := ih _ hmem (by omega)
    rw [eTy_eq] at hc
    have hl1 := eTys_tlen ar j hj
    have hl2 := eTys_tlen ar (j + 1) hlt
    refine dw_seq ?_; refine dw_seq ?_; refine dwk [(11, .v (.int .i64 (↑ar.length))), (12, .v (.bool true))] TTO_ok hnt fun K hK => ?_; refine And.intro (dintE (by rw [eTys_len])) ?_; refine And.intro auT ?_; refine hK _ _ ?_; clear hK K; refine dw_cond (t := true) rfl ?_; rw [if_pos rfl]; refine dw_skip ?_; refine dw_seq ?_; refine dw_block ?_; refine dwkD [(20, .q [.sl 2 (eTys ar[j].args) none, .v (.int .i64 ar[j].base)])] TTO_ok hnt fun K hK => ?_
    refine And.intro (elo (eTys_len ar)) ?_; refine And.intro (elv (eTys_getD ar j) (eTy_eq _)) ?_; refine dcl (hc) ?_; refine And.intro (⟨by omega, by rw [hl1]; simp; omega⟩) ?_; refine hK _ _ (by kernel_rfl) ?_; clear hK K
    rw [eTys_snoc ar j hlt, hl2]
    refine dwk [(14, .v (.int .i64 (↑(j + 1))))] TTO_ok hnt fun K hK => ?_; refine And.intro auI ?_; refine hK _ _ ?_; clear hK K
    refine ⟨⟨j + 1, hlt⟩, by first | omega | (dsimp only; omega), VS.toA⟩
   ·rw [List.take_of_length_le (by omega)]
    refine dw_seq ?_; refine dw_seq ?_; refine dwk [(11, .v (.int .i64 (↑ar.length))), (12, .v (.bool false))] TTO_ok hnt fun K hK => ?_; refine And.intro (dintE (by rw [eTys_len])) ?_; refine And.intro auF ?_; refine hK _ _ ?_; clear hK K; refine dw_cond (t := false) rfl ?_; rw [if_neg (by simp)]; refine dw_exit ?_; refine dw_seq ?_; refine dwk [] TTO_ok hnt fun K hK => ?_; refine hK _ _ ?_; clear hK K
    refine dw_ret ?_
    exact reta rfl
theorem of4D_d : ∀ t : Ty, t.size ≤ 900000 → PureC Try.prog 82 [.ag (eTy t)] (.ag (eTy t)) := by
 intro t
 induction t using Ty.ind with
 | h ar base ih =>
  intro hz
  rw [Ty.size_eq] at hz
  have hal := Ty.le_sizes ar
  rw [eTy_eq]
  dsimp only [Ty.args, Ty.base]
  refine calldw 0 27 [ResultVar.cell 2 123] TTO_ok Try.func82 rfl Try.ntmps82 rfl fun cx hnt hn0 => ?_
  ·skip
   refine dw_seq ?_; refine dwk [] TTO_ok hnt fun K hK => ?_; refine hK _ _ ?_; clear hK K; refine dw_seq ?_; refine dwk [] TTO_ok hnt fun K hK => ?_; refine hK _ _ ?_; clear hK K
   refine DW.vs (VS.row (k := 5) (off := 0) 123 2 rfl) ?_
   refine dw_seq ?_; refine dw_seq ?_; refine dwk [] TTO_ok hnt fun K hK => ?_; refine hK _ _ ?_; clear hK K; refine dw_block ?_
   refine dw_loop (ι := { j : Nat // j ≤ ar.length }) (fun j => [(.t 1, .p 0 0), (.t 2, .p 1 0), (.t 3, .p 5 0), (.t 4, .v (.int .i64 ↑j.1)), (.c 0 0, .sl 2 (eTys ar) none), (.c 0 1, .v (.int .i64 base)), (.c 1 0, .v (.slice none 0 0)), (.c 1 1, .v (.int .i64 0)), (.c 5 0, .sl 2 (eTys (ar.take j.1)) (some 7)), (.c 5 1, .v (.int .i64 base)), (.r 7, .rw 123 2 j.1)]) 8 (fun j => ar.length - j.1) (⟨0, Nat.zero_le _⟩) ((VS.toK (by omega) (by repeat first | exact trivial | refine And.intro (And.intro (by first | rfl | simp [D.ok, D.oks, D.okss, D.okm, upto, keyOk, argsT]) (by first | exact Or.inl rfl | exact Or.inr ⟨_, rfl, (by repeat first | exact VLe.refl _ | exact VLe.nil _ | exact VLe.untag _ _ _ | refine VLe.ag ?_ | refine VLe.tu ?_ | refine VLeL.cons ?_ ?_ | exact VLeL.nil), trivial⟩ | simp [get, Key.eq, argsT])) ?_))) fun j => ?_
   obtain ⟨j, hj⟩ := j
   dsimp only
   by_cases hlt : j < ar.length
   ·have hmem := List.getElem_mem hlt
    have hsz := Ty.size_mem hmem
    have hc := ih _ hmem (by omega)
    rw [eTy_eq] at hc
    have hl1 := eTys_tlen ar j hj
    have hl2 := eTys_tlen ar (j + 1) hlt
    refine dw_seq ?_; refine dw_seq ?_; refine dwk [(11, .v (.int .i64 (↑ar.length))), (12, .v (.bool true))] TTO_ok hnt fun K hK => ?_; refine And.intro (dintE (by rw [eTys_len])) ?_; refine And.intro auT ?_; refine hK _ _ ?_; clear hK K; refine dw_cond (t := true) rfl ?_; rw [if_pos rfl]; refine dw_skip ?_; refine dw_seq ?_; refine dw_block ?_; refine dwkD [(20, .q [.sl 2 (eTys ar[j].args) none, .v (.int .i64 ar[j].base)])] TTO_ok hnt fun K hK => ?_
    refine And.intro (elo (eTys_len ar)) ?_; refine And.intro (elv (eTys_getD ar j) (eTy_eq _)) ?_; refine dcl (hc) ?_; refine And.intro (⟨by omega, by rw [hl1]; simp; omega⟩) ?_; refine hK _ _ (by kernel_rfl) ?_; clear hK K
    rw [eTys_snoc ar j hlt, hl2]
    refine dwk [(14, .v (.int .i64 (↑(j + 1))))] TTO_ok hnt fun K hK => ?_; refine And.intro auI ?_; refine hK _ _ ?_; clear hK K
    refine ⟨⟨j + 1, hlt⟩, by first | omega | (dsimp only; omega), VS.toA⟩
   ·rw [List.take_of_length_le (by omega)]
    refine dw_seq ?_; refine dw_seq ?_; refine dwk [(11, .v (.int .i64 (↑ar.length))), (12, .v (.bool false))] TTO_ok hnt fun K hK => ?_; refine And.intro (dintE (by rw [eTys_len])) ?_; refine And.intro auF ?_; refine hK _ _ ?_; clear hK K; refine dw_cond (t := false) rfl ?_; rw [if_neg (by simp)]; refine dw_exit ?_; refine dw_seq ?_; refine dwk [] TTO_ok hnt fun K hK => ?_; refine hK _ _ ?_; clear hK K
    refine dw_ret ?_
    exact reta rfl
theorem toTys_d (l : List Ty) (hz : Ty.sizes l ≤ 900000) : PureC Try.prog 29 [.sl 2 (eTys l) none] (.sl 2 (eTys l) none) := by
 have hal := Ty.le_sizes l
 refine calldw 0 20 [ResultVar.tmp 2] TTO_ok Try.func29 rfl Try.ntmps29 rfl fun cx hnt hn0 => ?_
 ·skip
  refine dw_seq ?_; refine dwk [] TTO_ok hnt fun K hK => ?_; refine hK _ _ ?_; clear hK K
  refine dw_cut (τ := [(.t 0, .sl 2 (eTys l) none), (.t 3, .v (.slice none 0 0))]) (N1 := 0) ?_ ?_
  ·skip
   refine dwk [] TTO_ok hnt fun K hK => ?_; refine hK _ _ ?_; clear hK K
   exact cut_ok (VS.toK (by omega) (by repeat first | exact trivial | refine And.intro (And.intro (by first | rfl | simp [D.ok, D.oks, D.okss, D.okm, upto, keyOk, argsT]) (by first | exact Or.inl rfl | exact Or.inr ⟨_, rfl, (by repeat first | exact VLe.refl _ | exact VLe.nil _ | exact VLe.untag _ _ _ | refine VLe.ag ?_ | refine VLe.tu ?_ | refine VLeL.cons ?_ ?_ | exact VLeL.nil), trivial⟩ | simp [get, Key.eq, argsT])) ?_))
  ·refine DW.vs (VS.rowT (x := 3) (by rw [hnt]; decide) 83 2 rfl) ?_
   refine dw_seq ?_; refine dw_seq ?_; refine dwk [] TTO_ok hnt fun K hK => ?_; refine hK _ _ ?_; clear hK K; refine dw_block ?_
   refine dw_loop (ι := { j : Nat // j ≤ l.length }) (fun j => [(.t 0, .sl 2 (eTys l) none), (.t 3, .sl 2 (eTys (l.take j.1)) (some 0)), (.t 4, .v (.int .i64 ↑j.1)), (.r 0, .rw 83 2 j.1)]) 1 (fun j => l.length - j.1) (⟨0, Nat.zero_le _⟩) ((VS.toK (by omega) (by repeat first | exact trivial | refine And.intro (And.intro (by first | rfl | simp [D.ok, D.oks, D.okss, D.okm, upto, keyOk, argsT]) (by first | exact Or.inl rfl | exact Or.inr ⟨_, rfl, (by repeat first | exact VLe.refl _ | exact VLe.nil _ | exact VLe.untag _ _ _ | refine VLe.ag ?_ | refine VLe.tu ?_ | refine VLeL.cons ?_ ?_ | exact VLeL.nil), trivial⟩ | simp [get, Key.eq, argsT])) ?_))) fun j => ?_
   obtain ⟨j, hj⟩ := j
   dsimp only
   by_cases hlt : j < l.length
   ·have hsz := Ty.size_mem (List.getElem_mem hlt)
    have hc := to4D_d l[j] (by omega)
    rw [eTy_eq] at hc
    have hl1 := eTys_tlen l j hj
    have hl2 := eTys_tlen l (j + 1) hlt
    refine dw_seq ?_; refine dw_seq ?_; refine dwk [(7, .v (.int .i64 (↑l.length))), (8, .v (.bool true))] TTO_ok hnt fun K hK => ?_; refine And.intro (dintE (by rw [eTys_len])) ?_; refine And.intro auT ?_; refine hK _ _ ?_; clear hK K; refine dw_cond (t := true) rfl ?_; rw [if_pos rfl]; refine dw_skip ?_; refine dw_seq ?_; refine dw_block ?_; refine dwk [(14, .q [.sl 2 (eTys l[j].args) none, .v (.int .i64 l[j].base)])] TTO_ok hnt fun K hK => ?_
    refine And.intro (elo (eTys_len l)) ?_; refine And.intro (elv (eTys_getD l j) (eTy_eq _)) ?_; refine dcl (hc) ?_; refine And.intro (⟨by omega, by rw [hl1]; simp; omega⟩) ?_; refine hK _ _ ?_; clear hK K
    rw [eTys_snoc l j hlt, hl2]
    refine dwk [(10, .v (.int .i64 (↑(j + 1))))] TTO_ok hnt fun K hK => ?_; refine And.intro auI ?_; refine hK _ _ ?_; clear hK K
    refine ⟨⟨j + 1, hlt⟩, by first | omega | (dsimp only; omega), VS.toA⟩
   ·rw [List.take_of_length_le (by omega)]
    refine dw_seq ?_; refine dw_seq ?_; refine dwk [(7, .v (.int .i64 (↑l.length))), (8, .v (.bool false))] TTO_ok hnt fun K hK => ?_; refine And.intro (dintE (by rw [eTys_len])) ?_; refine And.intro auF ?_; refine hK _ _ ?_; clear hK K; refine dw_cond (t := false) rfl ?_; rw [if_neg (by simp)]; refine dw_exit ?_; refine dw_seq ?_; refine dwk [] TTO_ok hnt fun K hK => ?_; refine hK _ _ ?_; clear hK K; refine dw_ret ?_
    exact reta rfl
theorem ofTys_d (l : List Ty) (hz : Ty.sizes l ≤ 900000) : PureC Try.prog 46 [.sl 2 (eTys l) none] (.sl 2 (eTys l) none) := by
 have hal := Ty.le_sizes l
 refine calldw 0 20 [ResultVar.tmp 2] TTO_ok Try.func46 rfl Try.ntmps46 rfl fun cx hnt hn0 => ?_
 ·skip
  refine dw_seq ?_; refine dwk [] TTO_ok hnt fun K hK => ?_; refine hK _ _ ?_; clear hK K
  refine dw_cut (τ := [(.t 0, .sl 2 (eTys l) none), (.t 3, .v (.slice none 0 0))]) (N1 := 0) ?_ ?_
  ·skip
   refine dwk [] TTO_ok hnt fun K hK => ?_; refine hK _ _ ?_; clear hK K
   exact cut_ok (VS.toK (by omega) (by repeat first | exact trivial | refine And.intro (And.intro (by first | rfl | simp [D.ok, D.oks, D.okss, D.okm, upto, keyOk, argsT]) (by first | exact Or.inl rfl | exact Or.inr ⟨_, rfl, (by repeat first | exact VLe.refl _ | exact VLe.nil _ | exact VLe.untag _ _ _ | refine VLe.ag ?_ | refine VLe.tu ?_ | refine VLeL.cons ?_ ?_ | exact VLeL.nil), trivial⟩ | simp [get, Key.eq, argsT])) ?_))
  ·refine DW.vs (VS.rowT (x := 3) (by rw [hnt]; decide) 123 2 rfl) ?_
   refine dw_seq ?_; refine dw_seq ?_; refine dwk [] TTO_ok hnt fun K hK => ?_; refine hK _ _ ?_; clear hK K; refine dw_block ?_
   refine dw_loop (ι := { j : Nat // j ≤ l.length }) (fun j => [(.t 0, .sl 2 (eTys l) none), (.t 3, .sl 2 (eTys (l.take j.1)) (some 0)), (.t 4, .v (.int .i64 ↑j.1)), (.r 0, .rw 123 2 j.1)]) 1 (fun j => l.length - j.1) (⟨0, Nat.zero_le _⟩) ((VS.toK (by omega) (by repeat first | exact trivial | refine And.intro (And.intro (by first | rfl | simp [D.ok, D.oks, D.okss, D.okm, upto, keyOk, argsT]) (by first | exact Or.inl rfl | exact Or.inr ⟨_, rfl, (by repeat first | exact VLe.refl _ | exact VLe.nil _ | exact VLe.untag _ _ _ | refine VLe.ag ?_ | refine VLe.tu ?_ | refine VLeL.cons ?_ ?_ | exact VLeL.nil), trivial⟩ | simp [get, Key.eq, argsT])) ?_))) fun j => ?_
   obtain ⟨j, hj⟩ := j
   dsimp only
   by_cases hlt : j < l.length
   ·have hsz := Ty.size_mem (List.getElem_mem hlt)
    have hc := of4D_d l[j] (by omega)
    rw [eTy_eq] at hc
    have hl1 := eTys_tlen l j hj
    have hl2 := eTys_tlen l (j + 1) hlt
    refine dw_seq ?_; refine dw_seq ?_; refine dwk [(7, .v (.int .i64 (↑l.length))), (8, .v (.bool true))] TTO_ok hnt fun K hK => ?_; refine And.intro (dintE (by rw [eTys_len])) ?_; refine And.intro auT ?_; refine hK _ _ ?_; clear hK K; refine dw_cond (t := true) rfl ?_; rw [if_pos rfl]; refine dw_skip ?_; refine dw_seq ?_; refine dw_block ?_; refine dwk [(14, .q [.sl 2 (eTys l[j].args) none, .v (.int .i64 l[j].base)])] TTO_ok hnt fun K hK => ?_
    refine And.intro (elo (eTys_len l)) ?_; refine And.intro (elv (eTys_getD l j) (eTy_eq _)) ?_; refine dcl (hc) ?_; refine And.intro (⟨by omega, by rw [hl1]; simp; omega⟩) ?_; refine hK _ _ ?_; clear hK K
    rw [eTys_snoc l j hlt, hl2]
    refine dwk [(10, .v (.int .i64 (↑(j + 1))))] TTO_ok hnt fun K hK => ?_; refine And.intro auI ?_; refine hK _ _ ?_; clear hK K
    refine ⟨⟨j + 1, hlt⟩, by first | omega | (dsimp only; omega), VS.toA⟩
   ·rw [List.take_of_length_le (by omega)]
    refine dw_seq ?_; refine dw_seq ?_; refine dwk [(7, .v (.int .i64 (↑l.length))), (8, .v (.bool false))] TTO_ok hnt fun K hK => ?_; refine And.intro (dintE (by rw [eTys_len])) ?_; refine And.intro auF ?_; refine hK _ _ ?_; clear hK K; refine dw_cond (t := false) rfl ?_; rw [if_neg (by simp)]; refine dw_exit ?_; refine dw_seq ?_; refine dwk [] TTO_ok hnt fun K hK => ?_; refine hK _ _ ?_; clear hK K; refine dw_ret ?_
    exact reta rfl
theorem to6D_d : ∀ t : Tm, t.full ≤ 900000 → PureC Try.prog 9 [.ag (eTm t)] (.ag (eTm t)) := by
  intro t
  induction t using Tm.ind with
  | h bs k i ar ih =>
    intro hz
    rw [Tm.full_eq] at hz
    have hbs := toTys_d bs (by omega)
    have hal : ar.length ≤ Tm.fulls ar := by
      clear ih hz
      induction ar with
      | nil => simp
      | cons u l ih => have : 1 ≤ u.full := by obtain ⟨b, k, i, a⟩ := u; rw [Tm.full_eq]; omega
                       simp only [List.length_cons, Tm.fulls]; omega
    rw [eTm_eq]
    dsimp only [Tm.binds, Tm.kind, Tm.index, Tm.args]
    refine calldw 0 35 [ResultVar.cell 2 34] TTO_ok Try.func9 rfl Try.ntmps9 rfl fun cx hnt hn0 => ?_
    · skip
      refine dw_seq ?_
      refine dwk [] TTO_ok hnt fun K hK => ?_
      refine hK _ _ ?_; clear hK K
      refine dw_seq ?_
      refine dwkD [] TTO_ok hnt fun K hK => ?_
      refine dcl (hbs) ?_
      refine hK _ _ (by kernel_rfl) ?_; clear hK K
      refine DW.vs (VS.row (k := 13) (off := 3) 34 4 rfl) ?_
      refine dw_seq ?_
      refine dw_seq ?_
      refine dwk [] TTO_ok hnt fun K hK => ?_
      refine hK _ _ ?_; clear hK K
      refine dw_block ?_
      refine dw_loop (ι := { j : Nat // j ≤ ar.length }) (fun j => [(.t 1, .p 0 0), (.t 2, .p 1 0), (.t 3, .p 13 0), (.t 4, .v (.int .i64 ↑j.1)), (.c 0 0, .sl 2 (eTys bs) none), (.c 0 1, .v (.int .i64 k)), (.c 0 2, .v (.int .i64 i)), (.c 0 3, .sl 4 (eTms ar) none), (.c 1 0, .v (.slice none 0 0)), (.c 1 1, .v (.int .i64 0)), (.c 1 2, .v (.int .i64 0)), (.c 1 3, .v (.slice none 0 0)), (.c 13 0, .sl 2 (eTys bs) none), (.c 13 1, .v (.int .i64 k)), (.c 13 2, .v (.int .i64 i)), (.c 13 3, .sl 4 (eTms (ar.take j.1)) (some 15)), (.r 15, .rw 34 4 j.1)]) 16 (fun j => ar.length - j.1) (⟨0, Nat.zero_le _⟩) ((VS.toK (by omega) (by repeat first | exact trivial | refine And.intro (And.intro (by first | rfl | simp [D.ok, D.oks, D.okss, D.okm, upto, keyOk, argsT]) (by first | exact Or.inl rfl | exact Or.inr ⟨_, rfl, (by repeat first | exact VLe.refl _ | exact VLe.nil _ | exact VLe.untag _ _ _ | refine VLe.ag ?_ | refine VLe.tu ?_ | refine VLeL.cons ?_ ?_ | exact VLeL.nil), trivial⟩ | simp [get, Key.eq, argsT])) ?_))) fun j => ?_
      obtain ⟨j, hj⟩ := j
      dsimp only
      by_cases hlt : j < ar.length
      · have hmem := List.getElem_mem hlt
        have hsz := Tm.full_mem hmem
        have hc := ih _ hmem (by omega)
        rw [eTm_eq] at hc
        have hl1 := eTms_tlen ar j hj
        have hl2 := eTms_tlen ar (j + 1) hlt
        refine dw_seq ?_
        refine dw_seq ?_
        refine dwk [(19, .v (.int .i64 (↑ar.length))), (20, .v (.bool true))] TTO_ok hnt fun K hK => ?_
        refine And.intro (dintE (by rw [eTms_len])) ?_
        refine And.intro auT ?_
        refine hK _ _ ?_; clear hK K
        refine dw_cond (t := true) rfl ?_
        rw [if_pos rfl]
        refine dw_skip ?_
        refine dw_seq ?_
        refine dw_block ?_
        refine dwkD [(28, .q [.sl 2 (eTys ar[j].binds) none, .v (.int .i64 ar[j].kind), .v (.int .i64 ar[j].index), .sl 4 (eTms ar[j].args) none])] TTO_ok hnt fun K hK => ?_
        refine And.intro (elo (eTms_len ar)) ?_
        refine And.intro (elv (eTms_getD ar j) (eTm_eq _)) ?_
        refine dcl (hc) ?_
        refine And.intro (⟨by omega, by rw [hl1]; simp; omega⟩) ?_
        refine hK _ _ (by kernel_rfl) ?_; clear hK K
        rw [eTms_snoc ar j hlt, hl2]
        refine dwk [(22, .v (.int .i64 (↑(j + 1))))] TTO_ok hnt fun K hK => ?_
        refine And.intro auI ?_
        refine hK _ _ ?_; clear hK K
        refine ⟨⟨j + 1, hlt⟩, by first | omega | (dsimp only; omega), VS.toA⟩
      · rw [List.take_of_length_le (by omega)]
        refine dw_seq ?_
        refine dw_seq ?_
        refine dwk [(19, .v (.int .i64 (↑ar.length))), (20, .v (.bool false))] TTO_ok hnt fun K hK => ?_
        refine And.intro (dintE (by rw [eTms_len])) ?_
        refine And.intro auF ?_
        refine hK _ _ ?_; clear hK K
        refine dw_cond (t := false) rfl ?_
        rw [if_neg (by simp)]
        refine dw_exit ?_
        refine dw_seq ?_
        refine dwk [] TTO_ok hnt fun K hK => ?_
        refine hK _ _ ?_; clear hK K
        refine dw_ret ?_
        exact reta rfl
theorem of6D_d : ∀ t : Tm, t.full ≤ 900000 → PureC Try.prog 12 [.ag (eTm t)] (.ag (eTm t)) := by
  intro t
  induction t using Tm.ind with
  | h bs k i ar ih =>
    intro hz
    rw [Tm.full_eq] at hz
    have hbs := ofTys_d bs (by omega)
    have hal : ar.length ≤ Tm.fulls ar := by
      clear ih hz
      induction ar with
      | nil => simp
      | cons u l ih => have : 1 ≤ u.full := by obtain ⟨b, k, i, a⟩ := u; rw [Tm.full_eq]; omega
                       simp only [List.length_cons, Tm.fulls]; omega
    rw [eTm_eq]
    dsimp only [Tm.binds, Tm.kind, Tm.index, Tm.args]
    refine calldw 0 35 [ResultVar.cell 2 27] TTO_ok Try.func12 rfl Try.ntmps12 rfl fun cx hnt hn0 => ?_
    · skip
      refine dw_seq ?_
      refine dwk [] TTO_ok hnt fun K hK => ?_
      refine hK _ _ ?_; clear hK K
      refine dw_seq ?_
      refine dwkD [] TTO_ok hnt fun K hK => ?_
      refine dcl (hbs) ?_
      refine hK _ _ (by kernel_rfl) ?_; clear hK K
      refine DW.vs (VS.row (k := 13) (off := 3) 27 4 rfl) ?_
      refine dw_seq ?_
      refine dw_seq ?_
      refine dwk [] TTO_ok hnt fun K hK => ?_
      refine hK _ _ ?_; clear hK K
      refine dw_block ?_
      refine dw_loop (ι := { j : Nat // j ≤ ar.length }) (fun j => [(.t 1, .p 0 0), (.t 2, .p 1 0), (.t 3, .p 13 0), (.t 4, .v (.int .i64 ↑j.1)), (.c 0 0, .sl 2 (eTys bs) none), (.c 0 1, .v (.int .i64 k)), (.c 0 2, .v (.int .i64 i)), (.c 0 3, .sl 4 (eTms ar) none), (.c 1 0, .v (.slice none 0 0)), (.c 1 1, .v (.int .i64 0)), (.c 1 2, .v (.int .i64 0)), (.c 1 3, .v (.slice none 0 0)), (.c 13 0, .sl 2 (eTys bs) none), (.c 13 1, .v (.int .i64 k)), (.c 13 2, .v (.int .i64 i)), (.c 13 3, .sl 4 (eTms (ar.take j.1)) (some 15)), (.r 15, .rw 27 4 j.1)]) 16 (fun j => ar.length - j.1) (⟨0, Nat.zero_le _⟩) ((VS.toK (by omega) (by repeat first | exact trivial | refine And.intro (And.intro (by first | rfl | simp [D.ok, D.oks, D.okss, D.okm, upto, keyOk, argsT]) (by first | exact Or.inl rfl | exact Or.inr ⟨_, rfl, (by repeat first | exact VLe.refl _ | exact VLe.nil _ | exact VLe.untag _ _ _ | refine VLe.ag ?_ | refine VLe.tu ?_ | refine VLeL.cons ?_ ?_ | exact VLeL.nil), trivial⟩ | simp [get, Key.eq, argsT])) ?_))) fun j => ?_
      obtain ⟨j, hj⟩ := j
      dsimp only
      by_cases hlt : j < ar.length
      · have hmem := List.getElem_mem hlt
        have hsz := Tm.full_mem hmem
        have hc := ih _ hmem (by omega)
        rw [eTm_eq] at hc
        have hl1 := eTms_tlen ar j hj
        have hl2 := eTms_tlen ar (j + 1) hlt
        refine dw_seq ?_
        refine dw_seq ?_
        refine dwk [(19, .v (.int .i64 (↑ar.length))), (20, .v (.bool true))] TTO_ok hnt fun K hK => ?_
        refine And.intro (dintE (by rw [eTms_len])) ?_
        refine And.intro auT ?_
        refine hK _ _ ?_; clear hK K
        refine dw_cond (t := true) rfl ?_
        rw [if_pos rfl]
        refine dw_skip ?_
        refine dw_seq ?_
        refine dw_block ?_
        refine dwkD [(28, .q [.sl 2 (eTys ar[j].binds) none, .v (.int .i64 ar[j].kind), .v (.int .i64 ar[j].index), .sl 4 (eTms ar[j].args) none])] TTO_ok hnt fun K hK => ?_
        refine And.intro (elo (eTms_len ar)) ?_
        refine And.intro (elv (eTms_getD ar j) (eTm_eq _)) ?_
        refine dcl (hc) ?_
        refine And.intro (⟨by omega, by rw [hl1]; simp; omega⟩) ?_
        refine hK _ _ (by kernel_rfl) ?_; clear hK K
        rw [eTms_snoc ar j hlt, hl2]
        refine dwk [(22, .v (.int .i64 (↑(j + 1))))] TTO_ok hnt fun K hK => ?_
        refine And.intro auI ?_
        refine hK _ _ ?_; clear hK K
        refine ⟨⟨j + 1, hlt⟩, by first | omega | (dsimp only; omega), VS.toA⟩
      · rw [List.take_of_length_le (by omega)]
        refine dw_seq ?_
        refine dw_seq ?_
        refine dwk [(19, .v (.int .i64 (↑ar.length))), (20, .v (.bool false))] TTO_ok hnt fun K hK => ?_
        refine And.intro (dintE (by rw [eTms_len])) ?_
        refine And.intro auF ?_
        refine hK _ _ ?_; clear hK K
        refine dw_cond (t := false) rfl ?_
        rw [if_neg (by simp)]
        refine dw_exit ?_
        refine dw_seq ?_
        refine dwk [] TTO_ok hnt fun K hK => ?_
        refine hK _ _ ?_; clear hK K
        refine dw_ret ?_
        exact reta rfl

end Go.Proofs.Ytcblpjheoclkeaa

namespace Go.Proofs.Ytcblpjheoclkeaa
open Go.RowKit
def TPR_62 : TI := ⟨9, true, [Value.slice none 0 0, Value.int IntKind.i64 0, Value.int IntKind.i64 0, Value.slice none 0 0, Value.slice none 0 0, Value.int IntKind.i64 0, Value.int IntKind.i64 0, Value.slice none 0 0, Value.slice none 0 0], [(0, 4, true), (4, 4, true), (8, 1, false)], none, 152, 6, none, false⟩
theorem TPR_62_ok : TypOk Try.prog 62 TPR_62 := ⟨by kernel_rfl, by kernel_rfl, by kernel_rfl, by kernel_rfl, by kernel_rfl⟩
def TPR_27 : TI := ⟨4, true, [Value.slice none 0 0, Value.int IntKind.i64 0, Value.int IntKind.i64 0, Value.slice none 0 0], [(0, 1, false), (1, 2, true), (3, 1, false)], none, 64, 6, none, false⟩
theorem TPR_27_ok : TypOk Try.prog 27 TPR_27 := ⟨by kernel_rfl, by kernel_rfl, by kernel_rfl, by kernel_rfl, by kernel_rfl⟩
def TPR_22 : TI := ⟨1, false, [Value.slice none 0 0], [], some 123, 24, 5, none, false⟩
theorem TPR_22_ok : TypOk Try.prog 22 TPR_22 := ⟨by kernel_rfl, by kernel_rfl, by kernel_rfl, by kernel_rfl, by kernel_rfl⟩
def TPR_68 : TI := ⟨9, true, [Value.slice none 0 0, Value.int IntKind.i64 0, Value.int IntKind.i64 0, Value.slice none 0 0, Value.slice none 0 0, Value.int IntKind.i64 0, Value.int IntKind.i64 0, Value.slice none 0 0, Value.slice none 0 0], [(0, 4, true), (4, 4, true), (8, 1, false)], none, 152, 6, none, false⟩
theorem TPR_68_ok : TypOk Try.prog 68 TPR_68 := ⟨by kernel_rfl, by kernel_rfl, by kernel_rfl, by kernel_rfl, by kernel_rfl⟩
def TPR_119 : TI := ⟨1, false, [Value.slice none 0 0], [], some 62, 24, 5, none, false⟩
theorem TPR_119_ok : TypOk Try.prog 119 TPR_119 := ⟨by kernel_rfl, by kernel_rfl, by kernel_rfl, by kernel_rfl, by kernel_rfl⟩
def TPR_3 : TI := ⟨1, false, [Value.int IntKind.i64 0], [], none, 8, 2, none, false⟩
theorem TPR_3_ok : TypOk Try.prog 3 TPR_3 := ⟨by kernel_rfl, by kernel_rfl, by kernel_rfl, by kernel_rfl, by kernel_rfl⟩
def TPR_34 : TI := ⟨4, true, [Value.slice none 0 0, Value.int IntKind.i64 0, Value.int IntKind.i64 0, Value.slice none 0 0], [(0, 1, false), (1, 2, true), (3, 1, false)], none, 64, 6, none, false⟩
theorem TPR_34_ok : TypOk Try.prog 34 TPR_34 := ⟨by kernel_rfl, by kernel_rfl, by kernel_rfl, by kernel_rfl, by kernel_rfl⟩
def TPR_25 : TI := ⟨1, false, [Value.slice none 0 0], [], some 27, 24, 5, none, false⟩
theorem TPR_25_ok : TypOk Try.prog 25 TPR_25 := ⟨by kernel_rfl, by kernel_rfl, by kernel_rfl, by kernel_rfl, by kernel_rfl⟩
def TPR_123 : TI := ⟨2, true, [Value.slice none 0 0, Value.int IntKind.i64 0], [(0, 1, false), (1, 1, false)], none, 32, 6, none, false⟩
theorem TPR_123_ok : TypOk Try.prog 123 TPR_123 := ⟨by kernel_rfl, by kernel_rfl, by kernel_rfl, by kernel_rfl, by kernel_rfl⟩
def TPR_30 : TI := ⟨1, false, [Value.slice none 0 0], [], some 83, 24, 5, none, false⟩
theorem TPR_30_ok : TypOk Try.prog 30 TPR_30 := ⟨by kernel_rfl, by kernel_rfl, by kernel_rfl, by kernel_rfl, by kernel_rfl⟩
def TPR_66 : TI := ⟨3, true, [Value.int IntKind.i64 0, Value.slice none 0 0, Value.slice none 0 0], [(0, 1, false), (1, 1, false), (2, 1, false)], none, 56, 6, none, false⟩
theorem TPR_66_ok : TypOk Try.prog 66 TPR_66 := ⟨by kernel_rfl, by kernel_rfl, by kernel_rfl, by kernel_rfl, by kernel_rfl⟩
def TPR_83 : TI := ⟨2, true, [Value.slice none 0 0, Value.int IntKind.i64 0], [(0, 1, false), (1, 1, false)], none, 32, 6, none, false⟩
theorem TPR_83_ok : TypOk Try.prog 83 TPR_83 := ⟨by kernel_rfl, by kernel_rfl, by kernel_rfl, by kernel_rfl, by kernel_rfl⟩
def TPR : List (Nat × TI) := [(62, TPR_62), (27, TPR_27), (22, TPR_22), (68, TPR_68), (119, TPR_119), (3, TPR_3), (34, TPR_34), (25, TPR_25), (123, TPR_123), (30, TPR_30), (66, TPR_66), (83, TPR_83)]
theorem TPR_ok : TabOk Try.prog TPR := (((((((((((((TabOk.nil _).cons TPR_83_ok).cons TPR_66_ok).cons TPR_30_ok).cons TPR_123_ok).cons TPR_25_ok).cons TPR_34_ok).cons TPR_3_ok).cons TPR_119_ok).cons TPR_68_ok).cons TPR_22_ok).cons TPR_27_ok).cons TPR_62_ok)
namespace Li
structure Pr where
  l : Tm
  r : Tm
  m : List Ty
instance : DecidableEq Pr := fun p q => decidable_of_iff (p.l = q.l ∧ p.r = q.r ∧ p.m = q.m) (by cases p; cases q; simp)
def Pr.z : Pr := ⟨Tm.zero, Tm.zero, []⟩
end Li
def ePr (p : Li.Pr) : List D := [.sl 2 (eTys p.l.binds) none, .v (.int .i64 p.l.kind), .v (.int .i64 p.l.index), .sl 4 (eTms p.l.args) none, .sl 2 (eTys p.r.binds) none, .v (.int .i64 p.r.kind), .v (.int .i64 p.r.index), .sl 4 (eTms p.r.args) none, .sl 2 (eTys p.m) none]
theorem ePr_eq (L R : Tm) (M : List Ty) : ePr ⟨L, R, M⟩ = [.sl 2 (eTys L.binds) none, .v (.int .i64 L.kind), .v (.int .i64 L.index), .sl 4 (eTms L.args) none, .sl 2 (eTys R.binds) none, .v (.int .i64 R.kind), .v (.int .i64 R.index), .sl 4 (eTms R.args) none, .sl 2 (eTys M) none] := rfl
theorem ePr_at (p : Li.Pr) : ePr p = [.sl 2 (eTys p.l.binds) none, .v (.int .i64 p.l.kind), .v (.int .i64 p.l.index), .sl 4 (eTms p.l.args) none, .sl 2 (eTys p.r.binds) none, .v (.int .i64 p.r.kind), .v (.int .i64 p.r.index), .sl 4 (eTms p.r.args) none, .sl 2 (eTys p.m) none] := rfl
theorem ePr_z : ePr .z = [.sl 2 [] none, .v (.int .i64 0), .v (.int .i64 0), .sl 4 [] none, .sl 2 [] none, .v (.int .i64 0), .v (.int .i64 0), .sl 4 [] none, .sl 2 [] none] := rfl
@[simp] theorem ePr_ok (f g : Nat → Bool) (p : Li.Pr) : D.oks f g (ePr p) = true := by simp [ePr, D.oks, D.ok]
def ePrs (l : List Li.Pr) : List (List D) := l.map ePr
theorem ePrs_len (l : List Li.Pr) : (ePrs l).length = l.length := List.length_map ..
theorem ePrs_getD (l : List Li.Pr) (i : Nat) (h : i < l.length) : (ePrs l).getD i [] = ePr l[i] := by
  rw [ePrs, List.getD_eq_getElem?_getD, List.getElem?_map, List.getElem?_eq_getElem h]; rfl
@[simp] theorem ePrs_ok (f g : Nat → Bool) (l : List Li.Pr) : D.okss f g (ePrs l) = true := D.okss_map _ l fun l _ => ePr_ok f g l
theorem to17_d (p : Li.Pr) (h1 : p.l.full ≤ 900000) (h2 : p.r.full ≤ 900000) (h3 : Ty.sizes p.m ≤ 900000) : PureC Try.prog 28 [.ag (ePr p)] (.ag (ePr p)) := by
 obtain ⟨L, R, M⟩ := p
 have c1 := to6D_d L h1
 have c2 := to6D_d R h2
 have c3 := toTys_d M h3
 rw [eTm_eq] at c1 c2
 rw [ePr_eq]
 refine calldw 0 13 [ResultVar.cell 2 68] TPR_ok Try.func28 rfl Try.ntmps28 rfl fun cx hnt hn0 => ?_
 ·skip
  refine dw_seq ?_; refine dwk [] TPR_ok hnt fun K hK => ?_; refine hK _ _ ?_; clear hK K; refine dw_seq ?_; refine dwkD [] TPR_ok hnt fun K hK => ?_; refine dcl (c1) ?_; refine dcl (c2) ?_; refine dcl (c3) ?_; refine hK _ _ (by kernel_rfl) ?_; clear hK K; refine dw_ret ?_
  exact reta rfl
theorem of17_d (p : Li.Pr) (h1 : p.l.full ≤ 900000) (h2 : p.r.full ≤ 900000) (h3 : Ty.sizes p.m ≤ 900000) : PureC Try.prog 33 [.ag (ePr p)] (.ag (ePr p)) := by
 obtain ⟨L, R, M⟩ := p
 have c1 := of6D_d L h1
 have c2 := of6D_d R h2
 have c3 := ofTys_d M h3
 rw [eTm_eq] at c1 c2
 rw [ePr_eq]
 refine calldw 0 13 [ResultVar.cell 2 62] TPR_ok Try.func33 rfl Try.ntmps33 rfl fun cx hnt hn0 => ?_
 ·skip
  refine dw_seq ?_; refine dwk [] TPR_ok hnt fun K hK => ?_; refine hK _ _ ?_; clear hK K; refine dw_seq ?_; refine dwkD [] TPR_ok hnt fun K hK => ?_; refine dcl (c1) ?_; refine dcl (c2) ?_; refine dcl (c3) ?_; refine hK _ _ (by kernel_rfl) ?_; clear hK K; refine dw_ret ?_
  exact reta rfl
theorem types17_d (l r : List Ty) (hl : l.length ≤ 1000000) (hr : r.length ≤ 1000000) : PureC Try.prog 65 [.sl 2 (eTys l) none, .sl 2 (eTys r) none] (.v (.bool (decide (l = r)))) := by
 by_cases hlr : l.length = r.length
 ·skip
  refine calldw 0 27 [ResultVar.tmp 4] TPR_ok Try.func65 rfl Try.ntmps65 rfl fun cx hnt hn0 => ?_
  ·skip
   refine dw_seq ?_; refine dwk [] TPR_ok hnt fun K hK => ?_; refine hK _ _ ?_; clear hK K; refine dw_seq ?_; refine dw_seq ?_; refine dwk [(7, .v (.int .i64 (↑l.length))), (9, .v (.int .i64 (↑r.length))), (10, .v (.bool false))] TPR_ok hnt fun K hK => ?_; refine And.intro (dintE (by rw [eTys_len])) ?_; refine And.intro (dintE (by rw [eTys_len])) ?_; refine And.intro (bneF (by omega)) ?_; refine hK _ _ ?_; clear hK K
   refine dw_cond (t := false) rfl ?_; rw [if_neg (by simp)]; refine dw_skip ?_; refine dw_seq ?_; refine dw_seq ?_; refine dwk [] TPR_ok hnt fun K hK => ?_; refine hK _ _ ?_; clear hK K; refine dw_block ?_
   refine dw_loop (ι := { j : Nat // l.take j = r.take j }) (fun j => [(.t 0, .sl 2 (eTys l) none), (.t 1, .sl 2 (eTys r) none), (.t 5, .v (.int .i64 ↑j.1))]) 2 (fun j => l.length - j.1) (⟨0, rfl⟩) (VS.toA) fun j => ?_
   obtain ⟨j, hj⟩ := j
   dsimp only
   by_cases hlt : j < l.length
   ·have hlt2 : j < r.length := by omega
    have hq := rsame4_d l[j] r[j]
    rw [eTy_eq, eTy_eq] at hq
    by_cases he : l[j] = r[j]
    ·rw [decide_eq_true he] at hq
     refine dw_seq ?_; refine dw_seq ?_; refine dwk [(13, .v (.int .i64 (↑l.length))), (14, .v (.bool true))] TPR_ok hnt fun K hK => ?_; refine And.intro (dintE (by rw [eTys_len])) ?_; refine And.intro auT ?_; refine hK _ _ ?_; clear hK K; refine dw_cond (t := true) rfl ?_; rw [if_pos rfl]; refine dw_skip ?_; refine dw_seq ?_; refine dw_block ?_; refine dw_seq ?_; refine dwkD [(19, .q [.sl 2 (eTys l[j].args) none, .v (.int .i64 l[j].base)]), (23, .q [.sl 2 (eTys r[j].args) none, .v (.int .i64 r[j].base)])] TPR_ok hnt fun K hK => ?_
     refine And.intro (elo (eTys_len l)) ?_; refine And.intro (elv (eTys_getD l j) (eTy_eq _)) ?_; refine And.intro (elo (eTys_len r)) ?_; refine And.intro (elv (eTys_getD r j) (eTy_eq _)) ?_; refine dcl (hq) ?_; refine hK _ _ (by kernel_rfl) ?_; clear hK K; refine dw_cond (t := false) rfl ?_; rw [if_neg (by simp)]; refine dw_skip ?_; refine dwk [(16, .v (.int .i64 (↑(j + 1))))] TPR_ok hnt fun K hK => ?_
     refine And.intro auI ?_; refine hK _ _ ?_; clear hK K
     refine ⟨⟨j + 1, take_succ_eq hj hlt hlt2 he⟩, by first | omega | (dsimp only; omega), VS.toA⟩
    ·rw [decide_eq_false he] at hq
     rw [decide_eq_false (ne_at hlt hlt2 he)]
     refine dw_seq ?_; refine dw_seq ?_; refine dwk [(13, .v (.int .i64 (↑l.length))), (14, .v (.bool true))] TPR_ok hnt fun K hK => ?_; refine And.intro (dintE (by rw [eTys_len])) ?_; refine And.intro auT ?_; refine hK _ _ ?_; clear hK K; refine dw_cond (t := true) rfl ?_; rw [if_pos rfl]; refine dw_skip ?_; refine dw_seq ?_; refine dw_block ?_; refine dw_seq ?_; refine dwkD [(19, .q [.sl 2 (eTys l[j].args) none, .v (.int .i64 l[j].base)]), (23, .q [.sl 2 (eTys r[j].args) none, .v (.int .i64 r[j].base)])] TPR_ok hnt fun K hK => ?_
     refine And.intro (elo (eTys_len l)) ?_; refine And.intro (elv (eTys_getD l j) (eTy_eq _)) ?_; refine And.intro (elo (eTys_len r)) ?_; refine And.intro (elv (eTys_getD r j) (eTy_eq _)) ?_; refine dcl (hq) ?_; refine hK _ _ (by kernel_rfl) ?_; clear hK K; refine dw_cond (t := true) rfl ?_; rw [if_pos rfl]; refine dw_seq ?_; refine dwk [] TPR_ok hnt fun K hK => ?_; refine hK _ _ ?_; clear hK K; refine dw_ret ?_
     exact reta rfl
   ·rw [decide_eq_true (eq_of_take hj (by omega) (by omega))]
    refine dw_seq ?_; refine dw_seq ?_; refine dwk [(13, .v (.int .i64 (↑l.length))), (14, .v (.bool false))] TPR_ok hnt fun K hK => ?_; refine And.intro (dintE (by rw [eTys_len])) ?_; refine And.intro auF ?_; refine hK _ _ ?_; clear hK K; refine dw_cond (t := false) rfl ?_; rw [if_neg (by simp)]; refine dw_exit ?_; refine dw_seq ?_; refine dwk [] TPR_ok hnt fun K hK => ?_; refine hK _ _ ?_; clear hK K
    refine dw_ret ?_
    exact reta rfl
 ·rw [decide_eq_false (fun e => hlr (by rw [e]))]
  refine calldw 0 27 [ResultVar.tmp 4] TPR_ok Try.func65 rfl Try.ntmps65 rfl fun cx hnt hn0 => ?_
  ·skip
   refine dw_seq ?_; refine dwk [] TPR_ok hnt fun K hK => ?_; refine hK _ _ ?_; clear hK K; refine dw_seq ?_; refine dw_seq ?_; refine dwk [(7, .v (.int .i64 (↑l.length))), (9, .v (.int .i64 (↑r.length))), (10, .v (.bool true))] TPR_ok hnt fun K hK => ?_; refine And.intro (dintE (by rw [eTys_len])) ?_; refine And.intro (dintE (by rw [eTys_len])) ?_; refine And.intro (bneT (by omega)) ?_; refine hK _ _ ?_; clear hK K
   refine dw_cond (t := true) rfl ?_; rw [if_pos rfl]; refine dw_seq ?_; refine dwk [] TPR_ok hnt fun K hK => ?_; refine hK _ _ ?_; clear hK K; refine dw_ret ?_
   exact reta rfl
theorem same17_d (p q : Li.Pr) (h1 : p.m.length ≤ 1000000) (h2 : q.m.length ≤ 1000000) : PureC Try.prog 32 [.ag (ePr p), .ag (ePr q)] (.v (.bool (decide (p = q)))) := by
 obtain ⟨L, R, M⟩ := p
 obtain ⟨L', R', M'⟩ := q
 have c1 := same2_d L L'
 have c2 := same2_d R R'
 have c3 := types17_d M M' h1 h2
 have e : decide ((⟨L, R, M⟩ : Li.Pr) = ⟨L', R', M'⟩) = ((decide (L = L') && decide (R = R')) && decide (M = M')) := by
  rw [Bool.eq_iff_iff]; simp [and_assoc]
 rw [e]
 rw [eTm_eq L, eTm_eq L'] at c1
 rw [eTm_eq R, eTm_eq R'] at c2
 rw [ePr_eq, ePr_eq]
 cases hA : decide (L = L') with
 | false =>
  rw [hA] at c1
  rw [Bool.false_and, Bool.false_and]
  refine calldw 0 24 [ResultVar.tmp 4] TPR_ok Try.func32 rfl Try.ntmps32 rfl fun cx hnt hn0 => ?_
  ·skip
   refine dw_seq ?_; refine dwk [] TPR_ok hnt fun K hK => ?_; refine hK _ _ ?_; clear hK K; refine dw_seq ?_; refine dwk [] TPR_ok hnt fun K hK => ?_; refine dcl (c1) ?_; refine hK _ _ ?_; clear hK K; refine dw_ret ?_
   exact reta rfl
 | true =>
  rw [hA] at c1
  cases hB : decide (R = R') with
  | false =>
   rw [hB] at c2
   rw [Bool.and_false, Bool.false_and]
   refine calldw 0 24 [ResultVar.tmp 4] TPR_ok Try.func32 rfl Try.ntmps32 rfl fun cx hnt hn0 => ?_
   ·skip
    refine dw_seq ?_; refine dwk [] TPR_ok hnt fun K hK => ?_; refine hK _ _ ?_; clear hK K; refine dw_seq ?_; refine dwk [] TPR_ok hnt fun K hK => ?_; refine dcl (c1) ?_; refine dcl (c2) ?_; refine hK _ _ ?_; clear hK K; refine dw_ret ?_
    exact reta rfl
  | true =>
   rw [hB] at c2
   rw [Bool.and_true, Bool.true_and]
   refine calldw 0 24 [ResultVar.tmp 4] TPR_ok Try.func32 rfl Try.ntmps32 rfl fun cx hnt hn0 => ?_
   ·skip
    refine dw_seq ?_; refine dwk [] TPR_ok hnt fun K hK => ?_; refine hK _ _ ?_; clear hK K; refine dw_seq ?_; refine dwk [] TPR_ok hnt fun K hK => ?_; refine dcl (c1) ?_; refine dcl (c2) ?_; refine dcl (c3) ?_; refine hK _ _ ?_; clear hK K; refine dw_ret ?_
    exact reta rfl
/-! Few -/
def fewP (p : Li.Pr) : Bool := (([p.l, p.r].all fewB) && (decide (p.m.length ≤ 20) && p.m.all few4B)) && lowsB [p.l, p.r]
theorem smallP_d (X : List Ty) : PureC Try.prog 25 [.ag [.v (.int .i64 0), .sl 2 (eTys []) none, .sl 2 (eTys []) none], .sl 2 (eTys X) none] (.v (.bool (decide (X.length ≤ 20) && X.all few4B))) := by
  by_cases h : X.length ≤ 20
  · have := small_d 0 [] [] X (by simp) (by simp) h
    rw [List.append_nil, List.nil_append] at this
    rw [decide_eq_true h, Bool.true_and]; exact this
  · rw [decide_eq_false h, Bool.false_and]
    exact small_no 0 [] [] X (fun h2 => h h2.2.2)
theorem fewP_ok {p : Li.Pr} (h : fewP p = true) : (p.l.full ≤ 150 ∧ p.r.full ≤ 150) ∧ p.m.length ≤ 20 ∧ (∀ t ∈ p.m, t.size ≤ 60) := by
  unfold fewP at h
  simp only [Bool.and_eq_true, List.all_cons, List.all_nil, and_true, decide_eq_true_eq] at h
  exact ⟨⟨(fewB_full h.1.1.1).1, (fewB_full h.1.1.2).1⟩, h.1.2.1, fun t ht => fewT60 (List.all_eq_true.1 h.1.2.2 t ht)⟩
set_option maxHeartbeats 2000000 in
theorem few17_d (l : List Li.Pr) (hl : l.length ≤ 1000000) : PureC Try.prog 24 [.sl 9 (ePrs l) none] (.v (.bool (l.all fewP))) := by
 refine calldw 0 48 [ResultVar.tmp 2] TPR_ok Try.func24 rfl Try.ntmps24 rfl fun cx hnt hn0 => ?_
 ·skip
  refine dw_seq ?_; refine dwk [] TPR_ok hnt fun K hK => ?_; refine hK _ _ ?_; clear hK K; refine dw_seq ?_; refine dw_seq ?_; refine dwk [] TPR_ok hnt fun K hK => ?_; refine hK _ _ ?_; clear hK K; refine dw_block ?_
  refine dw_loop (ι := { j : Nat // ∀ i (h : i < l.length), i < j → fewP l[i] = true }) (fun j => [(.t 0, .sl 9 (ePrs l) none), (.t 3, .v (.int .i64 ↑j.1))]) 1 (fun j => l.length - j.1) (⟨0, fun i h1 h2 => by omega⟩) (VS.toA) fun j => ?_
  obtain ⟨j, hj⟩ := j
  dsimp only
  by_cases hlt : j < l.length
  ·obtain ⟨p, hp⟩ : ∃ p, l[j] = p := ⟨_, rfl⟩
   have hgd : (ePrs l).getD j [] = [.sl 2 (eTys p.l.binds) none, .v (.int .i64 p.l.kind), .v (.int .i64 p.l.index), .sl 4 (eTms p.l.args) none, .sl 2 (eTys p.r.binds) none, .v (.int .i64 p.r.kind), .v (.int .i64 p.r.index), .sl 4 (eTms p.r.args) none, .sl 2 (eTys p.m) none] := by rw [ePrs_getD l j hlt, hp, ePr_at]
   have hF := lawFew_d [p.l, p.r] (by simp)
   have hS := smallP_d p.m
   have hbad : fewP p = false → l.all fewP = false := fun h => by rw [List.all_eq_false]; exact ⟨l[j], List.getElem_mem hlt, by rw [hp, h]; simp⟩
   have e2 : eTms [p.l, p.r] = [[.sl 2 (eTys p.l.binds) none, .v (.int .i64 p.l.kind), .v (.int .i64 p.l.index), .sl 4 (eTms p.l.args) none], [.sl 2 (eTys p.r.binds) none, .v (.int .i64 p.r.kind), .v (.int .i64 p.r.index), .sl 4 (eTms p.r.args) none]] := by rw [← eTm_eq, ← eTm_eq]; rfl
   cases h1 : [p.l, p.r].all fewB with
   | false =>
    rw [h1] at hF
    rw [hbad (by rw [fewP, h1]; rfl)]
    refine dw_seq ?_; refine dw_seq ?_; refine dwk [(6, .v (.int .i64 (↑l.length))), (7, .v (.bool true))] TPR_ok hnt fun K hK => ?_; refine And.intro (dintE (by rw [ePrs_len])) ?_; refine And.intro auT ?_; refine hK _ _ ?_; clear hK K; refine dw_cond (t := true) rfl ?_; rw [if_pos rfl]; refine dw_skip ?_; refine dw_seq ?_; refine dw_block ?_; refine dw_seq ?_; refine dwkD [(12, .q [.sl 2 (eTys p.l.binds) none, .v (.int .i64 p.l.kind), .v (.int .i64 p.l.index), .sl 4 (eTms p.l.args) none, .sl 2 (eTys p.r.binds) none, .v (.int .i64 p.r.kind), .v (.int .i64 p.r.index), .sl 4 (eTms p.r.args) none, .sl 2 (eTys p.m) none]), (17, .q [.sl 2 (eTys p.l.binds) none, .v (.int .i64 p.l.kind), .v (.int .i64 p.l.index), .sl 4 (eTms p.l.args) none, .sl 2 (eTys p.r.binds) none, .v (.int .i64 p.r.kind), .v (.int .i64 p.r.index), .sl 4 (eTms p.r.args) none, .sl 2 (eTys p.m) none]), (20, .sl 4 (eTms [p.l, p.r]) none)] TPR_ok hnt fun K hK => ?_
    refine And.intro (⟨by omega, by rw [ePrs_len]; omega⟩) ?_; refine And.intro (VLe.of_eq (by rw [Int.toNat_natCast, hgd])) ?_; refine And.intro (⟨by omega, by rw [ePrs_len]; omega⟩) ?_; refine And.intro (VLe.of_eq (by rw [Int.toNat_natCast, hgd])) ?_; refine And.intro ((by rw [e2]; exact VLe.untag _ _ _)) ?_; refine dcl (hF) ?_; refine hK _ _ (by kernel_rfl) ?_; clear hK K; refine dw_cond (t := true) rfl ?_
    rw [if_pos rfl]; refine dw_seq ?_; refine dwk [] TPR_ok hnt fun K hK => ?_; refine hK _ _ ?_; clear hK K; refine dw_ret ?_
    exact reta rfl
   | true =>
    rw [h1] at hF
    cases h2 : (decide (p.m.length ≤ 20) && p.m.all few4B) with
    | false =>
     rw [h2] at hS
     rw [hbad (by rw [fewP, h1, h2]; rfl)]
     refine dw_seq ?_; refine dw_seq ?_; refine dwk [(6, .v (.int .i64 (↑l.length))), (7, .v (.bool true))] TPR_ok hnt fun K hK => ?_; refine And.intro (dintE (by rw [ePrs_len])) ?_; refine And.intro auT ?_; refine hK _ _ ?_; clear hK K; refine dw_cond (t := true) rfl ?_; rw [if_pos rfl]; refine dw_skip ?_; refine dw_seq ?_; refine dw_block ?_; refine dw_seq ?_; refine dwkD [(12, .q [.sl 2 (eTys p.l.binds) none, .v (.int .i64 p.l.kind), .v (.int .i64 p.l.index), .sl 4 (eTms p.l.args) none, .sl 2 (eTys p.r.binds) none, .v (.int .i64 p.r.kind), .v (.int .i64 p.r.index), .sl 4 (eTms p.r.args) none, .sl 2 (eTys p.m) none]), (17, .q [.sl 2 (eTys p.l.binds) none, .v (.int .i64 p.l.kind), .v (.int .i64 p.l.index), .sl 4 (eTms p.l.args) none, .sl 2 (eTys p.r.binds) none, .v (.int .i64 p.r.kind), .v (.int .i64 p.r.index), .sl 4 (eTms p.r.args) none, .sl 2 (eTys p.m) none]), (20, .sl 4 (eTms [p.l, p.r]) none), (24, .ag [.v (.int .i64 0), .sl 2 (eTys []) none, .sl 2 (eTys []) none]), (27, .q [.sl 2 (eTys p.l.binds) none, .v (.int .i64 p.l.kind), .v (.int .i64 p.l.index), .sl 4 (eTms p.l.args) none, .sl 2 (eTys p.r.binds) none, .v (.int .i64 p.r.kind), .v (.int .i64 p.r.index), .sl 4 (eTms p.r.args) none, .sl 2 (eTys p.m) none])] TPR_ok hnt fun K hK => ?_
     refine And.intro (⟨by omega, by rw [ePrs_len]; omega⟩) ?_; refine And.intro (VLe.of_eq (by rw [Int.toNat_natCast, hgd])) ?_; refine And.intro (⟨by omega, by rw [ePrs_len]; omega⟩) ?_; refine And.intro (VLe.of_eq (by rw [Int.toNat_natCast, hgd])) ?_; refine And.intro ((by rw [e2]; exact VLe.untag _ _ _)) ?_; refine dcl (hF) ?_; refine And.intro (auV) ?_; refine And.intro (⟨by omega, by rw [ePrs_len]; omega⟩) ?_
     refine And.intro (VLe.of_eq (by rw [Int.toNat_natCast, hgd])) ?_; refine dcl (hS) ?_; refine hK _ _ (by kernel_rfl) ?_; clear hK K; refine dw_cond (t := true) rfl ?_; rw [if_pos rfl]; refine dw_seq ?_; refine dwk [] TPR_ok hnt fun K hK => ?_; refine hK _ _ ?_; clear hK K; refine dw_ret ?_
     exact reta rfl
    | true =>
     rw [h2] at hS
     have h1' := h1
     simp only [List.all_cons, List.all_nil, Bool.and_true, Bool.and_eq_true] at h1'
     have hL := low_d [p.l, p.r] (by simp) (fun t ht => by
      rcases List.mem_cons.1 ht with rfl | ht
      ·exact wide_full _ (by have := (fewB_full h1'.1).1; omega)
      ·rw [List.mem_singleton] at ht; subst ht; exact wide_full _ (by have := (fewB_full h1'.2).1; omega))
     cases h3 : lowsB [p.l, p.r] with
     | false =>
      rw [h3] at hL
      rw [hbad (by rw [fewP, h1, h2, h3]; rfl)]
      refine dw_seq ?_; refine dw_seq ?_; refine dwk [(6, .v (.int .i64 (↑l.length))), (7, .v (.bool true))] TPR_ok hnt fun K hK => ?_; refine And.intro (dintE (by rw [ePrs_len])) ?_; refine And.intro auT ?_; refine hK _ _ ?_; clear hK K; refine dw_cond (t := true) rfl ?_; rw [if_pos rfl]; refine dw_skip ?_; refine dw_seq ?_; refine dw_block ?_; refine dw_seq ?_; refine dwkD [(12, .q [.sl 2 (eTys p.l.binds) none, .v (.int .i64 p.l.kind), .v (.int .i64 p.l.index), .sl 4 (eTms p.l.args) none, .sl 2 (eTys p.r.binds) none, .v (.int .i64 p.r.kind), .v (.int .i64 p.r.index), .sl 4 (eTms p.r.args) none, .sl 2 (eTys p.m) none]), (17, .q [.sl 2 (eTys p.l.binds) none, .v (.int .i64 p.l.kind), .v (.int .i64 p.l.index), .sl 4 (eTms p.l.args) none, .sl 2 (eTys p.r.binds) none, .v (.int .i64 p.r.kind), .v (.int .i64 p.r.index), .sl 4 (eTms p.r.args) none, .sl 2 (eTys p.m) none]), (20, .sl 4 (eTms [p.l, p.r]) none), (24, .ag [.v (.int .i64 0), .sl 2 (eTys []) none, .sl 2 (eTys []) none]), (27, .q [.sl 2 (eTys p.l.binds) none, .v (.int .i64 p.l.kind), .v (.int .i64 p.l.index), .sl 4 (eTms p.l.args) none, .sl 2 (eTys p.r.binds) none, .v (.int .i64 p.r.kind), .v (.int .i64 p.r.index), .sl 4 (eTms p.r.args) none, .sl 2 (eTys p.m) none]), (36, .q [.sl 2 (eTys p.l.binds) none, .v (.int .i64 p.l.kind), .v (.int .i64 p.l.index), .sl 4 (eTms p.l.args) none, .sl 2 (eTys p.r.binds) none, .v (.int .i64 p.r.kind), .v (.int .i64 p.r.index), .sl 4 (eTms p.r.args) none, .sl 2 (eTys p.m) none]), (41, .q [.sl 2 (eTys p.l.binds) none, .v (.int .i64 p.l.kind), .v (.int .i64 p.l.index), .sl 4 (eTms p.l.args) none, .sl 2 (eTys p.r.binds) none, .v (.int .i64 p.r.kind), .v (.int .i64 p.r.index), .sl 4 (eTms p.r.args) none, .sl 2 (eTys p.m) none]), (44, .sl 4 (eTms [p.l, p.r]) none)] TPR_ok hnt fun K hK => ?_
      refine And.intro (⟨by omega, by rw [ePrs_len]; omega⟩) ?_; refine And.intro (VLe.of_eq (by rw [Int.toNat_natCast, hgd])) ?_; refine And.intro (⟨by omega, by rw [ePrs_len]; omega⟩) ?_; refine And.intro (VLe.of_eq (by rw [Int.toNat_natCast, hgd])) ?_; refine And.intro ((by rw [e2]; exact VLe.untag _ _ _)) ?_; refine dcl (hF) ?_; refine And.intro (auV) ?_; refine And.intro (⟨by omega, by rw [ePrs_len]; omega⟩) ?_
      refine And.intro (VLe.of_eq (by rw [Int.toNat_natCast, hgd])) ?_; refine dcl (hS) ?_; refine And.intro (⟨by omega, by rw [ePrs_len]; omega⟩) ?_; refine And.intro (VLe.of_eq (by rw [Int.toNat_natCast, hgd])) ?_; refine And.intro (⟨by omega, by rw [ePrs_len]; omega⟩) ?_; refine And.intro (VLe.of_eq (by rw [Int.toNat_natCast, hgd])) ?_; refine And.intro ((by rw [e2]; exact VLe.untag _ _ _)) ?_; refine dcl (hL) ?_
      refine hK _ _ (by kernel_rfl) ?_; clear hK K; refine dw_cond (t := true) rfl ?_; rw [if_pos rfl]; refine dw_seq ?_; refine dwk [] TPR_ok hnt fun K hK => ?_; refine hK _ _ ?_; clear hK K; refine dw_ret ?_
      exact reta rfl
     | true =>
      rw [h3] at hL
      refine dw_seq ?_; refine dw_seq ?_; refine dwk [(6, .v (.int .i64 (↑l.length))), (7, .v (.bool true))] TPR_ok hnt fun K hK => ?_; refine And.intro (dintE (by rw [ePrs_len])) ?_; refine And.intro auT ?_; refine hK _ _ ?_; clear hK K; refine dw_cond (t := true) rfl ?_; rw [if_pos rfl]; refine dw_skip ?_; refine dw_seq ?_; refine dw_block ?_; refine dw_seq ?_; refine dwkD [(12, .q [.sl 2 (eTys p.l.binds) none, .v (.int .i64 p.l.kind), .v (.int .i64 p.l.index), .sl 4 (eTms p.l.args) none, .sl 2 (eTys p.r.binds) none, .v (.int .i64 p.r.kind), .v (.int .i64 p.r.index), .sl 4 (eTms p.r.args) none, .sl 2 (eTys p.m) none]), (17, .q [.sl 2 (eTys p.l.binds) none, .v (.int .i64 p.l.kind), .v (.int .i64 p.l.index), .sl 4 (eTms p.l.args) none, .sl 2 (eTys p.r.binds) none, .v (.int .i64 p.r.kind), .v (.int .i64 p.r.index), .sl 4 (eTms p.r.args) none, .sl 2 (eTys p.m) none]), (20, .sl 4 (eTms [p.l, p.r]) none), (24, .ag [.v (.int .i64 0), .sl 2 (eTys []) none, .sl 2 (eTys []) none]), (27, .q [.sl 2 (eTys p.l.binds) none, .v (.int .i64 p.l.kind), .v (.int .i64 p.l.index), .sl 4 (eTms p.l.args) none, .sl 2 (eTys p.r.binds) none, .v (.int .i64 p.r.kind), .v (.int .i64 p.r.index), .sl 4 (eTms p.r.args) none, .sl 2 (eTys p.m) none]), (36, .q [.sl 2 (eTys p.l.binds) none, .v (.int .i64 p.l.kind), .v (.int .i64 p.l.index), .sl 4 (eTms p.l.args) none, .sl 2 (eTys p.r.binds) none, .v (.int .i64 p.r.kind), .v (.int .i64 p.r.index), .sl 4 (eTms p.r.args) none, .sl 2 (eTys p.m) none]), (41, .q [.sl 2 (eTys p.l.binds) none, .v (.int .i64 p.l.kind), .v (.int .i64 p.l.index), .sl 4 (eTms p.l.args) none, .sl 2 (eTys p.r.binds) none, .v (.int .i64 p.r.kind), .v (.int .i64 p.r.index), .sl 4 (eTms p.r.args) none, .sl 2 (eTys p.m) none]), (44, .sl 4 (eTms [p.l, p.r]) none)] TPR_ok hnt fun K hK => ?_
      refine And.intro (⟨by omega, by rw [ePrs_len]; omega⟩) ?_; refine And.intro (VLe.of_eq (by rw [Int.toNat_natCast, hgd])) ?_; refine And.intro (⟨by omega, by rw [ePrs_len]; omega⟩) ?_; refine And.intro (VLe.of_eq (by rw [Int.toNat_natCast, hgd])) ?_; refine And.intro ((by rw [e2]; exact VLe.untag _ _ _)) ?_; refine dcl (hF) ?_; refine And.intro (auV) ?_; refine And.intro (⟨by omega, by rw [ePrs_len]; omega⟩) ?_
      refine And.intro (VLe.of_eq (by rw [Int.toNat_natCast, hgd])) ?_; refine dcl (hS) ?_; refine And.intro (⟨by omega, by rw [ePrs_len]; omega⟩) ?_; refine And.intro (VLe.of_eq (by rw [Int.toNat_natCast, hgd])) ?_; refine And.intro (⟨by omega, by rw [ePrs_len]; omega⟩) ?_; refine And.intro (VLe.of_eq (by rw [Int.toNat_natCast, hgd])) ?_; refine And.intro ((by rw [e2]; exact VLe.untag _ _ _)) ?_; refine dcl (hL) ?_
      refine hK _ _ (by kernel_rfl) ?_; clear hK K; refine dw_cond (t := false) rfl ?_; rw [if_neg (by simp)]; refine dw_skip ?_; refine dwk [(9, .v (.int .i64 (↑(j + 1))))] TPR_ok hnt fun K hK => ?_; refine And.intro auI ?_; refine hK _ _ ?_; clear hK K
      refine ⟨⟨j + 1, fun i h1' h2' => if e : i = j then by subst e; rw [hp, fewP, h1, h2, h3]; rfl else hj i h1' (by omega)⟩, by first | omega | (dsimp only; omega), VS.toA⟩
  ·have ha : l.all fewP = true := by
    rw [List.all_eq_true]
    intro t ht
    obtain ⟨i, hi, rfl⟩ := List.getElem_of_mem ht
    exact hj i hi (by omega)
   rw [ha]
   refine dw_seq ?_; refine dw_seq ?_; refine dwk [(6, .v (.int .i64 (↑l.length))), (7, .v (.bool false))] TPR_ok hnt fun K hK => ?_; refine And.intro (dintE (by rw [ePrs_len])) ?_; refine And.intro auF ?_; refine hK _ _ ?_; clear hK K; refine dw_cond (t := false) rfl ?_; rw [if_neg (by simp)]; refine dw_exit ?_; refine dw_seq ?_; refine dwk [] TPR_ok hnt fun K hK => ?_; refine hK _ _ ?_; clear hK K; refine dw_ret ?_
   exact reta rfl
end Go.Proofs.Ytcblpjheoclkeaa

namespace Go.Proofs.Ytcblpjheoclkeaa
open Go.RowKit Go.ChangeShapes Go.WideShapes Go.ChangeAt

theorem cellsP17 : Try.prog.cellsOf 62 = 9 := by kernel_rfl
theorem nine_of {α : Type} {cs : List α} (h : cs.length = 9) : ∃ a b c d e f g i j, cs = [a, b, c, d, e, f, g, i, j] := by
  match cs, h with
  | [a, b, c, d, e, f, g, i, j], _ => exact ⟨a, b, c, d, e, f, g, i, j, rfl⟩
structure IsP17 (F : Nat → Prop) (w : World) (v1 v2 v3 v4 v5 v6 v7 v8 v9 : Value) (p : Li.Pr) : Prop where
  l : IsTm F w v1 v2 v3 v4 p.l
  r : IsTm F w v5 v6 v7 v8 p.r
  m : IsSl rpTy F w v9 p.m
set_option maxRecDepth 100000 in
theorem openP17 {H : Type} {enc : TypeId × Value → H} {W : World} {base : Nat} {sp : Nat → Bool} {hd : Bool} {r : Reach} {b0 : Nat} {v : Value} {d : DataW H} {p : List MemPlace}
    (hval : Value.okWide Try.prog W r b0 62 v) (h : DataW.Trod enc Try.prog W base sp hd 62 v d p) :
    ∃ v1 v2 v3 v4 v5 v6 v7 v8 v9 q, v = .agg #[v1, v2, v3, v4, v5, v6, v7, v8, v9] ∧ IsP17 (fun _ => True) W v1 v2 v3 v4 v5 v6 v7 v8 v9 q ∧ (q.l.Fit ∧ q.r.Fit) := by
  obtain ⟨n, h⟩ := h
  obtain ⟨xs, m, _, _, hl, hlen, hf⟩ := DataW.trod_struct Try.underlying62 h
  rw [cellsP17] at hl
  obtain ⟨v0, v1, v2, v3, v4, v5, v6, v7, v8, hv⟩ := nine_of hl
  rw [hv] at hf
  have h0 : DataW.trod enc Try.prog W base sp hd m 27 ([v0, v1, v2, v3, v4, v5, v6, v7, v8].take (Try.prog.cellsOf 27)) = xs[0]? := hf 0 _ rfl
  have h1 : DataW.trod enc Try.prog W base sp hd m 27 ([v4, v5, v6, v7, v8].take (Try.prog.cellsOf 27)) = xs[1]? := hf 1 _ rfl
  have h2 : DataW.trod enc Try.prog W base sp hd m 22 ([v8].take (Try.prog.cellsOf 22)) = xs[2]? := hf 2 _ rfl
  rw [cellsTerm] at h0 h1
  rw [cellsSR] at h2
  have hlen : xs.length = 3 := hlen
  rw [List.getElem?_eq_getElem (by omega)] at h0 h1 h2
  obtain ⟨t, ⟨b, k, j, a, hx, ht⟩, hfit⟩ := rdM enc W base sp hd m _ _ h0
  obtain ⟨t', ⟨b', k', j', a', hx', ht'⟩, hfit'⟩ := rdM enc W base sp hd m _ _ h1
  obtain ⟨ma, mn, mc, M, hmv, _, hM, _⟩ := sl_of_trod Try.underlying22 cellsR (by decide) (fun j hj => rdR enc W base sp hd j) h2
  have e0 : [v0, v1, v2, v3] = [b, k, j, a] := hx
  have e1 : [v4, v5, v6, v7] = [b', k', j', a'] := hx'
  have e2 : [v8] = [.slice ma mn mc] := hmv
  simp only [List.cons.injEq, and_true] at e0 e1 e2
  obtain ⟨rfl, rfl, rfl, rfl⟩ := e0
  obtain ⟨rfl, rfl, rfl, rfl⟩ := e1
  subst e2
  obtain ⟨cs, rfl, _⟩ := okWide_struct Try.underlying62 hval
  refine ⟨_, _, _, _, _, _, _, _, _, ⟨t, t', M⟩, ?_, ⟨ht, ht', hM⟩, hfit, hfit'⟩
  have : cs.toList = [v0, v1, v2, v3, v4, v5, v6, v7, .slice ma mn mc] := hv
  rw [← Array.toList_inj.1 (show cs.toList = (#[v0, v1, v2, v3, v4, v5, v6, v7, .slice ma mn mc] : Array Value).toList from this)]
theorem relP17 {m : Mp} {w : World} {F : Nat → Prop} {v1 v2 v3 v4 v5 v6 v7 v8 v9 : Value} {p : Li.Pr} (h : IsP17 F w v1 v2 v3 v4 v5 v6 v7 v8 v9 p) : Rel m (cellI F w) w (.agg #[v1, v2, v3, v4, v5, v6, v7, v8, v9]) (.ag (ePr p)) := by
  have e : ePr p = eTm p.l ++ (eTm p.r ++ [.sl 2 (eTys p.m) none]) := by rw [eTm_eq, eTm_eq]; rfl
  rw [e]
  exact rel_ag.2 ⟨[v1, v2, v3, v4, v5, v6, v7, v8, v9], rfl, (rel_of_tm cellI_of p.l h.l).append ((rel_of_tm cellI_of p.r h.r).append ⟨relTys h.m, trivial⟩)⟩
end Go.Proofs.Ytcblpjheoclkeaa

namespace Go.Proofs.Ytcblpjheoclkeaa
open Go.RowKit

inductive IsOw (Z : Nat → Prop) (w : World) : (Nat → Prop) → Value → Value → Value → Value → Tm → Prop where
  | mk (U Ub : Nat → Prop) (Us : Nat → Nat → Prop) (bv : Value) (k i : Int) (a : Option Addr) (n c : Nat) (binds : List Ty) (args : List Tm) (bl off : Nat) (PA A : Nat → Option Addr) (PN PC N C : Nat → Nat) (K I : Nat → Int)
      (hb : IsSl rpTy (fun q => U q ∧ Ub q) w bv binds) (hn : args.length = n) (hm : n ≤ maxLen ∧ n ≤ c) (ha : 0 < n → a = some ⟨bl, off, none⟩ ∧ U bl ∧ Z bl ∧ ¬ Ub bl)
      (hr : ∀ i q, i < n → Us i q → U q ∧ q ≠ bl ∧ ¬ Ub q) (hd : ∀ i j q, i < n → j < n → Us i q → Us j q → i = j)
      (h1 : ∀ i, i < n → w.cell? ⟨bl, off + i * 4, none⟩ = some (.slice (PA i) (PN i) (PC i)))
      (h2 : ∀ i, i < n → w.cell? ⟨bl, off + i * 4 + 1, none⟩ = some (.int .i64 (K i)))
      (h3 : ∀ i, i < n → w.cell? ⟨bl, off + i * 4 + 2, none⟩ = some (.int .i64 (I i)))
      (h4 : ∀ i, i < n → w.cell? ⟨bl, off + i * 4 + 3, none⟩ = some (.slice (A i) (N i) (C i)))
      (h5 : ∀ i (h : i < args.length), IsOw Z w (Us i) (.slice (PA i) (PN i) (PC i)) (.int .i64 (K i)) (.int .i64 (I i)) (.slice (A i) (N i) (C i)) args[i]) :
      IsOw Z w U bv (.int .i64 k) (.int .i64 i) (.slice a n c) (.mk binds k i args)
namespace IsOw
variable {Z Z' : Nat → Prop} {w w' : World} {U U' : Nat → Prop} {b k i a : Value} {t : Tm}
theorem keep (h : IsOw Z w U b k i a t) : ∀ {w' : World}, Keep U w w' → IsOw Z w' U b k i a t := by
  induction h with
  | mk U Ub Us bv k i a n c binds args bl off PA A PN PC N C K I hb hn hm ha hr hd h1 h2 h3 h4 h5 ih =>
    intro w' hw
    exact IsOw.mk U Ub Us bv k i a n c binds args bl off PA A PN PC N C K I (hb.keep (hw.weaken fun q h => h.1)) hn hm ha hr hd (fun i hi => hw _ _ _ (ha (by omega)).2.1 (h1 i hi)) (fun i hi => hw _ _ _ (ha (by omega)).2.1 (h2 i hi)) (fun i hi => hw _ _ _ (ha (by omega)).2.1 (h3 i hi)) (fun i hi => hw _ _ _ (ha (by omega)).2.1 (h4 i hi)) fun i hi => ih i hi (hw.weaken fun q h => (hr i q (by omega) h).1)
theorem weaken (h : IsOw Z w U b k i a t) : ∀ {U' : Nat → Prop}, (∀ q, q < w.heap.size → U q → U' q) → IsOw Z w U' b k i a t := by
  induction h with
  | mk U Ub Us bv k i a n c binds args bl off PA A PN PC N C K I hb hn hm ha hr hd h1 h2 h3 h4 h5 ih =>
    intro U' hF
    exact IsOw.mk U' Ub (fun i q => Us i q ∧ U' q) bv k i a n c binds args bl off PA A PN PC N C K I (hb.weaken (by decide) fun q hq h => ⟨hF q hq h.1, h.2⟩) hn hm
      (fun h => ⟨(ha h).1, hF _ (Keep.lt (h1 0 h)) (ha h).2.1, (ha h).2.2⟩) (fun i q hi h => ⟨h.2, (hr i q hi h.1).2⟩) (fun i j q hi hj h h' => hd i j q hi hj h.1 h'.1) h1 h2 h3 h4
      fun i hi => ih i hi fun q hq h => ⟨h, hF q hq (hr i q (by omega) h).1⟩
theorem rows (h : IsOw Z w U b k i a t) (hZ : ∀ q, Z q → Z' q) : IsOw Z' w U b k i a t := by
  induction h with
  | mk U Ub Us bv k i a n c binds args bl off PA A PN PC N C K I hb hn hm ha hr hd h1 h2 h3 h4 h5 ih =>
    exact IsOw.mk U Ub Us bv k i a n c binds args bl off PA A PN PC N C K I hb hn hm (fun h => ⟨(ha h).1, (ha h).2.1, hZ _ (ha h).2.2.1, (ha h).2.2.2⟩) hr hd h1 h2 h3 h4 ih
theorem tm (h : IsOw Z w U b k i a t) : ∀ {F : Nat → Prop}, (∀ q, U q → F q) → IsTm F w b k i a t := by
  induction h with
  | mk U Ub Us bv k i a n c binds args bl off PA A PN PC N C K I hb hn hm ha hr hd h1 h2 h3 h4 h5 ih =>
    intro F hF
    exact IsTm.mk bv k i a n c binds args bl off PA A PN PC N C K I (hb.weaken (by decide) fun q _ h => hF q h.1) hn hm (fun h => ⟨(ha h).1, hF _ (ha h).2.1⟩) h1 h2 h3 h4 fun i hi => ih i hi fun q h => hF q (hr i q (by omega) h).1
end IsOw
structure OL where
  t : Tm
  lo : Nat
  hi : Nat
  Z : Nat → Prop
def OL.U (l : OL) (q : Nat) : Prop := l.lo ≤ q ∧ q < l.hi
def rpOw : Rp OL where
  n := 4
  R F w x l := ∃ b k i a, x = [b, k, i, a] ∧ IsOw l.Z w (fun q => l.U q ∧ F q) b k i a l.t
  len := by rintro F w x a ⟨b, k, i, a, rfl, _⟩; rfl
  one := by
    rintro F w x a ⟨b, k, i, a, rfl, h⟩ u hu
    have := (h.tm (F := fun _ => True) fun _ _ => trivial).one
    simp at hu
    rcases hu with rfl | rfl | rfl | rfl
    · exact this.1
    · exact this.2.1
    · exact this.2.2.1
    · exact this.2.2.2
  keep := by rintro F w w' x a ⟨b, k, i, a, rfl, h⟩ hk; exact ⟨b, k, i, a, rfl, h.keep (hk.weaken fun q h => h.2)⟩
  weaken := by rintro F F' w x a ⟨b, k, i, a, rfl, h⟩ hk; exact ⟨b, k, i, a, rfl, h.weaken fun q hq h => ⟨h.1, hk q hq h.2⟩⟩
def Free (w : World) (lo hi : Nat) (Z : Nat → Prop) : Prop := ∀ q, Z q → (lo ≤ q ∧ q < hi) ∧ ∀ o, w.frozen? ⟨q, o, none⟩ = false
theorem Free.same {w w' : World} {lo hi : Nat} {Z : Nat → Prop} (h : Free w lo hi Z) (hs : ∀ q, lo ≤ q → q < hi → w'.heap[q]? = w.heap[q]?) : Free w' lo hi Z := fun q hz =>
  ⟨(h q hz).1, fun o => (World.frozen?_of_block (a := ⟨q, o, none⟩) (hs q (h q hz).1.1 (h q hz).1.2)).trans ((h q hz).2 o)⟩
structure Lies (w : World) (N : Nat) (v : Value) (L : List OL) : Prop where
  lo : ∀ l ∈ L, N ≤ l.lo
  hi : ∀ l ∈ L, l.hi ≤ w.heap.size
  pw : L.Pairwise fun l r => l.hi ≤ r.lo
  own : ∀ l ∈ L, ∀ g, v.ownBlock = some g → ¬ (l.lo ≤ g ∧ g < l.hi)
  fr : ∀ l ∈ L, Free w l.lo l.hi l.Z
theorem Lies.nil (w : World) (N : Nat) (v : Value) : Lies w N v [] := ⟨nofun, nofun, .nil, nofun, nofun⟩
theorem Lies.same {w w' : World} {N : Nat} {v : Value} {L : List OL} (h : Lies w N v L) (hs : w.heap.size ≤ w'.heap.size) (hb : ∀ q, N ≤ q → q < w.heap.size → v.ownBlock ≠ some q → w'.heap[q]? = w.heap[q]?) : Lies w' N v L :=
  ⟨h.lo, fun l hl => Nat.le_trans (h.hi l hl) hs, h.pw, h.own, fun l hl => (h.fr l hl).same fun q h1 h2 => hb q (Nat.le_trans (h.lo l hl) h1) (Nat.lt_of_lt_of_le h2 (h.hi l hl)) fun e => h.own l hl q e ⟨h1, h2⟩⟩
theorem Lies.push {w w' : World} {N : Nat} {v v' : Value} {L : List OL} {l : OL} (h : Lies w N v L) (hN : N ≤ l.lo) (hh : l.hi ≤ w.heap.size) (hf : Free w l.lo l.hi l.Z) (hl : ∀ r ∈ L, r.hi ≤ l.lo) (ho : ∀ g, v.ownBlock = some g → g < l.lo)
    (hg : w.grownBy w' v.ownBlock) (hat : ∀ g, v'.ownBlock = some g → v.ownBlock = some g ∨ g = w.heap.size) : Lies w' N v' (L ++ [l]) := by
  have hfr : ∀ r : OL, r.hi ≤ w.heap.size → (∀ g, v.ownBlock = some g → ¬ (r.lo ≤ g ∧ g < r.hi)) → Free w r.lo r.hi r.Z → Free w' r.lo r.hi r.Z := fun r h1 h2 h3 => h3.same fun q h4 h5 => hg.block q (by omega) fun e => h2 q e.symm ⟨h4, h5⟩
  refine ⟨fun r hr => ?_, fun r hr => ?_, ?_, fun r hr g hg' => ?_, fun r hr => ?_⟩
  · rcases List.mem_append.1 hr with hr | hr
    · exact h.lo r hr
    · rw [List.mem_singleton.1 hr]; exact hN
  · rcases List.mem_append.1 hr with hr | hr
    · exact Nat.le_trans (h.hi r hr) hg.size
    · rw [List.mem_singleton.1 hr]; exact Nat.le_trans hh hg.size
  · rw [List.pairwise_append]
    refine ⟨h.pw, List.pairwise_singleton _ _, fun r hr x hx => ?_⟩
    rw [List.mem_singleton.1 hx]
    exact hl r hr
  · rcases List.mem_append.1 hr with hr | hr
    · rcases hat g hg' with e | e
      · exact h.own r hr g e
      · have := h.hi r hr; omega
    · rw [List.mem_singleton.1 hr]
      rcases hat g hg' with e | e
      · have := ho g e; omega
      · omega
  · rcases List.mem_append.1 hr with hr | hr
    · exact hfr r (h.hi r hr) (h.own r hr) (h.fr r hr)
    · have he := List.mem_singleton.1 hr
      subst he
      exact hfr r hh (fun g e => by have := ho g e; omega) hf
theorem Acc.free {α : Type} {r : Rp α} {E base : Nat} {F : Nat → Prop} {w : World} {v : Value} {l : List α} (h : Acc r E base F w v l) {g : Nat} (hg : v.ownBlock = some g) : ∀ o, w.frozen? ⟨g, o, none⟩ = false := by
  obtain ⟨X, h1, h2, h3⟩ := h
  rcases h2.2 with ⟨rfl, h0⟩ | ⟨g', cap, cur, rfl, _, hh, _⟩
  · cases hg
  · cases hg
    exact fun o => Blk.free (w := w) hh o
theorem isOw_mk {w : World} {bv v : Value} {binds : List Ty} {L : List OL} {E base N : Nat} {F U : Nat → Prop} (hb : IsSl rpTy (fun q => U q ∧ q < N) w bv binds) (h : Acc rpOw E base F w v L) (hL : Lies w N v L) (hF : ∀ q, F q → N ≤ q) (hN : N ≤ base) (hU : ∀ q, N ≤ q → q < w.heap.size → U q) (k i : Int) :
    ∃ Z : Nat → Prop, IsOw Z w U bv (.int .i64 k) (.int .i64 i) v (.mk binds k i (L.map (·.t))) ∧ ∀ lo hi, lo ≤ N → w.heap.size ≤ hi → Free w lo hi Z := by
  have hsl := h.sl (F' := fun q => N ≤ q) (fun q _ hf => hF q hf) fun q hq => Nat.le_trans hN hq
  have hfree := fun g (hg : v.ownBlock = some g) => (⟨h.base_le g hg, h.free hg⟩ : (base ≤ g ∧ g < w.heap.size) ∧ _)
  clear h
  obtain ⟨a, c, bl, off, X, rfl, hl, ha, h1, h2⟩ := hsl
  obtain ⟨Z, hZ⟩ : ∃ Z : Nat → Prop, Z = fun q => Value.ownBlock (.slice a L.length c) = some q ∨ ∃ l ∈ L, l.Z q := ⟨_, rfl⟩
  obtain ⟨Us, hUs⟩ : ∃ Us : Nat → Nat → Prop, Us = fun i q => q < w.heap.size ∧ ∃ h : i < L.length, L[i].U q := ⟨_, rfl⟩
  let PA : Nat → Option Addr := fun i => match (X i).getD 0 default with | .slice a _ _ => a | _ => none
  let PN : Nat → Nat := fun i => match (X i).getD 0 default with | .slice _ n _ => n | _ => 0
  let PC : Nat → Nat := fun i => match (X i).getD 0 default with | .slice _ _ c => c | _ => 0
  let K : Nat → Int := fun i => match (X i).getD 1 default with | .int _ b => b | _ => 0
  let I : Nat → Int := fun i => match (X i).getD 2 default with | .int _ b => b | _ => 0
  let A : Nat → Option Addr := fun i => match (X i).getD 3 default with | .slice a _ _ => a | _ => none
  let N' : Nat → Nat := fun i => match (X i).getD 3 default with | .slice _ n _ => n | _ => 0
  let C : Nat → Nat := fun i => match (X i).getD 3 default with | .slice _ _ c => c | _ => 0
  have hx : ∀ i (h : i < L.length), X i = [.slice (PA i) (PN i) (PC i), .int .i64 (K i), .int .i64 (I i), .slice (A i) (N' i) (C i)] ∧ IsOw L[i].Z w (fun q => L[i].U q ∧ N ≤ q) (.slice (PA i) (PN i) (PC i)) (.int .i64 (K i)) (.int .i64 (I i)) (.slice (A i) (N' i) (C i)) L[i].t := fun i hi => by
    obtain ⟨b', k', i', a', hx, ht⟩ := h2 i hi
    obtain ⟨pa, pc, qa, qc, rfl, rfl, rfl, rfl⟩ := (ht.tm (F := fun _ => True) fun _ _ => trivial).shape
    have e1 : PA i = pa := by simp [PA, hx]
    have e2 : PN i = L[i].t.binds.length := by simp [PN, hx]
    have e3 : PC i = pc := by simp [PC, hx]
    have e4 : K i = L[i].t.kind := by simp [K, hx]
    have e5 : I i = L[i].t.index := by simp [I, hx]
    have e6 : A i = qa := by simp [A, hx]
    have e7 : N' i = L[i].t.args.length := by simp [N', hx]
    have e8 : C i = qc := by simp [C, hx]
    rw [e1, e2, e3, e4, e5, e6, e7, e8]; exact ⟨hx, ht⟩
  have hmem : ∀ i (h : i < L.length), L[i] ∈ L := fun i h => List.getElem_mem h
  have c1 : ∀ i, i < L.length → w.cell? ⟨bl, off + i * 4, none⟩ = some (.slice (PA i) (PN i) (PC i)) := fun i hi => h1 i 0 _ hi (by rw [(hx i hi).1]; rfl)
  have how : 0 < L.length → Value.ownBlock (.slice a L.length c) = some bl := fun h => by rw [(ha h).1]; rfl
  refine ⟨Z, IsOw.mk U (fun q => q < N) Us bv k i a L.length c binds (L.map (·.t)) bl off PA A PN PC N' C K I hb (by simp) hl (fun h0 => ⟨(ha h0).1, hU _ (ha h0).2 (Keep.lt (c1 0 h0)), ?_, by have := (ha h0).2; simp at this; omega⟩) (fun i q hi h => ?_) (fun i j q hi hj h h' => ?_) c1 (fun i hi => ?_) (fun i hi => ?_) (fun i hi => ?_) (fun i hi => ?_), fun lo hi' hlo hhi q hq => ?_⟩
  · rw [hZ]; exact .inl (how h0)
  · rw [hUs] at h
    obtain ⟨g1, _, g2⟩ := h
    have g3 := hL.lo _ (hmem i hi)
    unfold OL.U at g2
    refine ⟨hU q (by omega) g1, fun e => ?_, by omega⟩
    subst e
    exact hL.own _ (hmem i hi) q (how (by omega)) g2
  · rw [hUs] at h h'
    obtain ⟨_, _, g2⟩ := h
    obtain ⟨_, _, g2'⟩ := h'
    unfold OL.U at g2 g2'
    have pw := List.pairwise_iff_getElem.1 hL.pw
    rcases Nat.lt_trichotomy i j with e | e | e
    · have := pw i j hi hj e; omega
    · exact e
    · have := pw j i hj hi e; omega
  · exact h1 i 1 _ hi (by rw [(hx i hi).1]; rfl)
  · exact h1 i 2 _ hi (by rw [(hx i hi).1]; rfl)
  · exact h1 i 3 _ hi (by rw [(hx i hi).1]; rfl)
  · have hi' : i < L.length := by simpa using hi
    rw [List.getElem_map]
    refine ((hx i hi').2.weaken fun q hq h => ?_).rows fun q hq => ?_
    · rw [hUs]; exact ⟨hq, hi', h.1⟩
    · rw [hZ]; exact .inr ⟨_, hmem i hi', hq⟩
  · rw [hZ] at hq
    rcases hq with hq | ⟨l, hl, hq⟩
    · obtain ⟨⟨g1, g2⟩, g3⟩ := hfree q hq
      exact ⟨by omega, g3⟩
    · obtain ⟨⟨g1, g2⟩, g3⟩ := hL.fr l hl q hq
      have := hL.lo l hl
      have := hL.hi l hl
      exact ⟨by omega, g3⟩
end Go.Proofs.Ytcblpjheoclkeaa

