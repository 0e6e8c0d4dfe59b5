/-
  How many types and terms: exactly what the reference counts. How many terms: exactly what the reference counts; the laws' Few. What the laws' Few tells of a term. The laws' Small (seats without Chk9). Types and terms of the laws, there and back, walked in the deep way. Pairs of terms with the types of their metavariables (rule.Pair, filigreeref17.Pair), and the laws' helpers for them: To, Of, Same, Few. The readings of a row's arguments that are pairs of terms with their metavariables' types. Package rule, walked in the deep way: met, term. Terms that are the same, as deep contracts. Package rule, walked in the deep way: Own, Of, Equal, Variant. The document's uses, and what is taken out, walked in the deep way. The document's numbers of a pair (order, renamed) are those of package rule. The document's answer of layer 17: order, renamed, Own, Variant. Package lift, walked in the deep way: variables, each, term. A loop over a function, whose round writes to what its own assignment laid. The reference's loose indexes, and terms that grow. The document's heads of a term. The document's Heads and Count. term.Count. slices.Sort and slices.Compact of ints of the call's own; what they hand back rises. A function that has run loops over functions leaves with a mark for each; rows of ints that grow within such rounds. term.Metas.
-/
import Derived.Test.YtnpjjkeokcoedaaRowLiftKeepsp5
import Derived.Test.YtnpjjkeokcoedaaRowLiftKeepsp4
import Derived.Test.YtnpjjkeokcoedaaRowLiftKeepsp1
import Derived.Deep.QuietTactic
import Derived.BigQuiet
import Derived.WalkSmall
import Derived.Lib.OwnBridge
import Derived.Sort.OwnSortedInts
import Derived.RangeFuncBox
set_option maxRecDepth 100000
set_option maxHeartbeats 1000000
set_option linter.unusedVariables false
set_option linter.unusedSimpArgs false
namespace Go.Proofs.Ytnpjjkeokcoedaa
open Go.RowKit
def TF4_3 : TI := ⟨1, false, [Value.int IntKind.i64 0], [], none, 8, 2, none, false⟩
theorem TF4_3_ok : TypOk Try.prog 3 TF4_3 := ⟨by kernel_rfl, by kernel_rfl, by kernel_rfl, by kernel_rfl, by kernel_rfl⟩
def TF4_69 : TI := ⟨2, true, [Value.slice none 0 0, Value.int IntKind.i64 0], [(0, 1, false), (1, 1, false)], none, 32, 6, none, false⟩
theorem TF4_69_ok : TypOk Try.prog 69 TF4_69 := ⟨by kernel_rfl, by kernel_rfl, by kernel_rfl, by kernel_rfl, by kernel_rfl⟩
def TF4_22 : TI := ⟨1, false, [Value.slice none 0 0], [], some 69, 24, 5, none, false⟩
theorem TF4_22_ok : TypOk Try.prog 22 TF4_22 := ⟨by kernel_rfl, by kernel_rfl, by kernel_rfl, by kernel_rfl, by kernel_rfl⟩
def TF4 : List (Nat × TI) := [(3, TF4_3), (69, TF4_69), (22, TF4_22)]
theorem TF4_ok : TabOk Try.prog TF4 := ((((TabOk.nil _).cons TF4_22_ok).cons TF4_69_ok).cons TF4_3_ok)

mutual
def fewT (most : Int) : Ty → Int → Int
  | .mk a _, d => if d ≤ 0 then most + 1 else fewTs most a (d - 1) 1
def fewTs (most : Int) : List Ty → Int → Int → Int
  | [], _, n => n
  | t :: l, d, n => if n ≤ most then fewTs most l d (n + fewT most t d) else n
end
theorem fewTs_le {most : Int} (hm : 0 ≤ most) {B : Int} (hB : 0 ≤ B) : ∀ (l : List Ty) (d n : Int), (∀ t ∈ l, 1 ≤ fewT most t d ∧ fewT most t d ≤ B) → 1 ≤ n → n ≤ most + B → 1 ≤ fewTs most l d n ∧ fewTs most l d n ≤ most + B
  | [], d, n, _, h0, h1 => by rw [fewTs]; exact ⟨h0, h1⟩
  | t :: l, d, n, h, h0, h1 => by
    rw [fewTs]
    split
    · have := h t (by simp)
      exact fewTs_le hm hB l d _ (fun u hu => h u (by simp [hu])) (by omega) (by omega)
    · exact ⟨h0, h1⟩
theorem fewT_le {most : Int} (hm : 1 ≤ most) : ∀ (k : Nat) (t : Ty) (d : Int), d ≤ k → 1 ≤ fewT most t d ∧ fewT most t d ≤ most * k + most + 1
  | 0, .mk a b, d, hd => by
    rw [fewT, if_pos (by omega)]
    have e : most * ((0 : Nat) : Int) = 0 := Int.mul_zero _
    rw [e]; omega
  | k + 1, .mk a b, d, hd => by
    rw [fewT]
    have e : most * ((k + 1 : Nat) : Int) = most * (k : Int) + most := by rw [Int.natCast_add, Int.mul_add]; simp
    have h0 : 0 ≤ most * (k : Int) := Int.mul_nonneg (by omega) (by omega)
    split
    · rw [e]; omega
    · have := fewTs_le (most := most) (by omega) (B := most * k + most + 1) (by omega) a (d - 1) 1 (fun t _ => fewT_le hm k t (d - 1) (by omega)) (by omega) (by omega)
      rw [e]; omega
set_option maxHeartbeats 1000000 in
theorem few4_d (most : Int) (h1 : 1 ≤ most) (h2 : most ≤ 1000) : ∀ (t : Ty) (d : Int), -1000 ≤ d → d ≤ 1000 → PureC Try.prog 43 [.ag (eTy t), .v (.int .i64 most), .v (.int .i64 d)] (.v (.int .i64 (fewT most t d))) := by
 intro t
 induction t using Ty.ind with
 | h a b ih =>
 intro d hd1 hd2
 refine call_of_dw 0 37 [ResultVar.tmp 6] TF4_ok (by kernel_rfl) Try.func43 rfl Try.ntmps43 rfl (by simp) ?dwords ?dbody
 case dwords => simp [wordsOk, D.ok, D.oks, rnames, eTy_ok]
 case dbody =>
  intro cx hnt hn0
  refine dw_seq ?_; refine dwk [] TF4_ok hnt fun K hK => ?_; refine hK _ _ ?_; clear hK K; refine dw_seq (dw_seq ?_)
  by_cases hd : d ≤ 0
  ·have hf : fewT most (.mk a b) d = most + 1 := by rw [fewT, if_pos hd]
   rw [hf]
   refine dwk [(10, .v (.bool true))] TF4_ok hnt fun K hK => ?_; refine And.intro (dtrue hd) ?_; refine hK _ _ ?_; clear hK K; refine dw_cond (t := true) rfl ?_; rw [if_pos rfl]; refine dw_seq ?_; refine dwk [(12, .v (.int .i64 (most + 1)))] TF4_ok hnt fun K hK => ?_; refine And.intro (dintE (IntWalk.i64_in _ (by omega))) ?_; refine hK _ _ ?_; clear hK K; refine dw_ret ?_
   exact retv (N := 0) (.inr rfl) rfl (VLe.refl _) trivial
  ·have hf : fewT most (.mk a b) d = fewTs most a (d - 1) 1 := by rw [fewT, if_neg hd]
   rw [hf]
   refine dwk [(10, .v (.bool false))] TF4_ok hnt fun K hK => ?_; refine And.intro (dfalse hd) ?_; refine hK _ _ ?_; clear hK K; refine dw_cond (t := false) rfl ?_; rw [if_neg (by simp)]; refine dw_skip ?_; refine dw_seq ?_; refine dwk [] TF4_ok hnt fun K hK => ?_; refine hK _ _ ?_; clear hK K; refine dw_seq (dw_seq ?_); refine dwk [] TF4_ok hnt fun K hK => ?_; refine hK _ _ ?_; clear hK K; refine dw_block ?_
   refine dw_loop (ι := { p : Nat × Int // fewTs most (a.drop p.1) (d - 1) p.2 = fewTs most a (d - 1) 1 ∧ (p.1 : Int) + 1 ≤ p.2 ∧ p.2 ≤ 2000000 ∧ p.1 ≤ a.length }) (fun p => [(.t 1, .v (.int .i64 most)), (.t 2, .v (.int .i64 d)), (.t 3, .p 0 0), (.t 7, .v (.int .i64 p.1.2)), (.t 8, .v (.int .i64 (p.1.1 : Int))), (.c 0 0, .sl 2 (eTys a) none), (.c 0 1, .v (.int .i64 b))]) 1 (fun p => a.length - p.1.1) ⟨(0, 1), by simp, by simp, by simp, by simp⟩ VS.toA fun p => ?_
   obtain ⟨⟨j, n⟩, hj1, hj2, hj3, hj4⟩ := p
   dsimp only at hj1 hj2 hj3 hj4 ⊢
   refine dw_seq (dw_seq ?_)
   by_cases hlt : j < a.length
   ·have hdr : a.drop j = a[j] :: a.drop (j + 1) := List.drop_eq_getElem_cons hlt
    rw [hdr, fewTs] at hj1
    by_cases hn : n ≤ most
    ·rw [if_pos hn] at hj1
     have hih := ih a[j] (List.getElem_mem hlt) (d - 1) (by omega) (by omega)
     rw [eTy_eq] at hih
     have hbd := fewT_le h1 1000 a[j] (d - 1) (by omega)
     have hbd2 : most * ((1000 : Nat) : Int) ≤ 1000000 := by
      have : most * ((1000 : Nat) : Int) = 1000 * most := by rw [Int.mul_comm]; rfl
      omega
     refine dwk [(17, .v (.bool true)), (21, .v (.bool true))] TF4_ok hnt fun K hK => ?_; refine And.intro (dtrue (by rw [eTys_len]; omega)) ?_; refine And.intro (dtrue hn) ?_; refine hK _ _ ?_; clear hK K; refine dw_cond (t := true) rfl ?_; rw [if_pos rfl]; refine dw_skip ?_; refine dw_seq (dw_block ?_); refine dwk [(29, .q [.sl 2 (eTys a[j].args) none, .v (.int .i64 a[j].base)]), (33, .v (.int .i64 (d - 1))), (35, .v (.int .i64 (n + fewT most a[j] (d - 1))))] TF4_ok hnt fun K hK => ?_
     refine And.intro (⟨by omega, by rw [eTys_len]; omega⟩) ?_; refine And.intro (VLe.of_eq (by rw [Int.toNat_natCast, eTys_getD a j hlt, eTy_eq])) ?_; refine And.intro (dintE (IntWalk.i64_in _ (by omega))) ?_; refine dcl (hih) ?_; refine And.intro (dintE (IntWalk.i64_in _ (by omega))) ?_; refine hK _ _ ?_; clear hK K; refine dwk [(24, .v (.int .i64 ((j + 1 : Nat) : Int)))] TF4_ok hnt fun K hK => ?_; refine And.intro (dintE (by rw [IntWalk.i64_in _ (by omega)]; omega)) ?_
     refine hK _ _ ?_; clear hK K
     exact ⟨⟨(j + 1, n + fewT most a[j] (d - 1)), hj1, by dsimp only; omega, by dsimp only; omega, hlt⟩, by dsimp only; omega, VS.toA⟩
    ·rw [if_neg hn] at hj1
     rw [← hj1]
     refine dwk [(17, .v (.bool true)), (21, .v (.bool false))] TF4_ok hnt fun K hK => ?_; refine And.intro (dtrue (by rw [eTys_len]; omega)) ?_; refine And.intro (dfalse hn) ?_; refine hK _ _ ?_; clear hK K; refine dw_cond (t := false) rfl ?_; rw [if_neg (by simp)]; refine dw_exit ?_; refine dw_seq ?_; refine dwk [] TF4_ok hnt fun K hK => ?_; refine hK _ _ ?_; clear hK K; refine dw_ret ?_
     exact retv (N := 0) (.inr rfl) rfl (VLe.refl _) trivial
   ·rw [List.drop_eq_nil_of_le (by omega), fewTs] at hj1
    rw [← hj1]
    refine dwk [(17, .v (.bool false))] TF4_ok hnt fun K hK => ?_; refine And.intro (dfalse (by rw [eTys_len]; omega)) ?_; refine hK _ _ ?_; clear hK K; refine dw_cond (t := false) rfl ?_; rw [if_neg (by simp)]; refine dw_exit ?_; refine dw_seq ?_; refine dwk [] TF4_ok hnt fun K hK => ?_; refine hK _ _ ?_; clear hK K; refine dw_ret ?_
    exact retv (N := 0) (.inr rfl) rfl (VLe.refl _) trivial
theorem fewTs_size {most : Int} : ∀ (l : List Ty) (d n : Int), (∀ t ∈ l, fewT most t d ≤ most → (t.size : Int) = fewT most t d) → (∀ t ∈ l, 1 ≤ fewT most t d) → 1 ≤ n → fewTs most l d n ≤ most → fewTs most l d n = n + Ty.sizes l
  | [], d, n, _, _, _, _ => by rw [fewTs]; simp [Ty.sizes]
  | t :: l, d, n, h, h1, hn, hf => by
    rw [fewTs] at hf ⊢
    split at hf
    · rename_i hm
      rw [if_pos hm]
      have h2 := h1 t (by simp)
      have h3 := fewTs_size l d _ (fun u hu => h u (by simp [hu])) (fun u hu => h1 u (by simp [hu])) (by omega) hf
      have h4 : fewT most t d ≤ most := by omega
      have h5 := h t (by simp) h4
      rw [h3, Ty.sizes]; omega
    · rename_i hm; omega
theorem fewT_size {most : Int} (hm : 1 ≤ most) : ∀ (k : Nat) (t : Ty) (d : Int), d ≤ k → fewT most t d ≤ most → (t.size : Int) = fewT most t d
  | 0, .mk a b, d, hd, h => by rw [fewT, if_pos (by omega)] at h; omega
  | k + 1, .mk a b, d, hd, h => by
    rw [fewT] at h ⊢
    split at h
    · omega
    · rename_i hp
      rw [if_neg hp]
      have := fewTs_size a (d - 1) 1 (fun t _ => fewT_size hm k t (d - 1) (by omega)) (fun t _ => (fewT_le hm k t (d - 1) (by omega)).1) (by omega) h
      rw [this, Ty.size_eq]; omega
theorem Few4_d (most : Int) (h1 : 1 ≤ most) (h2 : most ≤ 1000) (t : Ty) (d : Int) (h3 : -1000 ≤ d) (h4 : d ≤ 1000) : PureC Try.prog 24 [.ag (eTy t), .v (.int .i64 most), .v (.int .i64 d)] (.v (.bool (decide (fewT most t d ≤ most)))) := by
 have h := few4_d most h1 h2 t d h3 h4
 rw [eTy_eq] at h ⊢
 refine call_of_dw 0 13 [ResultVar.tmp 6] TF4_ok (by kernel_rfl) Try.func24 rfl Try.ntmps24 rfl (by simp) ?dwords ?dbody
 case dwords => simp [wordsOk, D.ok, D.oks, rnames, eTys_ok]
 case dbody =>
  intro cx hnt hn0
  refine dw_seq ?_; refine dwk [] TF4_ok hnt fun K hK => ?_; refine hK _ _ ?_; clear hK K; refine dw_seq ?_; refine dwk [] TF4_ok hnt fun K hK => ?_; refine dcl (h) ?_; refine hK _ _ ?_; clear hK K; refine dw_ret ?_
  exact retv (N := 0) (.inr rfl) rfl (VLe.refl _) trivial
set_option maxHeartbeats 1000000 in
theorem Size4_d : ∀ (t : Ty) (_ : t.size ≤ 1000000), PureC Try.prog 73 [.ag (eTy t)] (.v (.int .i64 (t.size : Int))) := by
 intro t
 induction t using Ty.ind with
 | h a b ih =>
 intro hsz
 have hsz2 := Ty.size_eq a b
 refine call_of_dw 0 21 [ResultVar.tmp 2] TF4_ok (by kernel_rfl) Try.func73 rfl Try.ntmps73 rfl (by simp) ?dwords ?dbody
 case dwords => simp [wordsOk, D.ok, D.oks, rnames, eTy_ok]
 case dbody =>
  intro cx hnt hn0
  refine dw_seq ?_; refine dwk [] TF4_ok hnt fun K hK => ?_; refine hK _ _ ?_; clear hK K; refine dw_seq ?_; refine dwk [] TF4_ok hnt fun K hK => ?_; refine hK _ _ ?_; clear hK K; refine dw_seq (dw_seq ?_); refine dwk [] TF4_ok hnt fun K hK => ?_; refine hK _ _ ?_; clear hK K; refine dw_block ?_
  refine dw_loop (ι := { j : Nat // j ≤ a.length }) (fun j => [(.t 1, .p 0 0), (.t 3, .v (.int .i64 ((Ty.sizes (a.take j.1) : Int) + 1))), (.t 4, .v (.int .i64 (j.1 : Int))), (.c 0 0, .sl 2 (eTys a) none), (.c 0 1, .v (.int .i64 b))]) 1 (fun j => a.length - j.1) ⟨0, Nat.zero_le _⟩ VS.toA fun j => ?_
  obtain ⟨j, hj⟩ := j
  dsimp only
  have hst := Ty.sizes_take_le a j
  have hst2 := Ty.sizes_take_le a (j + 1)
  have hla := Ty.le_sizes a
  refine dw_seq (dw_seq ?_)
  by_cases hlt : j < a.length
  ·have hih := ih a[j] (List.getElem_mem hlt) (by have := Ty.size_get (b := b) j hlt; omega)
   rw [eTy_eq] at hih
   have htk := Ty.sizes_take a j hlt
   refine dwk [(9, .v (.bool true))] TF4_ok hnt fun K hK => ?_; refine And.intro (dtrue (by rw [eTys_len]; omega)) ?_; refine hK _ _ ?_; clear hK K; refine dw_cond (t := true) rfl ?_; rw [if_pos rfl]; refine dw_skip ?_; refine dw_seq (dw_block ?_); refine dwk [(16, .q [.sl 2 (eTys a[j].args) none, .v (.int .i64 a[j].base)]), (19, .v (.int .i64 ((Ty.sizes (a.take (j + 1)) : Int) + 1)))] TF4_ok hnt fun K hK => ?_
   refine And.intro (⟨by omega, by rw [eTys_len]; omega⟩) ?_; refine And.intro (VLe.of_eq (by rw [Int.toNat_natCast, eTys_getD a j hlt, eTy_eq])) ?_; refine dcl (hih) ?_; refine And.intro (dintE (by rw [IntWalk.i64_in _ (by omega), htk]; omega)) ?_; refine hK _ _ ?_; clear hK K; refine dwk [(11, .v (.int .i64 ((j + 1 : Nat) : Int)))] TF4_ok hnt fun K hK => ?_; refine And.intro (dintE (by rw [IntWalk.i64_in _ (by omega)]; omega)) ?_
   refine hK _ _ ?_; clear hK K
   exact ⟨⟨j + 1, hlt⟩, by dsimp only; omega, VS.toA⟩
  ·skip
   refine dwk [(9, .v (.bool false))] TF4_ok hnt fun K hK => ?_; refine And.intro (dfalse (by rw [eTys_len]; omega)) ?_; refine hK _ _ ?_; clear hK K; refine dw_cond (t := false) rfl ?_; rw [if_neg (by simp)]; refine dw_exit ?_; refine dw_seq ?_
   have hsz3 : ((Ty.mk a b).size : Int) = (Ty.sizes (a.take j) : Int) + 1 := by rw [List.take_of_length_le (by omega), hsz2]; omega
   rw [hsz3]
   refine dwk [] TF4_ok hnt fun K hK => ?_; refine hK _ _ ?_; clear hK K; refine dw_ret ?_
   exact retv (N := 0) (.inr rfl) rfl (VLe.refl _) trivial
end Go.Proofs.Ytnpjjkeokcoedaa

namespace Go.Proofs.Ytnpjjkeokcoedaa
open Go.RowKit
def TF6_3 : TI := ⟨1, false, [Value.int IntKind.i64 0], [], none, 8, 2, none, false⟩
theorem TF6_3_ok : TypOk Try.prog 3 TF6_3 := ⟨by kernel_rfl, by kernel_rfl, by kernel_rfl, by kernel_rfl, by kernel_rfl⟩
def TF6_29 : TI := ⟨4, true, [Value.slice none 0 0, Value.int IntKind.i64 0, Value.int IntKind.i64 0, Value.slice none 0 0], [(0, 1, false), (1, 2, true), (3, 1, false)], none, 64, 6, none, false⟩
theorem TF6_29_ok : TypOk Try.prog 29 TF6_29 := ⟨by kernel_rfl, by kernel_rfl, by kernel_rfl, by kernel_rfl, by kernel_rfl⟩
def TF6_22 : TI := ⟨1, false, [Value.slice none 0 0], [], some 69, 24, 5, none, false⟩
theorem TF6_22_ok : TypOk Try.prog 22 TF6_22 := ⟨by kernel_rfl, by kernel_rfl, by kernel_rfl, by kernel_rfl, by kernel_rfl⟩
def TF6_27 : TI := ⟨1, false, [Value.slice none 0 0], [], some 29, 24, 5, none, false⟩
theorem TF6_27_ok : TypOk Try.prog 27 TF6_27 := ⟨by kernel_rfl, by kernel_rfl, by kernel_rfl, by kernel_rfl, by kernel_rfl⟩
def TF6_69 : TI := ⟨2, true, [Value.slice none 0 0, Value.int IntKind.i64 0], [(0, 1, false), (1, 1, false)], none, 32, 6, none, false⟩
theorem TF6_69_ok : TypOk Try.prog 69 TF6_69 := ⟨by kernel_rfl, by kernel_rfl, by kernel_rfl, by kernel_rfl, by kernel_rfl⟩
def TF6 : List (Nat × TI) := [(3, TF6_3), (29, TF6_29), (22, TF6_22), (27, TF6_27), (69, TF6_69)]
theorem TF6_ok : TabOk Try.prog TF6 := ((((((TabOk.nil _).cons TF6_69_ok).cons TF6_27_ok).cons TF6_22_ok).cons TF6_29_ok).cons TF6_3_ok)

def fewB1 (most d : Int) : List Ty → Int → Option Int
  | [], n => some n
  | t :: l, n => if n ≤ most then (if fewT most t d ≤ most then fewB1 most d l (n + t.size) else none) else some n
mutual
def fewM (most : Int) : Tm → Int → Int
  | .mk bs _ _ a, d => if d ≤ 0 then most + 1 else match fewB1 most d bs 1 with
    | none => most + 1
    | some n => fewMs most a (d - 1) n
def fewMs (most : Int) : List Tm → Int → Int → Int
  | [], _, n => n
  | t :: l, d, n => if n ≤ most then fewMs most l d (n + fewM most t d) else n
end
theorem fewB1_le {most d : Int} (hm : 1 ≤ most) (hd : d ≤ 1000) : ∀ (l : List Ty) (n : Int), 1 ≤ n → n ≤ 2 * most → ∀ r, fewB1 most d l n = some r → 1 ≤ r ∧ r ≤ 2 * most
  | [], n, h0, h1, r, h => by rw [fewB1] at h; cases h; exact ⟨h0, h1⟩
  | t :: l, n, h0, h1, r, h => by
    rw [fewB1] at h
    split at h
    · split at h
      · rename_i h2
        have := fewT_size hm 1000 t d hd h2
        have := (fewT_le hm 1000 t d hd).1
        exact fewB1_le hm hd l _ (by omega) (by omega) r h
      · cases h
    · cases h; exact ⟨h0, h1⟩
theorem fewMs_le {most : Int} (hm : 1 ≤ most) {B : Int} (hB : most ≤ B) : ∀ (l : List Tm) (d n : Int), (∀ t ∈ l, 1 ≤ fewM most t d ∧ fewM most t d ≤ B) → 1 ≤ n → n ≤ most + B → 1 ≤ fewMs most l d n ∧ fewMs most l d n ≤ most + B
  | [], d, n, _, h0, h1 => by rw [fewMs]; exact ⟨h0, h1⟩
  | t :: l, d, n, h, h0, h1 => by
    rw [fewMs]
    split
    · have := h t (by simp)
      exact fewMs_le hm hB l d _ (fun u hu => h u (by simp [hu])) (by omega) (by omega)
    · exact ⟨h0, h1⟩
theorem fewM_le {most : Int} (hm : 1 ≤ most) : ∀ (k : Nat) (t : Tm) (d : Int), k ≤ 1000 → d ≤ k → 1 ≤ fewM most t d ∧ fewM most t d ≤ most * k + most + 1
  | 0, .mk bs kd i a, d, hk, hd => by
    rw [fewM, if_pos (by omega)]
    have e : most * ((0 : Nat) : Int) = 0 := Int.mul_zero _
    rw [e]; omega
  | k + 1, .mk bs kd i a, d, hk, hd => by
    rw [fewM]
    have e : most * ((k + 1 : Nat) : Int) = most * (k : Int) + most := by rw [Int.natCast_add, Int.mul_add]; simp
    have h0 : 0 ≤ most * (k : Int) := Int.mul_nonneg (by omega) (by omega)
    rw [e]
    split
    · omega
    · cases hb : fewB1 most d bs 1 with
      | none => dsimp only; omega
      | some n =>
        have hn := fewB1_le hm (by omega) bs 1 (by omega) (by omega) n hb
        have := fewMs_le hm (B := most * k + most + 1) (by omega) a (d - 1) n (fun t _ => fewM_le hm k t (d - 1) (by omega) (by omega)) hn.1 (by omega)
        dsimp only
        omega
set_option maxHeartbeats 4000000 in
theorem few6_d (most : Int) (h1 : 1 ≤ most) (h2 : most ≤ 1000) : ∀ (t : Tm) (d : Int), -1000 ≤ d → d ≤ 1000 → PureC Try.prog 57 [.ag (eTm t), .v (.int .i64 most), .v (.int .i64 d)] (.v (.int .i64 (fewM most t d))) := by
 intro t
 induction t using Tm.ind with
 | h bs k i a ih =>
 intro d hd1 hd2
 obtain ⟨V, hV⟩ : ∃ V, fewM most (.mk bs k i a) d = V := ⟨_, rfl⟩
 rw [hV]
 rw [fewM] at hV
 refine call_of_dw 0 69 [ResultVar.tmp 6] TF6_ok (by kernel_rfl) Try.func57 rfl Try.ntmps57 rfl (by simp) ?dwords ?dbody
 case dwords => simp [wordsOk, D.ok, D.oks, rnames, eTm_ok]
 case dbody =>
  intro cx hnt hn0
  refine dw_seq ?_; refine dwk [] TF6_ok hnt fun K hK => ?_; refine hK _ _ ?_; clear hK K; refine dw_seq (dw_seq ?_)
  by_cases hd : d ≤ 0
  ·rw [if_pos hd] at hV
   subst hV
   refine dwk [(11, .v (.bool true))] TF6_ok hnt fun K hK => ?_; refine And.intro (dtrue hd) ?_; refine hK _ _ ?_; clear hK K; refine dw_cond (t := true) rfl ?_; rw [if_pos rfl]; refine dw_seq ?_; refine dwk [(13, .v (.int .i64 (most + 1)))] TF6_ok hnt fun K hK => ?_; refine And.intro (dintE (IntWalk.i64_in _ (by omega))) ?_; refine hK _ _ ?_; clear hK K; refine dw_ret ?_
   exact retv (N := 0) (.inr rfl) rfl (VLe.refl _) trivial
  ·rw [if_neg hd] at hV; refine dwk [(11, .v (.bool false))] TF6_ok hnt fun K hK => ?_; refine And.intro (dfalse hd) ?_; refine hK _ _ ?_; clear hK K; refine dw_cond (t := false) rfl ?_; rw [if_neg (by simp)]; refine dw_skip ?_; refine dw_seq ?_; refine dwk [] TF6_ok hnt fun K hK => ?_; refine hK _ _ ?_; clear hK K
   refine dw_cutE (ι := { n : Int // 1 ≤ n ∧ n ≤ 2 * most ∧ V = fewMs most a (d - 1) n }) (fun n => [(.t 1, .v (.int .i64 most)), (.t 2, .v (.int .i64 d)), (.t 3, .p 0 0), (.t 7, .v (.int .i64 n.1)), (.c 0 0, .sl 2 (eTys bs) none), (.c 0 1, .v (.int .i64 k)), (.c 0 2, .v (.int .i64 i)), (.c 0 3, .sl 4 (eTms a) none)]) 1 ?_ fun n => ?_
   ·refine dw_seq ?_; refine dwk [] TF6_ok hnt fun K hK => ?_; refine hK _ _ ?_; clear hK K; refine dw_block ?_
    refine dw_loop (ι := { p : Nat × Int // fewB1 most d (bs.drop p.1) p.2 = fewB1 most d bs 1 ∧ (p.1 : Int) + 1 ≤ p.2 ∧ p.2 ≤ 2 * most ∧ p.1 ≤ bs.length }) (fun p => [(.t 1, .v (.int .i64 most)), (.t 2, .v (.int .i64 d)), (.t 3, .p 0 0), (.t 7, .v (.int .i64 p.1.2)), (.t 8, .v (.int .i64 (p.1.1 : Int))), (.c 0 0, .sl 2 (eTys bs) none), (.c 0 1, .v (.int .i64 k)), (.c 0 2, .v (.int .i64 i)), (.c 0 3, .sl 4 (eTms a) none)]) 1 (fun p => bs.length - p.1.1) ⟨(0, 1), by simp, by simp, by dsimp only; omega, by simp⟩ VS.toA fun p => ?_
    obtain ⟨⟨j, n⟩, hj1, hj2, hj3, hj4⟩ := p
    dsimp only at hj1 hj2 hj3 hj4 ⊢
    refine dw_seq (dw_seq ?_)
    by_cases hlt : j < bs.length
    ·have hdr : bs.drop j = bs[j] :: bs.drop (j + 1) := List.drop_eq_getElem_cons hlt
     rw [hdr, fewB1] at hj1
     by_cases hn : n ≤ most
     ·rw [if_pos hn] at hj1
      have hF := Few4_d most h1 h2 bs[j] d hd1 hd2
      rw [eTy_eq] at hF
      have hq : (eTys bs).getD (j : Int).toNat [] = [.sl 2 (eTys bs[j].args) none, .v (.int .i64 bs[j].base)] := by rw [Int.toNat_natCast, eTys_getD bs j hlt, eTy_eq]
      have hb : (0 : Int) ≤ (j : Int) ∧ (j : Int) < ((eTys bs).length : Int) := ⟨by omega, by rw [eTys_len]; omega⟩
      refine dwk [(18, .v (.bool true)), (22, .v (.bool true))] TF6_ok hnt fun K hK => ?_; refine And.intro (dtrue (by rw [eTys_len]; omega)) ?_; refine And.intro (dtrue hn) ?_; refine hK _ _ ?_; clear hK K; refine dw_cond (t := true) rfl ?_; rw [if_pos rfl]; refine dw_skip ?_; refine dw_seq (dw_block ?_); refine dw_seq (dw_seq ?_)
      by_cases hff : fewT most bs[j] d ≤ most
      ·rw [if_pos hff] at hj1
       rw [decide_eq_true hff] at hF
       have hs1 := fewT_size h1 1000 bs[j] d (by omega) hff
       have hs2 := (fewT_le h1 1000 bs[j] d (by omega)).1
       have hS := Size4_d bs[j] (by omega)
       rw [eTy_eq] at hS
       refine dwk [(29, .q [.sl 2 (eTys bs[j].args) none, .v (.int .i64 bs[j].base)])] TF6_ok hnt fun K hK => ?_; refine And.intro (hb) ?_; refine And.intro (VLe.of_eq (by rw [hq])) ?_; refine dcl (hF) ?_; refine hK _ _ ?_; clear hK K; refine dw_cond (t := false) rfl ?_; rw [if_neg (by simp)]; refine dw_skip ?_; refine dwk [(41, .q [.sl 2 (eTys bs[j].args) none, .v (.int .i64 bs[j].base)]), (44, .v (.int .i64 (n + (bs[j].size : Int))))] TF6_ok hnt fun K hK => ?_
       refine And.intro (hb) ?_; refine And.intro (VLe.of_eq (by rw [hq])) ?_; refine dcl (hS) ?_; refine And.intro (dintE (IntWalk.i64_in _ (by omega))) ?_; refine hK _ _ ?_; clear hK K; refine dwk [(25, .v (.int .i64 ((j + 1 : Nat) : Int)))] TF6_ok hnt fun K hK => ?_; refine And.intro (dintE (by rw [IntWalk.i64_in _ (by omega)]; omega)) ?_; refine hK _ _ ?_; clear hK K
       exact ⟨⟨(j + 1, n + (bs[j].size : Int)), hj1, by dsimp only; omega, by dsimp only; omega, hlt⟩, by dsimp only; omega, VS.toA⟩
      ·rw [if_neg hff] at hj1
       rw [decide_eq_false hff] at hF
       rw [← hj1] at hV
       dsimp only at hV
       subst hV
       refine dwk [(29, .q [.sl 2 (eTys bs[j].args) none, .v (.int .i64 bs[j].base)])] TF6_ok hnt fun K hK => ?_; refine And.intro (hb) ?_; refine And.intro (VLe.of_eq (by rw [hq])) ?_; refine dcl (hF) ?_; refine hK _ _ ?_; clear hK K; refine dw_cond (t := true) rfl ?_; rw [if_pos rfl]; refine dw_seq ?_; refine dwk [(36, .v (.int .i64 (most + 1)))] TF6_ok hnt fun K hK => ?_; refine And.intro (dintE (IntWalk.i64_in _ (by omega))) ?_
       refine hK _ _ ?_; clear hK K; refine dw_ret ?_
       exact retv (N := 0) (.inr rfl) rfl (VLe.refl _) trivial
     ·rw [if_neg hn] at hj1
      rw [← hj1] at hV
      dsimp only at hV
      refine dwk [(18, .v (.bool true)), (22, .v (.bool false))] TF6_ok hnt fun K hK => ?_; refine And.intro (dtrue (by rw [eTys_len]; omega)) ?_; refine And.intro (dfalse hn) ?_; refine hK _ _ ?_; clear hK K; refine dw_cond (t := false) rfl ?_; rw [if_neg (by simp)]; refine dw_exit ?_
      exact cutE_ok (Q := RetOk TF6 [ResultVar.tmp 6] (.v (.int .i64 V)) []) ⟨n, by omega, hj3, hV.symm⟩ VS.toA
    ·rw [List.drop_eq_nil_of_le (by omega), fewB1] at hj1
     rw [← hj1] at hV
     dsimp only at hV
     refine dwk [(18, .v (.bool false))] TF6_ok hnt fun K hK => ?_; refine And.intro (dfalse (by rw [eTys_len]; omega)) ?_; refine hK _ _ ?_; clear hK K; refine dw_cond (t := false) rfl ?_; rw [if_neg (by simp)]; refine dw_exit ?_
     exact cutE_ok (Q := RetOk TF6 [ResultVar.tmp 6] (.v (.int .i64 V)) []) ⟨n, by omega, hj3, hV.symm⟩ VS.toA
   ·obtain ⟨n0, hn1, hn2, hVn⟩ := n
    dsimp only
    rw [hVn]
    refine dw_seq (dw_seq ?_); refine dwk [] TF6_ok hnt fun K hK => ?_; refine hK _ _ ?_; clear hK K; refine dw_block ?_
    refine dw_loop (ι := { p : Nat × Int // fewMs most (a.drop p.1) (d - 1) p.2 = fewMs most a (d - 1) n0 ∧ (p.1 : Int) + 1 ≤ p.2 ∧ p.2 ≤ 2000000 ∧ p.1 ≤ a.length }) (fun p => [(.t 1, .v (.int .i64 most)), (.t 2, .v (.int .i64 d)), (.t 3, .p 0 0), (.t 7, .v (.int .i64 p.1.2)), (.t 9, .v (.int .i64 (p.1.1 : Int))), (.c 0 0, .sl 2 (eTys bs) none), (.c 0 1, .v (.int .i64 k)), (.c 0 2, .v (.int .i64 i)), (.c 0 3, .sl 4 (eTms a) none)]) 1 (fun p => a.length - p.1.1) ⟨(0, n0), by simp, by dsimp only; omega, by dsimp only; omega, by simp⟩ VS.toA fun p => ?_
    obtain ⟨⟨j, n⟩, hj1, hj2, hj3, hj4⟩ := p
    dsimp only at hj1 hj2 hj3 hj4 ⊢
    refine dw_seq (dw_seq ?_)
    by_cases hlt : j < a.length
    ·have hdr : a.drop j = a[j] :: a.drop (j + 1) := List.drop_eq_getElem_cons hlt
     rw [hdr, fewMs] at hj1
     by_cases hn : n ≤ most
     ·rw [if_pos hn] at hj1
      have hih := ih a[j] (List.getElem_mem hlt) (d - 1) (by omega) (by omega)
      rw [eTm_eq] at hih
      have hbd := fewM_le h1 1000 a[j] (d - 1) (by omega) (by omega)
      have hbd2 : most * ((1000 : Nat) : Int) ≤ 1000000 := by
       have : most * ((1000 : Nat) : Int) = 1000 * most := by rw [Int.mul_comm]; rfl
       omega
      refine dwk [(49, .v (.bool true)), (53, .v (.bool true))] TF6_ok hnt fun K hK => ?_; refine And.intro (dtrue (by rw [eTms_len]; omega)) ?_; refine And.intro (dtrue hn) ?_; refine hK _ _ ?_; clear hK K; refine dw_cond (t := true) rfl ?_; rw [if_pos rfl]; refine dw_skip ?_; refine dw_seq (dw_block ?_); refine dwk [(61, .q [.sl 2 (eTys a[j].binds) none, .v (.int .i64 a[j].kind), .v (.int .i64 a[j].index), .sl 4 (eTms a[j].args) none]), (65, .v (.int .i64 (d - 1))), (67, .v (.int .i64 (n + fewM most a[j] (d - 1))))] TF6_ok hnt fun K hK => ?_
      refine And.intro (⟨by omega, by rw [eTms_len]; omega⟩) ?_; refine And.intro (VLe.of_eq (by rw [Int.toNat_natCast, eTms_getD a j hlt, eTm_eq])) ?_; refine And.intro (dintE (IntWalk.i64_in _ (by omega))) ?_; refine dcl (hih) ?_; refine And.intro (dintE (IntWalk.i64_in _ (by omega))) ?_; refine hK _ _ ?_; clear hK K; refine dwk [(56, .v (.int .i64 ((j + 1 : Nat) : Int)))] TF6_ok hnt fun K hK => ?_; refine And.intro (dintE (by rw [IntWalk.i64_in _ (by omega)]; omega)) ?_
      refine hK _ _ ?_; clear hK K
      exact ⟨⟨(j + 1, n + fewM most a[j] (d - 1)), hj1, by dsimp only; omega, by dsimp only; omega, hlt⟩, by dsimp only; omega, VS.toA⟩
     ·rw [if_neg hn] at hj1
      rw [← hj1]
      refine dwk [(49, .v (.bool true)), (53, .v (.bool false))] TF6_ok hnt fun K hK => ?_; refine And.intro (dtrue (by rw [eTms_len]; omega)) ?_; refine And.intro (dfalse hn) ?_; refine hK _ _ ?_; clear hK K; refine dw_cond (t := false) rfl ?_; rw [if_neg (by simp)]; refine dw_exit ?_; refine dw_seq ?_; refine dwk [] TF6_ok hnt fun K hK => ?_; refine hK _ _ ?_; clear hK K; refine dw_ret ?_
      exact retv (N := 0) (.inr rfl) rfl (VLe.refl _) trivial
    ·rw [List.drop_eq_nil_of_le (by omega), fewMs] at hj1
     rw [← hj1]
     refine dwk [(49, .v (.bool false))] TF6_ok hnt fun K hK => ?_; refine And.intro (dfalse (by rw [eTms_len]; omega)) ?_; refine hK _ _ ?_; clear hK K; refine dw_cond (t := false) rfl ?_; rw [if_neg (by simp)]; refine dw_exit ?_; refine dw_seq ?_; refine dwk [] TF6_ok hnt fun K hK => ?_; refine hK _ _ ?_; clear hK K; refine dw_ret ?_
     exact retv (N := 0) (.inr rfl) rfl (VLe.refl _) trivial
theorem Few6_d (most : Int) (h1 : 1 ≤ most) (h2 : most ≤ 1000) (t : Tm) (d : Int) (h3 : -1000 ≤ d) (h4 : d ≤ 1000) : PureC Try.prog 42 [.ag (eTm t), .v (.int .i64 most), .v (.int .i64 d)] (.v (.bool (decide (fewM most t d ≤ most)))) := by
 have h := few6_d most h1 h2 t d h3 h4
 rw [eTm_eq] at h ⊢
 refine call_of_dw 0 13 [ResultVar.tmp 6] TF6_ok (by kernel_rfl) Try.func42 rfl Try.ntmps42 rfl (by simp) ?dwords ?dbody
 case dwords => simp [wordsOk, D.ok, D.oks, rnames, eTys_ok, eTms_ok]
 case dbody =>
  intro cx hnt hn0
  refine dw_seq ?_; refine dwk [] TF6_ok hnt fun K hK => ?_; refine hK _ _ ?_; clear hK K; refine dw_seq ?_; refine dwk [] TF6_ok hnt fun K hK => ?_; refine dcl (h) ?_; refine hK _ _ ?_; clear hK K; refine dw_ret ?_
  exact retv (N := 0) (.inr rfl) rfl (VLe.refl _) trivial
def fewB (t : Tm) : Bool := decide (fewM 150 t 70 ≤ 150)
set_option maxHeartbeats 1000000 in
theorem lawFew_d (l : List Tm) (hl : l.length ≤ 1000000) : PureC Try.prog 20 [.sl 4 (eTms l) none] (.v (.bool (l.all fewB))) := by
 refine call_of_dw 0 16 [ResultVar.tmp 2] TF6_ok (by kernel_rfl) Try.func20 rfl Try.ntmps20 rfl (by simp) ?dwords ?dbody
 case dwords => simp [wordsOk, D.ok, D.oks, rnames, eTms_ok]
 case dbody =>
  intro cx hnt hn0
  refine dw_seq ?_; refine dwk [] TF6_ok hnt fun K hK => ?_; refine hK _ _ ?_; clear hK K; refine dw_seq (dw_seq ?_); refine dwk [] TF6_ok hnt fun K hK => ?_; refine hK _ _ ?_; clear hK K; refine dw_block ?_
  refine dw_loop (ι := { j : Nat // ∀ i (h : i < l.length), i < j → fewB l[i] = true }) (fun j => [(.t 0, .sl 4 (eTms l) none), (.t 3, .v (.int .i64 (j.1 : Int)))]) 1 (fun j => l.length - j.1) ⟨0, fun i h1 h2 => by omega⟩ VS.toA fun j => ?_
  obtain ⟨j, hj⟩ := j
  dsimp only
  refine dw_seq (dw_seq ?_)
  by_cases hlt : j < l.length
  ·have hi := Few6_d 150 (by decide) (by decide) l[j] 70 (by decide) (by decide)
   rw [eTm_eq] at hi
   have hq : (eTms l).getD (j : Int).toNat [] = [.sl 2 (eTys l[j].binds) none, .v (.int .i64 l[j].kind), .v (.int .i64 l[j].index), .sl 4 (eTms l[j].args) none] := by rw [Int.toNat_natCast, eTms_getD l j hlt, eTm_eq]
   have hb : (0 : Int) ≤ (j : Int) ∧ (j : Int) < ((eTms l).length : Int) := ⟨by omega, by rw [eTms_len]; omega⟩
   refine dwk [(7, .v (.bool true))] TF6_ok hnt fun K hK => ?_; refine And.intro (dtrue (by rw [eTms_len]; omega)) ?_; refine hK _ _ ?_; clear hK K; refine dw_cond (t := true) rfl ?_; rw [if_pos rfl]; refine dw_skip ?_; refine dw_seq (dw_block (dw_seq ?_))
   cases hf : fewB l[j] with
   | true =>
    have hf2 := hf
    unfold fewB at hf2
    rw [hf2] at hi
    refine dwk [(12, .q [.sl 2 (eTys l[j].binds) none, .v (.int .i64 l[j].kind), .v (.int .i64 l[j].index), .sl 4 (eTms l[j].args) none])] TF6_ok hnt fun K hK => ?_; refine And.intro (hb) ?_; refine And.intro (VLe.of_eq (by rw [hq])) ?_; refine dcl (hi) ?_; refine hK _ _ ?_; clear hK K; refine dw_cond (t := false) rfl ?_; rw [if_neg (by simp)]; refine dw_skip ?_; refine dwk [(9, .v (.int .i64 ((j + 1 : Nat) : Int)))] TF6_ok hnt fun K hK => ?_
    refine And.intro (dintE (by rw [IntWalk.i64_in _ (by omega)]; omega)) ?_; refine hK _ _ ?_; clear hK K
    refine ⟨⟨j + 1, fun i h1 h2 => ?_⟩, by dsimp only; omega, VS.toA⟩
    by_cases he : i = j
    ·subst he; exact hf
    ·exact hj i h1 (by omega)
   | false =>
    have hf2 := hf
    unfold fewB at hf2
    rw [hf2] at hi
    have ha : l.all fewB = false := by rw [List.all_eq_false]; exact ⟨l[j], List.getElem_mem hlt, by rw [hf]; simp⟩
    rw [ha]
    refine dwk [(12, .q [.sl 2 (eTys l[j].binds) none, .v (.int .i64 l[j].kind), .v (.int .i64 l[j].index), .sl 4 (eTms l[j].args) none])] TF6_ok hnt fun K hK => ?_; refine And.intro (hb) ?_; refine And.intro (VLe.of_eq (by rw [hq])) ?_; refine dcl (hi) ?_; refine hK _ _ ?_; clear hK K; refine dw_cond (t := true) rfl ?_; rw [if_pos rfl]; refine dw_seq ?_; refine dwk [] TF6_ok hnt fun K hK => ?_; refine hK _ _ ?_; clear hK K
    refine dw_ret ?_
    exact retv (N := 0) (.inr rfl) rfl (VLe.refl _) trivial
  ·have ha : l.all fewB = true := by
    rw [List.all_eq_true]
    intro t ht
    obtain ⟨i, hi, rfl⟩ := List.getElem_of_mem ht
    exact hj i hi (by omega)
   rw [ha]
   refine dwk [(7, .v (.bool false))] TF6_ok hnt fun K hK => ?_; refine And.intro (dfalse (by rw [eTms_len]; omega)) ?_; refine hK _ _ ?_; clear hK K; refine dw_cond (t := false) rfl ?_; rw [if_neg (by simp)]; refine dw_exit ?_; refine dw_seq ?_; refine dwk [] TF6_ok hnt fun K hK => ?_; refine hK _ _ ?_; clear hK K; refine dw_ret ?_
   exact retv (N := 0) (.inr rfl) rfl (VLe.refl _) trivial
end Go.Proofs.Ytnpjjkeokcoedaa

namespace Go.Proofs.Ytnpjjkeokcoedaa
open Go.RowKit

theorem fewB1_full {most d : Int} (hm : 1 ≤ most) (hd : d ≤ 1000) : ∀ (l : List Ty) (n r : Int), fewB1 most d l n = some r → r ≤ most → r = n + Ty.sizes l
  | [], n, r, h, _ => by rw [fewB1] at h; cases h; simp [Ty.sizes]
  | t :: l, n, r, h, hr => by
    rw [fewB1] at h
    split at h
    · split at h
      · have := fewB1_full hm hd l _ r h hr
        rw [this, Ty.sizes]; omega
      · cases h
    · cases h; omega
theorem fewMs_full {most : Int} : ∀ (l : List Tm) (d n : Int), (∀ t ∈ l, fewM most t d ≤ most → (t.full : Int) = fewM most t d ∧ (t.depth : Int) ≤ d) → (∀ t ∈ l, 1 ≤ fewM most t d) → 1 ≤ n → fewMs most l d n ≤ most → fewMs most l d n = n + Tm.fulls l ∧ (∀ t ∈ l, (t.depth : Int) ≤ d) ∧ n ≤ most
  | [], d, n, _, _, _, h => by rw [fewMs] at h ⊢; exact ⟨by simp [Tm.fulls], nofun, h⟩
  | t :: l, d, n, h, h1, hn, hf => by
    rw [fewMs] at hf ⊢
    split at hf
    · rename_i hm
      rw [if_pos hm]
      have h2 := h1 t (by simp)
      obtain ⟨h3, h4, h5⟩ := fewMs_full l d _ (fun u hu => h u (by simp [hu])) (fun u hu => h1 u (by simp [hu])) (by omega) hf
      obtain ⟨h6, h7⟩ := h t (by simp) (by omega)
      refine ⟨by rw [h3, Tm.fulls]; omega, fun u hu => ?_, hm⟩
      rcases List.mem_cons.1 hu with rfl | hu
      · exact h7
      · exact h4 u hu
    · rename_i hm; omega
theorem depths_max {d : Int} (hd : 0 ≤ d) : ∀ (l : List Tm), (∀ t ∈ l, (t.depth : Int) ≤ d) → (Tm.depths l : Int) ≤ d
  | [], _ => by simp [Tm.depths]; exact hd
  | t :: l, h => by
    have h1 := h t (by simp)
    have h2 := depths_max hd l fun u hu => h u (by simp [hu])
    simp only [Tm.depths]; omega
theorem fewM_full {most : Int} (hm : 1 ≤ most) : ∀ (k : Nat) (t : Tm) (d : Int), k ≤ 1000 → d ≤ k → fewM most t d ≤ most → (t.full : Int) = fewM most t d ∧ (t.depth : Int) ≤ d
  | 0, .mk bs kd i a, d, hk, hd, h => by rw [fewM, if_pos (by omega)] at h; omega
  | k + 1, .mk bs kd i a, d, hk, hd, h => by
    rw [fewM] at h ⊢
    split at h
    · omega
    · rename_i hp
      rw [if_neg hp]
      cases hb : fewB1 most d bs 1 with
      | none => rw [hb] at h; dsimp only at h; omega
      | some n =>
        rw [hb] at h
        dsimp only at h ⊢
        have hn := fewB1_le hm (by omega) bs 1 (by omega) (by omega) n hb
        obtain ⟨h3, h4, h5⟩ := fewMs_full a (d - 1) n (fun t _ => fewM_full hm k t (d - 1) (by omega) (by omega)) (fun t _ => (fewM_le hm k t (d - 1) (by omega) (by omega)).1) hn.1 h
        have h6 := fewB1_full hm (by omega) bs 1 n hb h5
        have h7 := depths_max (by omega) a h4
        rw [Tm.full_eq, Tm.depth_eq]
        constructor
        · omega
        · omega
theorem fewB_full {t : Tm} (h : fewB t = true) : t.full ≤ 150 ∧ t.depth ≤ 70 := by
  unfold fewB at h
  rw [decide_eq_true_eq] at h
  obtain ⟨h1, h2⟩ := fewM_full (by decide) 1000 t 70 (by decide) (by decide) h
  omega
end Go.Proofs.Ytnpjjkeokcoedaa

namespace Go.Proofs.Ytnpjjkeokcoedaa
open Go.RowKit
def TS9_22 : TI := ⟨1, false, [Value.slice none 0 0], [], some 69, 24, 5, none, false⟩
theorem TS9_22_ok : TypOk Try.prog 22 TS9_22 := ⟨by kernel_rfl, by kernel_rfl, by kernel_rfl, by kernel_rfl, by kernel_rfl⟩
def TS9_3 : TI := ⟨1, false, [Value.int IntKind.i64 0], [], none, 8, 2, none, false⟩
theorem TS9_3_ok : TypOk Try.prog 3 TS9_3 := ⟨by kernel_rfl, by kernel_rfl, by kernel_rfl, by kernel_rfl, by kernel_rfl⟩
def TS9_24 : TI := ⟨3, true, [Value.int IntKind.i64 0, Value.slice none 0 0, Value.slice none 0 0], [(0, 1, false), (1, 1, false), (2, 1, false)], none, 56, 6, none, false⟩
theorem TS9_24_ok : TypOk Try.prog 24 TS9_24 := ⟨by kernel_rfl, by kernel_rfl, by kernel_rfl, by kernel_rfl, by kernel_rfl⟩
def TS9_69 : TI := ⟨2, true, [Value.slice none 0 0, Value.int IntKind.i64 0], [(0, 1, false), (1, 1, false)], none, 32, 6, none, false⟩
theorem TS9_69_ok : TypOk Try.prog 69 TS9_69 := ⟨by kernel_rfl, by kernel_rfl, by kernel_rfl, by kernel_rfl, by kernel_rfl⟩
def TS9 : List (Nat × TI) := [(22, TS9_22), (3, TS9_3), (24, TS9_24), (69, TS9_69)]
theorem TS9_ok : TabOk Try.prog TS9 := (((((TabOk.nil _).cons TS9_69_ok).cons TS9_24_ok).cons TS9_3_ok).cons TS9_22_ok)
def few4B (t : Ty) : Bool := decide (fewT 60 t 60 ≤ 60)
theorem fewT60 {t : Ty} (h : few4B t = true) : t.size ≤ 60 := by
  unfold few4B at h
  rw [decide_eq_true_eq] at h
  have := fewT_size (by decide) 1000 t 60 (by decide) h
  omega
set_option maxHeartbeats 1000000 in
theorem small_d (b : Int) (C M X : List Ty) (h1 : C.length ≤ 20) (h2 : M.length ≤ 20) (h3 : X.length ≤ 20) : PureC Try.prog 6 [.ag [.v (.int .i64 b), .sl 2 (eTys C) none, .sl 2 (eTys M) none], .sl 2 (eTys X) none] (.v (.bool (((C ++ M) ++ X).all few4B))) := by
 have hB := rbehind_d C M (by omega)
 have hB2 := rbehind_d (C ++ M) X (by simp; omega)
 obtain ⟨l, hl⟩ : ∃ l, (C ++ M) ++ X = l := ⟨_, rfl⟩
 rw [hl] at hB2 ⊢
 have hll : l.length ≤ 60 := by rw [← hl]; simp; omega
 refine call_of_dw 0 41 [ResultVar.tmp 4] TS9_ok (by kernel_rfl) Try.func6 rfl Try.ntmps6 rfl (by simp) ?dwords ?dbody
 case dwords => simp [wordsOk, D.ok, D.oks, rnames, eTys_ok]
 case dbody =>
  intro cx hnt hn0
  refine dw_seq ?_; refine dwk [] TS9_ok hnt fun K hK => ?_; refine hK _ _ ?_; clear hK K; refine dw_seq (dw_seq ?_); refine dwk [(10, .v (.bool false)), (15, .v (.bool false)), (20, .v (.bool false))] TS9_ok hnt fun K hK => ?_; refine And.intro (dfalse (by rw [eTys_len]; omega)) ?_; refine And.intro (dfalse (by rw [eTys_len]; omega)) ?_; refine And.intro (dfalse (by rw [eTys_len]; omega)) ?_; refine hK _ _ ?_; clear hK K
  refine dw_cond (t := false) rfl ?_; rw [if_neg (by simp)]; refine dw_skip ?_; refine dw_seq ?_; refine dwk [] TS9_ok hnt fun K hK => ?_; refine dcl (hB) ?_; refine dcl (hB2) ?_; refine hK _ _ ?_; clear hK K; refine dw_seq (dw_seq ?_); refine dwk [] TS9_ok hnt fun K hK => ?_; refine hK _ _ ?_; clear hK K; refine dw_block ?_
  refine dw_loop (ι := { j : Nat // ∀ i (h : i < l.length), i < j → few4B l[i] = true }) (fun j => [(.t 5, .sl 2 (eTys l) none), (.t 6, .v (.int .i64 (j.1 : Int)))]) 1 (fun j => l.length - j.1) ⟨0, fun i h1 h2 => by omega⟩ VS.toA fun j => ?_
  obtain ⟨j, hj⟩ := j
  dsimp only
  refine dw_seq (dw_seq ?_)
  by_cases hlt : j < l.length
  ·have hi := Few4_d 60 (by decide) (by decide) l[j] 60 (by decide) (by decide)
   rw [eTy_eq] at hi
   have hq : (eTys l).getD (j : Int).toNat [] = [.sl 2 (eTys l[j].args) none, .v (.int .i64 l[j].base)] := by rw [Int.toNat_natCast, eTys_getD l j hlt, eTy_eq]
   have hb : (0 : Int) ≤ (j : Int) ∧ (j : Int) < ((eTys l).length : Int) := ⟨by omega, by rw [eTys_len]; omega⟩
   refine dwk [(32, .v (.bool true))] TS9_ok hnt fun K hK => ?_; refine And.intro (dtrue (by rw [eTys_len]; omega)) ?_; refine hK _ _ ?_; clear hK K; refine dw_cond (t := true) rfl ?_; rw [if_pos rfl]; refine dw_skip ?_; refine dw_seq (dw_block (dw_seq ?_))
   cases hf : few4B l[j] with
   | true =>
    have hf2 := hf
    unfold few4B at hf2
    rw [hf2] at hi
    refine dwk [(37, .q [.sl 2 (eTys l[j].args) none, .v (.int .i64 l[j].base)])] TS9_ok hnt fun K hK => ?_; refine And.intro (hb) ?_; refine And.intro (VLe.of_eq (by rw [hq])) ?_; refine dcl (hi) ?_; refine hK _ _ ?_; clear hK K; refine dw_cond (t := false) rfl ?_; rw [if_neg (by simp)]; refine dw_skip ?_; refine dwk [(34, .v (.int .i64 ((j + 1 : Nat) : Int)))] TS9_ok hnt fun K hK => ?_; refine And.intro (dintE (by rw [IntWalk.i64_in _ (by omega)]; omega)) ?_
    refine hK _ _ ?_; clear hK K
    refine ⟨⟨j + 1, fun i h1 h2 => ?_⟩, by dsimp only; omega, VS.toA⟩
    by_cases he : i = j
    ·subst he; exact hf
    ·exact hj i h1 (by omega)
   | false =>
    have hf2 := hf
    unfold few4B at hf2
    rw [hf2] at hi
    have ha : l.all few4B = false := by rw [List.all_eq_false]; exact ⟨l[j], List.getElem_mem hlt, by rw [hf]; simp⟩
    rw [ha]
    refine dwk [(37, .q [.sl 2 (eTys l[j].args) none, .v (.int .i64 l[j].base)])] TS9_ok hnt fun K hK => ?_; refine And.intro (hb) ?_; refine And.intro (VLe.of_eq (by rw [hq])) ?_; refine dcl (hi) ?_; refine hK _ _ ?_; clear hK K; refine dw_cond (t := true) rfl ?_; rw [if_pos rfl]; refine dw_seq ?_; refine dwk [] TS9_ok hnt fun K hK => ?_; refine hK _ _ ?_; clear hK K; refine dw_ret ?_
    exact retv (N := 0) (.inr rfl) rfl (VLe.refl _) trivial
  ·have ha : l.all few4B = true := by
    rw [List.all_eq_true]
    intro t ht
    obtain ⟨i, hi, rfl⟩ := List.getElem_of_mem ht
    exact hj i hi (by omega)
   rw [ha]
   refine dwk [(32, .v (.bool false))] TS9_ok hnt fun K hK => ?_; refine And.intro (dfalse (by rw [eTys_len]; omega)) ?_; refine hK _ _ ?_; clear hK K; refine dw_cond (t := false) rfl ?_; rw [if_neg (by simp)]; refine dw_exit ?_; refine dw_seq ?_; refine dwk [] TS9_ok hnt fun K hK => ?_; refine hK _ _ ?_; clear hK K; refine dw_ret ?_
   exact retv (N := 0) (.inr rfl) rfl (VLe.refl _) trivial
set_option maxHeartbeats 1000000 in
theorem small_no (b : Int) (C M X : List Ty) (h : ¬ (C.length ≤ 20 ∧ M.length ≤ 20 ∧ X.length ≤ 20)) : PureC Try.prog 6 [.ag [.v (.int .i64 b), .sl 2 (eTys C) none, .sl 2 (eTys M) none], .sl 2 (eTys X) none] (.v (.bool false)) := by
 refine call_of_dw 0 41 [ResultVar.tmp 4] TS9_ok (by kernel_rfl) Try.func6 rfl Try.ntmps6 rfl (by simp) ?dwords ?dbody
 case dwords => simp [wordsOk, D.ok, D.oks, rnames, eTys_ok]
 case dbody =>
  intro cx hnt hn0
  refine dw_seq ?_; refine dwk [] TS9_ok hnt fun K hK => ?_; refine hK _ _ ?_; clear hK K; refine dw_seq (dw_seq ?_)
  by_cases h1 : C.length ≤ 20
  ·by_cases h2 : M.length ≤ 20
   ·skip
    refine dwk [(10, .v (.bool false)), (15, .v (.bool false)), (20, .v (.bool true))] TS9_ok hnt fun K hK => ?_; refine And.intro (dfalse (by rw [eTys_len]; omega)) ?_; refine And.intro (dfalse (by rw [eTys_len]; omega)) ?_; refine And.intro (dtrue (by rw [eTys_len]; omega)) ?_; refine hK _ _ ?_; clear hK K; refine dw_cond (t := true) rfl ?_; rw [if_pos rfl]; refine dw_seq ?_; refine dwk [] TS9_ok hnt fun K hK => ?_
    refine hK _ _ ?_; clear hK K; refine dw_ret ?_
    exact retv (N := 0) (.inr rfl) rfl (VLe.refl _) trivial
   ·skip
    refine dwk [(10, .v (.bool false)), (15, .v (.bool true))] TS9_ok hnt fun K hK => ?_; refine And.intro (dfalse (by rw [eTys_len]; omega)) ?_; refine And.intro (dtrue (by rw [eTys_len]; omega)) ?_; refine hK _ _ ?_; clear hK K; refine dw_cond (t := true) rfl ?_; rw [if_pos rfl]; refine dw_seq ?_; refine dwk [] TS9_ok hnt fun K hK => ?_; refine hK _ _ ?_; clear hK K; refine dw_ret ?_
    exact retv (N := 0) (.inr rfl) rfl (VLe.refl _) trivial
  ·skip
   refine dwk [(10, .v (.bool true))] TS9_ok hnt fun K hK => ?_; refine And.intro (dtrue (by rw [eTys_len]; omega)) ?_; refine hK _ _ ?_; clear hK K; refine dw_cond (t := true) rfl ?_; rw [if_pos rfl]; refine dw_seq ?_; refine dwk [] TS9_ok hnt fun K hK => ?_; refine hK _ _ ?_; clear hK K; refine dw_ret ?_
   exact retv (N := 0) (.inr rfl) rfl (VLe.refl _) trivial
end Go.Proofs.Ytnpjjkeokcoedaa

namespace Go.Proofs.Ytnpjjkeokcoedaa
open Go.RowKit
def TTO_52 : TI := ⟨2, true, [Value.slice none 0 0, Value.int IntKind.i64 0], [(0, 1, false), (1, 1, false)], none, 32, 6, none, false⟩
theorem TTO_52_ok : TypOk Try.prog 52 TTO_52 := ⟨by kernel_rfl, by kernel_rfl, by kernel_rfl, by kernel_rfl, by kernel_rfl⟩
def TTO_3 : TI := ⟨1, false, [Value.int IntKind.i64 0], [], none, 8, 2, none, false⟩
theorem TTO_3_ok : TypOk Try.prog 3 TTO_3 := ⟨by kernel_rfl, by kernel_rfl, by kernel_rfl, by kernel_rfl, by kernel_rfl⟩
def TTO_43 : TI := ⟨4, true, [Value.slice none 0 0, Value.int IntKind.i64 0, Value.int IntKind.i64 0, Value.slice none 0 0], [(0, 1, false), (1, 2, true), (3, 1, false)], none, 64, 6, none, false⟩
theorem TTO_43_ok : TypOk Try.prog 43 TTO_43 := ⟨by kernel_rfl, by kernel_rfl, by kernel_rfl, by kernel_rfl, by kernel_rfl⟩
def TTO_69 : TI := ⟨2, true, [Value.slice none 0 0, Value.int IntKind.i64 0], [(0, 1, false), (1, 1, false)], none, 32, 6, none, false⟩
theorem TTO_69_ok : TypOk Try.prog 69 TTO_69 := ⟨by kernel_rfl, by kernel_rfl, by kernel_rfl, by kernel_rfl, by kernel_rfl⟩
def TTO_22 : TI := ⟨1, false, [Value.slice none 0 0], [], some 69, 24, 5, none, false⟩
theorem TTO_22_ok : TypOk Try.prog 22 TTO_22 := ⟨by kernel_rfl, by kernel_rfl, by kernel_rfl, by kernel_rfl, by kernel_rfl⟩
def TTO_36 : TI := ⟨1, false, [Value.slice none 0 0], [], some 52, 24, 5, none, false⟩
theorem TTO_36_ok : TypOk Try.prog 36 TTO_36 := ⟨by kernel_rfl, by kernel_rfl, by kernel_rfl, by kernel_rfl, by kernel_rfl⟩
def TTO_29 : TI := ⟨4, true, [Value.slice none 0 0, Value.int IntKind.i64 0, Value.int IntKind.i64 0, Value.slice none 0 0], [(0, 1, false), (1, 2, true), (3, 1, false)], none, 64, 6, none, false⟩
theorem TTO_29_ok : TypOk Try.prog 29 TTO_29 := ⟨by kernel_rfl, by kernel_rfl, by kernel_rfl, by kernel_rfl, by kernel_rfl⟩
def TTO_41 : TI := ⟨1, false, [Value.slice none 0 0], [], some 43, 24, 5, none, false⟩
theorem TTO_41_ok : TypOk Try.prog 41 TTO_41 := ⟨by kernel_rfl, by kernel_rfl, by kernel_rfl, by kernel_rfl, by kernel_rfl⟩
def TTO_27 : TI := ⟨1, false, [Value.slice none 0 0], [], some 29, 24, 5, none, false⟩
theorem TTO_27_ok : TypOk Try.prog 27 TTO_27 := ⟨by kernel_rfl, by kernel_rfl, by kernel_rfl, by kernel_rfl, by kernel_rfl⟩
def TTO_26 : TI := ⟨2, true, [Value.int IntKind.i64 0, Value.int IntKind.i64 0], [(0, 1, false), (1, 1, false)], none, 16, 6, none, true⟩
theorem TTO_26_ok : TypOk Try.prog 26 TTO_26 := ⟨by kernel_rfl, by kernel_rfl, by kernel_rfl, by kernel_rfl, by kernel_rfl⟩
def TTO_40 : TI := ⟨2, true, [Value.int IntKind.i64 0, Value.int IntKind.i64 0], [(0, 1, false), (1, 1, false)], none, 16, 6, none, true⟩
theorem TTO_40_ok : TypOk Try.prog 40 TTO_40 := ⟨by kernel_rfl, by kernel_rfl, by kernel_rfl, by kernel_rfl, by kernel_rfl⟩
def TTO : List (Nat × TI) := [(52, TTO_52), (3, TTO_3), (43, TTO_43), (69, TTO_69), (22, TTO_22), (36, TTO_36), (29, TTO_29), (41, TTO_41), (27, TTO_27), (26, TTO_26), (40, TTO_40)]
theorem TTO_ok : TabOk Try.prog TTO := ((((((((((((TabOk.nil _).cons TTO_40_ok).cons TTO_26_ok).cons TTO_27_ok).cons TTO_41_ok).cons TTO_29_ok).cons TTO_36_ok).cons TTO_22_ok).cons TTO_69_ok).cons TTO_43_ok).cons TTO_3_ok).cons TTO_52_ok)
theorem eTys_tlen (l : List Ty) (j : Nat) (h : j ≤ l.length) : (eTys (l.take j)).length = j := by rw [eTys_len, List.length_take]; omega
theorem eTms_tlen (l : List Tm) (j : Nat) (h : j ≤ l.length) : (eTms (l.take j)).length = j := by rw [eTms_len, List.length_take]; omega
theorem to4D_d : ∀ t : Ty, t.size ≤ 900000 → PureC Try.prog 27 [.ag (eTy t)] (.ag (eTy t)) := by
 intro t
 induction t using Ty.ind with
 | h ar base ih =>
  intro hz
  rw [Ty.size_eq] at hz
  have hal := Ty.le_sizes ar
  rw [eTy_eq]
  dsimp only [Ty.args, Ty.base]
  refine calldw 0 27 [ResultVar.cell 2 52] TTO_ok Try.func27 rfl Try.ntmps27 rfl fun cx hnt hn0 => ?_
  ·skip
   refine dw_seq ?_; refine dwk [] TTO_ok hnt fun K hK => ?_; refine hK _ _ ?_; clear hK K; refine dw_seq ?_; refine dwk [] TTO_ok hnt fun K hK => ?_; refine hK _ _ ?_; clear hK K
   refine DW.vs (VS.row (k := 5) (off := 0) 52 2 rfl) ?_
   refine dw_seq ?_; refine dw_seq ?_; refine dwk [] TTO_ok hnt fun K hK => ?_; refine hK _ _ ?_; clear hK K; refine dw_block ?_
   refine dw_loop (ι := { j : Nat // j ≤ ar.length }) (fun j => [(.t 1, .p 0 0), (.t 2, .p 1 0), (.t 3, .p 5 0), (.t 4, .v (.int .i64 ↑j.1)), (.c 0 0, .sl 2 (eTys ar) none), (.c 0 1, .v (.int .i64 base)), (.c 1 0, .v (.slice none 0 0)), (.c 1 1, .v (.int .i64 0)), (.c 5 0, .sl 2 (eTys (ar.take j.1)) (some 7)), (.c 5 1, .v (.int .i64 base)), (.r 7, .rw 52 2 j.1)]) 8 (fun j => ar.length - j.1) (⟨0, Nat.zero_le _⟩) ((VS.toK (by omega) (by repeat first | exact trivial | refine And.intro (And.intro (by first | rfl | simp [D.ok, D.oks, D.okss, D.okm, upto, keyOk, argsT]) (by first | exact Or.inl rfl | exact Or.inr ⟨_, rfl, (by repeat first | exact VLe.refl _ | exact VLe.nil _ | exact VLe.untag _ _ _ | refine VLe.ag ?_ | refine VLe.tu ?_ | refine VLeL.cons ?_ ?_ | exact VLeL.nil), trivial⟩ | simp [get, Key.eq, argsT])) ?_))) fun j => ?_
   obtain ⟨j, hj⟩ := j
   dsimp only
   by_cases hlt : j < ar.length
   ·have hmem := List.getElem_mem hlt
    have hsz := Ty.size_mem hmem
    have hc := ih _ hmem (by omega)
    rw [eTy_eq] at hc
    have hl1 := eTys_tlen ar j hj
    have hl2 := eTys_tlen ar (j + 1) hlt
    refine dw_seq ?_; refine dw_seq ?_; refine dwk [(11, .v (.int .i64 (↑ar.length))), (12, .v (.bool true))] TTO_ok hnt fun K hK => ?_; refine And.intro (dintE (by rw [eTys_len])) ?_; refine And.intro auT ?_; refine hK _ _ ?_; clear hK K; refine dw_cond (t := true) rfl ?_; rw [if_pos rfl]; refine dw_skip ?_; refine dw_seq ?_; refine dw_block ?_; refine dwkD [(20, .q [.sl 2 (eTys ar[j].args) none, .v (.int .i64 ar[j].base)])] TTO_ok hnt fun K hK => ?_
    refine And.intro (elo (eTys_len ar)) ?_; refine And.intro (elv (eTys_getD ar j) (eTy_eq _)) ?_; refine dcl (hc) ?_; refine And.intro (⟨by omega, by rw [hl1]; simp; omega⟩) ?_; refine hK _ _ (by kernel_rfl) ?_; clear hK K
    rw [eTys_snoc ar j hlt, hl2]
    refine dwk [(14, .v (.int .i64 (↑(j + 1))))] TTO_ok hnt fun K hK => ?_; refine And.intro auI ?_; refine hK _ _ ?_; clear hK K
    refine ⟨⟨j + 1, hlt⟩, by first | omega | (dsimp only; omega), VS.toA⟩
   ·rw [List.take_of_length_le (by omega)]
    refine dw_seq ?_; refine dw_seq ?_; refine dwk [(11, .v (.int .i64 (↑ar.length))), (12, .v (.bool false))] TTO_ok hnt fun K hK => ?_; refine And.intro (dintE (by rw [eTys_len])) ?_; refine And.intro auF ?_; refine hK _ _ ?_; clear hK K; refine dw_cond (t := false) rfl ?_; rw [if_neg (by simp)]; refine dw_exit ?_; refine dw_seq ?_; refine dwk [] TTO_ok hnt fun K hK => ?_; refine hK _ _ ?_; clear hK K
    refine dw_ret ?_
    exact reta rfl
theorem toTys_d (l : List Ty) (hz : Ty.sizes l ≤ 900000) : PureC Try.prog 10 [.sl 2 (eTys l) none] (.sl 2 (eTys l) none) := by
 have hal := Ty.le_sizes l
 refine calldw 0 20 [ResultVar.tmp 2] TTO_ok Try.func10 rfl Try.ntmps10 rfl fun cx hnt hn0 => ?_
 ·skip
  refine dw_seq ?_; refine dwk [] TTO_ok hnt fun K hK => ?_; refine hK _ _ ?_; clear hK K
  refine dw_cut (τ := [(.t 0, .sl 2 (eTys l) none), (.t 3, .v (.slice none 0 0))]) (N1 := 0) ?_ ?_
  ·skip
   refine dwk [] TTO_ok hnt fun K hK => ?_; refine hK _ _ ?_; clear hK K
   exact cut_ok (VS.toK (by omega) (by repeat first | exact trivial | refine And.intro (And.intro (by first | rfl | simp [D.ok, D.oks, D.okss, D.okm, upto, keyOk, argsT]) (by first | exact Or.inl rfl | exact Or.inr ⟨_, rfl, (by repeat first | exact VLe.refl _ | exact VLe.nil _ | exact VLe.untag _ _ _ | refine VLe.ag ?_ | refine VLe.tu ?_ | refine VLeL.cons ?_ ?_ | exact VLeL.nil), trivial⟩ | simp [get, Key.eq, argsT])) ?_))
  ·refine DW.vs (VS.rowT (x := 3) (by rw [hnt]; decide) 52 2 rfl) ?_
   refine dw_seq ?_; refine dw_seq ?_; refine dwk [] TTO_ok hnt fun K hK => ?_; refine hK _ _ ?_; clear hK K; refine dw_block ?_
   refine dw_loop (ι := { j : Nat // j ≤ l.length }) (fun j => [(.t 0, .sl 2 (eTys l) none), (.t 3, .sl 2 (eTys (l.take j.1)) (some 0)), (.t 4, .v (.int .i64 ↑j.1)), (.r 0, .rw 52 2 j.1)]) 1 (fun j => l.length - j.1) (⟨0, Nat.zero_le _⟩) ((VS.toK (by omega) (by repeat first | exact trivial | refine And.intro (And.intro (by first | rfl | simp [D.ok, D.oks, D.okss, D.okm, upto, keyOk, argsT]) (by first | exact Or.inl rfl | exact Or.inr ⟨_, rfl, (by repeat first | exact VLe.refl _ | exact VLe.nil _ | exact VLe.untag _ _ _ | refine VLe.ag ?_ | refine VLe.tu ?_ | refine VLeL.cons ?_ ?_ | exact VLeL.nil), trivial⟩ | simp [get, Key.eq, argsT])) ?_))) fun j => ?_
   obtain ⟨j, hj⟩ := j
   dsimp only
   by_cases hlt : j < l.length
   ·have hsz := Ty.size_mem (List.getElem_mem hlt)
    have hc := to4D_d l[j] (by omega)
    rw [eTy_eq] at hc
    have hl1 := eTys_tlen l j hj
    have hl2 := eTys_tlen l (j + 1) hlt
    refine dw_seq ?_; refine dw_seq ?_; refine dwk [(7, .v (.int .i64 (↑l.length))), (8, .v (.bool true))] TTO_ok hnt fun K hK => ?_; refine And.intro (dintE (by rw [eTys_len])) ?_; refine And.intro auT ?_; refine hK _ _ ?_; clear hK K; refine dw_cond (t := true) rfl ?_; rw [if_pos rfl]; refine dw_skip ?_; refine dw_seq ?_; refine dw_block ?_; refine dwk [(14, .q [.sl 2 (eTys l[j].args) none, .v (.int .i64 l[j].base)])] TTO_ok hnt fun K hK => ?_
    refine And.intro (elo (eTys_len l)) ?_; refine And.intro (elv (eTys_getD l j) (eTy_eq _)) ?_; refine dcl (hc) ?_; refine And.intro (⟨by omega, by rw [hl1]; simp; omega⟩) ?_; refine hK _ _ ?_; clear hK K
    rw [eTys_snoc l j hlt, hl2]
    refine dwk [(10, .v (.int .i64 (↑(j + 1))))] TTO_ok hnt fun K hK => ?_; refine And.intro auI ?_; refine hK _ _ ?_; clear hK K
    refine ⟨⟨j + 1, hlt⟩, by first | omega | (dsimp only; omega), VS.toA⟩
   ·rw [List.take_of_length_le (by omega)]
    refine dw_seq ?_; refine dw_seq ?_; refine dwk [(7, .v (.int .i64 (↑l.length))), (8, .v (.bool false))] TTO_ok hnt fun K hK => ?_; refine And.intro (dintE (by rw [eTys_len])) ?_; refine And.intro auF ?_; refine hK _ _ ?_; clear hK K; refine dw_cond (t := false) rfl ?_; rw [if_neg (by simp)]; refine dw_exit ?_; refine dw_seq ?_; refine dwk [] TTO_ok hnt fun K hK => ?_; refine hK _ _ ?_; clear hK K; refine dw_ret ?_
    exact reta rfl
theorem to6D_d : ∀ t : Tm, t.full ≤ 900000 → PureC Try.prog 26 [.ag (eTm t)] (.ag (eTm t)) := by
  intro t
  induction t using Tm.ind with
  | h bs k i ar ih =>
    intro hz
    rw [Tm.full_eq] at hz
    have hbs := toTys_d bs (by omega)
    have hal : ar.length ≤ Tm.fulls ar := by
      clear ih hz
      induction ar with
      | nil => simp
      | cons u l ih => have : 1 ≤ u.full := by obtain ⟨b, k, i, a⟩ := u; rw [Tm.full_eq]; omega
                       simp only [List.length_cons, Tm.fulls]; omega
    rw [eTm_eq]
    dsimp only [Tm.binds, Tm.kind, Tm.index, Tm.args]
    refine calldw 0 35 [ResultVar.cell 2 43] TTO_ok Try.func26 rfl Try.ntmps26 rfl fun cx hnt hn0 => ?_
    · skip
      refine dw_seq ?_
      refine dwk [] TTO_ok hnt fun K hK => ?_
      refine hK _ _ ?_; clear hK K
      refine dw_seq ?_
      refine dwkD [] TTO_ok hnt fun K hK => ?_
      refine dcl (hbs) ?_
      refine hK _ _ (by kernel_rfl) ?_; clear hK K
      refine DW.vs (VS.row (k := 13) (off := 3) 43 4 rfl) ?_
      refine dw_seq ?_
      refine dw_seq ?_
      refine dwk [] TTO_ok hnt fun K hK => ?_
      refine hK _ _ ?_; clear hK K
      refine dw_block ?_
      refine dw_loop (ι := { j : Nat // j ≤ ar.length }) (fun j => [(.t 1, .p 0 0), (.t 2, .p 1 0), (.t 3, .p 13 0), (.t 4, .v (.int .i64 ↑j.1)), (.c 0 0, .sl 2 (eTys bs) none), (.c 0 1, .v (.int .i64 k)), (.c 0 2, .v (.int .i64 i)), (.c 0 3, .sl 4 (eTms ar) none), (.c 1 0, .v (.slice none 0 0)), (.c 1 1, .v (.int .i64 0)), (.c 1 2, .v (.int .i64 0)), (.c 1 3, .v (.slice none 0 0)), (.c 13 0, .sl 2 (eTys bs) none), (.c 13 1, .v (.int .i64 k)), (.c 13 2, .v (.int .i64 i)), (.c 13 3, .sl 4 (eTms (ar.take j.1)) (some 15)), (.r 15, .rw 43 4 j.1)]) 16 (fun j => ar.length - j.1) (⟨0, Nat.zero_le _⟩) ((VS.toK (by omega) (by repeat first | exact trivial | refine And.intro (And.intro (by first | rfl | simp [D.ok, D.oks, D.okss, D.okm, upto, keyOk, argsT]) (by first | exact Or.inl rfl | exact Or.inr ⟨_, rfl, (by repeat first | exact VLe.refl _ | exact VLe.nil _ | exact VLe.untag _ _ _ | refine VLe.ag ?_ | refine VLe.tu ?_ | refine VLeL.cons ?_ ?_ | exact VLeL.nil), trivial⟩ | simp [get, Key.eq, argsT])) ?_))) fun j => ?_
      obtain ⟨j, hj⟩ := j
      dsimp only
      by_cases hlt : j < ar.length
      · have hmem := List.getElem_mem hlt
        have hsz := Tm.full_mem hmem
        have hc := ih _ hmem (by omega)
        rw [eTm_eq] at hc
        have hl1 := eTms_tlen ar j hj
        have hl2 := eTms_tlen ar (j + 1) hlt
        refine dw_seq ?_
        refine dw_seq ?_
        refine dwk [(19, .v (.int .i64 (↑ar.length))), (20, .v (.bool true))] TTO_ok hnt fun K hK => ?_
        refine And.intro (dintE (by rw [eTms_len])) ?_
        refine And.intro auT ?_
        refine hK _ _ ?_; clear hK K
        refine dw_cond (t := true) rfl ?_
        rw [if_pos rfl]
        refine dw_skip ?_
        refine dw_seq ?_
        refine dw_block ?_
        refine dwkD [(28, .q [.sl 2 (eTys ar[j].binds) none, .v (.int .i64 ar[j].kind), .v (.int .i64 ar[j].index), .sl 4 (eTms ar[j].args) none])] TTO_ok hnt fun K hK => ?_
        refine And.intro (elo (eTms_len ar)) ?_
        refine And.intro (elv (eTms_getD ar j) (eTm_eq _)) ?_
        refine dcl (hc) ?_
        refine And.intro (⟨by omega, by rw [hl1]; simp; omega⟩) ?_
        refine hK _ _ (by kernel_rfl) ?_; clear hK K
        rw [eTms_snoc ar j hlt, hl2]
        refine dwk [(22, .v (.int .i64 (↑(j + 1))))] TTO_ok hnt fun K hK => ?_
        refine And.intro auI ?_
        refine hK _ _ ?_; clear hK K
        refine ⟨⟨j + 1, hlt⟩, by first | omega | (dsimp only; omega), VS.toA⟩
      · rw [List.take_of_length_le (by omega)]
        refine dw_seq ?_
        refine dw_seq ?_
        refine dwk [(19, .v (.int .i64 (↑ar.length))), (20, .v (.bool false))] TTO_ok hnt fun K hK => ?_
        refine And.intro (dintE (by rw [eTms_len])) ?_
        refine And.intro auF ?_
        refine hK _ _ ?_; clear hK K
        refine dw_cond (t := false) rfl ?_
        rw [if_neg (by simp)]
        refine dw_exit ?_
        refine dw_seq ?_
        refine dwk [] TTO_ok hnt fun K hK => ?_
        refine hK _ _ ?_; clear hK K
        refine dw_ret ?_
        exact reta rfl
end Go.Proofs.Ytnpjjkeokcoedaa

namespace Go.Proofs.Ytnpjjkeokcoedaa
open Go.RowKit
def TPR_31 : TI := ⟨9, true, [Value.slice none 0 0, Value.int IntKind.i64 0, Value.int IntKind.i64 0, Value.slice none 0 0, Value.slice none 0 0, Value.int IntKind.i64 0, Value.int IntKind.i64 0, Value.slice none 0 0, Value.slice none 0 0], [(0, 4, true), (4, 4, true), (8, 1, false)], none, 152, 6, none, false⟩
theorem TPR_31_ok : TypOk Try.prog 31 TPR_31 := ⟨by kernel_rfl, by kernel_rfl, by kernel_rfl, by kernel_rfl, by kernel_rfl⟩
def TPR_29 : TI := ⟨4, true, [Value.slice none 0 0, Value.int IntKind.i64 0, Value.int IntKind.i64 0, Value.slice none 0 0], [(0, 1, false), (1, 2, true), (3, 1, false)], none, 64, 6, none, false⟩
theorem TPR_29_ok : TypOk Try.prog 29 TPR_29 := ⟨by kernel_rfl, by kernel_rfl, by kernel_rfl, by kernel_rfl, by kernel_rfl⟩
def TPR_63 : TI := ⟨1, false, [Value.slice none 0 0], [], some 31, 24, 5, none, false⟩
theorem TPR_63_ok : TypOk Try.prog 63 TPR_63 := ⟨by kernel_rfl, by kernel_rfl, by kernel_rfl, by kernel_rfl, by kernel_rfl⟩
def TPR_45 : TI := ⟨9, true, [Value.slice none 0 0, Value.int IntKind.i64 0, Value.int IntKind.i64 0, Value.slice none 0 0, Value.slice none 0 0, Value.int IntKind.i64 0, Value.int IntKind.i64 0, Value.slice none 0 0, Value.slice none 0 0], [(0, 4, true), (4, 4, true), (8, 1, false)], none, 152, 6, none, false⟩
theorem TPR_45_ok : TypOk Try.prog 45 TPR_45 := ⟨by kernel_rfl, by kernel_rfl, by kernel_rfl, by kernel_rfl, by kernel_rfl⟩
def TPR_22 : TI := ⟨1, false, [Value.slice none 0 0], [], some 69, 24, 5, none, false⟩
theorem TPR_22_ok : TypOk Try.prog 22 TPR_22 := ⟨by kernel_rfl, by kernel_rfl, by kernel_rfl, by kernel_rfl, by kernel_rfl⟩
def TPR_27 : TI := ⟨1, false, [Value.slice none 0 0], [], some 29, 24, 5, none, false⟩
theorem TPR_27_ok : TypOk Try.prog 27 TPR_27 := ⟨by kernel_rfl, by kernel_rfl, by kernel_rfl, by kernel_rfl, by kernel_rfl⟩
def TPR_24 : TI := ⟨3, true, [Value.int IntKind.i64 0, Value.slice none 0 0, Value.slice none 0 0], [(0, 1, false), (1, 1, false), (2, 1, false)], none, 56, 6, none, false⟩
theorem TPR_24_ok : TypOk Try.prog 24 TPR_24 := ⟨by kernel_rfl, by kernel_rfl, by kernel_rfl, by kernel_rfl, by kernel_rfl⟩
def TPR_3 : TI := ⟨1, false, [Value.int IntKind.i64 0], [], none, 8, 2, none, false⟩
theorem TPR_3_ok : TypOk Try.prog 3 TPR_3 := ⟨by kernel_rfl, by kernel_rfl, by kernel_rfl, by kernel_rfl, by kernel_rfl⟩
def TPR_69 : TI := ⟨2, true, [Value.slice none 0 0, Value.int IntKind.i64 0], [(0, 1, false), (1, 1, false)], none, 32, 6, none, false⟩
theorem TPR_69_ok : TypOk Try.prog 69 TPR_69 := ⟨by kernel_rfl, by kernel_rfl, by kernel_rfl, by kernel_rfl, by kernel_rfl⟩
def TPR : List (Nat × TI) := [(31, TPR_31), (29, TPR_29), (63, TPR_63), (45, TPR_45), (22, TPR_22), (27, TPR_27), (24, TPR_24), (3, TPR_3), (69, TPR_69)]
theorem TPR_ok : TabOk Try.prog TPR := ((((((((((TabOk.nil _).cons TPR_69_ok).cons TPR_3_ok).cons TPR_24_ok).cons TPR_27_ok).cons TPR_22_ok).cons TPR_45_ok).cons TPR_63_ok).cons TPR_29_ok).cons TPR_31_ok)
namespace Li
structure Pr where
  l : Tm
  r : Tm
  m : List Ty
instance : DecidableEq Pr := fun p q => decidable_of_iff (p.l = q.l ∧ p.r = q.r ∧ p.m = q.m) (by cases p; cases q; simp)
def Pr.z : Pr := ⟨Tm.zero, Tm.zero, []⟩
end Li
def ePr (p : Li.Pr) : List D := [.sl 2 (eTys p.l.binds) none, .v (.int .i64 p.l.kind), .v (.int .i64 p.l.index), .sl 4 (eTms p.l.args) none, .sl 2 (eTys p.r.binds) none, .v (.int .i64 p.r.kind), .v (.int .i64 p.r.index), .sl 4 (eTms p.r.args) none, .sl 2 (eTys p.m) none]
theorem ePr_eq (L R : Tm) (M : List Ty) : ePr ⟨L, R, M⟩ = [.sl 2 (eTys L.binds) none, .v (.int .i64 L.kind), .v (.int .i64 L.index), .sl 4 (eTms L.args) none, .sl 2 (eTys R.binds) none, .v (.int .i64 R.kind), .v (.int .i64 R.index), .sl 4 (eTms R.args) none, .sl 2 (eTys M) none] := rfl
theorem ePr_at (p : Li.Pr) : ePr p = [.sl 2 (eTys p.l.binds) none, .v (.int .i64 p.l.kind), .v (.int .i64 p.l.index), .sl 4 (eTms p.l.args) none, .sl 2 (eTys p.r.binds) none, .v (.int .i64 p.r.kind), .v (.int .i64 p.r.index), .sl 4 (eTms p.r.args) none, .sl 2 (eTys p.m) none] := rfl
theorem ePr_z : ePr .z = [.sl 2 [] none, .v (.int .i64 0), .v (.int .i64 0), .sl 4 [] none, .sl 2 [] none, .v (.int .i64 0), .v (.int .i64 0), .sl 4 [] none, .sl 2 [] none] := rfl
@[simp] theorem ePr_ok (f g : Nat → Bool) (p : Li.Pr) : D.oks f g (ePr p) = true := by simp [ePr, D.oks, D.ok]
def ePrs (l : List Li.Pr) : List (List D) := l.map ePr
theorem ePrs_len (l : List Li.Pr) : (ePrs l).length = l.length := List.length_map ..
theorem ePrs_getD (l : List Li.Pr) (i : Nat) (h : i < l.length) : (ePrs l).getD i [] = ePr l[i] := by
  rw [ePrs, List.getD_eq_getElem?_getD, List.getElem?_map, List.getElem?_eq_getElem h]; rfl
@[simp] theorem ePrs_ok (f g : Nat → Bool) (l : List Li.Pr) : D.okss f g (ePrs l) = true := D.okss_map _ l fun l _ => ePr_ok f g l
theorem to17_d (p : Li.Pr) (h1 : p.l.full ≤ 900000) (h2 : p.r.full ≤ 900000) (h3 : Ty.sizes p.m ≤ 900000) : PureC Try.prog 9 [.ag (ePr p)] (.ag (ePr p)) := by
 obtain ⟨L, R, M⟩ := p
 have c1 := to6D_d L h1
 have c2 := to6D_d R h2
 have c3 := toTys_d M h3
 rw [eTm_eq] at c1 c2
 rw [ePr_eq]
 refine calldw 0 13 [ResultVar.cell 2 45] TPR_ok Try.func9 rfl Try.ntmps9 rfl fun cx hnt hn0 => ?_
 ·skip
  refine dw_seq ?_; refine dwk [] TPR_ok hnt fun K hK => ?_; refine hK _ _ ?_; clear hK K; refine dw_seq ?_; refine dwkD [] TPR_ok hnt fun K hK => ?_; refine dcl (c1) ?_; refine dcl (c2) ?_; refine dcl (c3) ?_; refine hK _ _ (by kernel_rfl) ?_; clear hK K; refine dw_ret ?_
  exact reta rfl
/-! Few -/
def fewP (p : Li.Pr) : Bool := (([p.l, p.r].all fewB) && (decide (p.m.length ≤ 20) && p.m.all few4B)) && lowsB [p.l, p.r]
theorem smallP_d (X : List Ty) : PureC Try.prog 6 [.ag [.v (.int .i64 0), .sl 2 (eTys []) none, .sl 2 (eTys []) none], .sl 2 (eTys X) none] (.v (.bool (decide (X.length ≤ 20) && X.all few4B))) := by
  by_cases h : X.length ≤ 20
  · have := small_d 0 [] [] X (by simp) (by simp) h
    rw [List.append_nil, List.nil_append] at this
    rw [decide_eq_true h, Bool.true_and]; exact this
  · rw [decide_eq_false h, Bool.false_and]
    exact small_no 0 [] [] X (fun h2 => h h2.2.2)
theorem fewP_ok {p : Li.Pr} (h : fewP p = true) : (p.l.full ≤ 150 ∧ p.r.full ≤ 150) ∧ p.m.length ≤ 20 ∧ (∀ t ∈ p.m, t.size ≤ 60) := by
  unfold fewP at h
  simp only [Bool.and_eq_true, List.all_cons, List.all_nil, and_true, decide_eq_true_eq] at h
  exact ⟨⟨(fewB_full h.1.1.1).1, (fewB_full h.1.1.2).1⟩, h.1.2.1, fun t ht => fewT60 (List.all_eq_true.1 h.1.2.2 t ht)⟩
set_option maxHeartbeats 2000000 in
theorem few17_d (l : List Li.Pr) (hl : l.length ≤ 1000000) : PureC Try.prog 4 [.sl 9 (ePrs l) none] (.v (.bool (l.all fewP))) := by
 refine calldw 0 48 [ResultVar.tmp 2] TPR_ok Try.func4 rfl Try.ntmps4 rfl fun cx hnt hn0 => ?_
 ·skip
  refine dw_seq ?_; refine dwk [] TPR_ok hnt fun K hK => ?_; refine hK _ _ ?_; clear hK K; refine dw_seq ?_; refine dw_seq ?_; refine dwk [] TPR_ok hnt fun K hK => ?_; refine hK _ _ ?_; clear hK K; refine dw_block ?_
  refine dw_loop (ι := { j : Nat // ∀ i (h : i < l.length), i < j → fewP l[i] = true }) (fun j => [(.t 0, .sl 9 (ePrs l) none), (.t 3, .v (.int .i64 ↑j.1))]) 1 (fun j => l.length - j.1) (⟨0, fun i h1 h2 => by omega⟩) (VS.toA) fun j => ?_
  obtain ⟨j, hj⟩ := j
  dsimp only
  by_cases hlt : j < l.length
  ·obtain ⟨p, hp⟩ : ∃ p, l[j] = p := ⟨_, rfl⟩
   have hgd : (ePrs l).getD j [] = [.sl 2 (eTys p.l.binds) none, .v (.int .i64 p.l.kind), .v (.int .i64 p.l.index), .sl 4 (eTms p.l.args) none, .sl 2 (eTys p.r.binds) none, .v (.int .i64 p.r.kind), .v (.int .i64 p.r.index), .sl 4 (eTms p.r.args) none, .sl 2 (eTys p.m) none] := by rw [ePrs_getD l j hlt, hp, ePr_at]
   have hF := lawFew_d [p.l, p.r] (by simp)
   have hS := smallP_d p.m
   have hbad : fewP p = false → l.all fewP = false := fun h => by rw [List.all_eq_false]; exact ⟨l[j], List.getElem_mem hlt, by rw [hp, h]; simp⟩
   have e2 : eTms [p.l, p.r] = [[.sl 2 (eTys p.l.binds) none, .v (.int .i64 p.l.kind), .v (.int .i64 p.l.index), .sl 4 (eTms p.l.args) none], [.sl 2 (eTys p.r.binds) none, .v (.int .i64 p.r.kind), .v (.int .i64 p.r.index), .sl 4 (eTms p.r.args) none]] := by rw [← eTm_eq, ← eTm_eq]; rfl
   cases h1 : [p.l, p.r].all fewB with
   | false =>
    rw [h1] at hF
    rw [hbad (by rw [fewP, h1]; rfl)]
    refine dw_seq ?_; refine dw_seq ?_; refine dwk [(6, .v (.int .i64 (↑l.length))), (7, .v (.bool true))] TPR_ok hnt fun K hK => ?_; refine And.intro (dintE (by rw [ePrs_len])) ?_; refine And.intro auT ?_; refine hK _ _ ?_; clear hK K; refine dw_cond (t := true) rfl ?_; rw [if_pos rfl]; refine dw_skip ?_; refine dw_seq ?_; refine dw_block ?_; refine dw_seq ?_; refine dwkD [(12, .q [.sl 2 (eTys p.l.binds) none, .v (.int .i64 p.l.kind), .v (.int .i64 p.l.index), .sl 4 (eTms p.l.args) none, .sl 2 (eTys p.r.binds) none, .v (.int .i64 p.r.kind), .v (.int .i64 p.r.index), .sl 4 (eTms p.r.args) none, .sl 2 (eTys p.m) none]), (17, .q [.sl 2 (eTys p.l.binds) none, .v (.int .i64 p.l.kind), .v (.int .i64 p.l.index), .sl 4 (eTms p.l.args) none, .sl 2 (eTys p.r.binds) none, .v (.int .i64 p.r.kind), .v (.int .i64 p.r.index), .sl 4 (eTms p.r.args) none, .sl 2 (eTys p.m) none]), (20, .sl 4 (eTms [p.l, p.r]) none)] TPR_ok hnt fun K hK => ?_
    refine And.intro (⟨by omega, by rw [ePrs_len]; omega⟩) ?_; refine And.intro (VLe.of_eq (by rw [Int.toNat_natCast, hgd])) ?_; refine And.intro (⟨by omega, by rw [ePrs_len]; omega⟩) ?_; refine And.intro (VLe.of_eq (by rw [Int.toNat_natCast, hgd])) ?_; refine And.intro ((by rw [e2]; exact VLe.untag _ _ _)) ?_; refine dcl (hF) ?_; refine hK _ _ (by kernel_rfl) ?_; clear hK K; refine dw_cond (t := true) rfl ?_
    rw [if_pos rfl]; refine dw_seq ?_; refine dwk [] TPR_ok hnt fun K hK => ?_; refine hK _ _ ?_; clear hK K; refine dw_ret ?_
    exact reta rfl
   | true =>
    rw [h1] at hF
    cases h2 : (decide (p.m.length ≤ 20) && p.m.all few4B) with
    | false =>
     rw [h2] at hS
     rw [hbad (by rw [fewP, h1, h2]; rfl)]
     refine dw_seq ?_; refine dw_seq ?_; refine dwk [(6, .v (.int .i64 (↑l.length))), (7, .v (.bool true))] TPR_ok hnt fun K hK => ?_; refine And.intro (dintE (by rw [ePrs_len])) ?_; refine And.intro auT ?_; refine hK _ _ ?_; clear hK K; refine dw_cond (t := true) rfl ?_; rw [if_pos rfl]; refine dw_skip ?_; refine dw_seq ?_; refine dw_block ?_; refine dw_seq ?_; refine dwkD [(12, .q [.sl 2 (eTys p.l.binds) none, .v (.int .i64 p.l.kind), .v (.int .i64 p.l.index), .sl 4 (eTms p.l.args) none, .sl 2 (eTys p.r.binds) none, .v (.int .i64 p.r.kind), .v (.int .i64 p.r.index), .sl 4 (eTms p.r.args) none, .sl 2 (eTys p.m) none]), (17, .q [.sl 2 (eTys p.l.binds) none, .v (.int .i64 p.l.kind), .v (.int .i64 p.l.index), .sl 4 (eTms p.l.args) none, .sl 2 (eTys p.r.binds) none, .v (.int .i64 p.r.kind), .v (.int .i64 p.r.index), .sl 4 (eTms p.r.args) none, .sl 2 (eTys p.m) none]), (20, .sl 4 (eTms [p.l, p.r]) none), (24, .ag [.v (.int .i64 0), .sl 2 (eTys []) none, .sl 2 (eTys []) none]), (27, .q [.sl 2 (eTys p.l.binds) none, .v (.int .i64 p.l.kind), .v (.int .i64 p.l.index), .sl 4 (eTms p.l.args) none, .sl 2 (eTys p.r.binds) none, .v (.int .i64 p.r.kind), .v (.int .i64 p.r.index), .sl 4 (eTms p.r.args) none, .sl 2 (eTys p.m) none])] TPR_ok hnt fun K hK => ?_
     refine And.intro (⟨by omega, by rw [ePrs_len]; omega⟩) ?_; refine And.intro (VLe.of_eq (by rw [Int.toNat_natCast, hgd])) ?_; refine And.intro (⟨by omega, by rw [ePrs_len]; omega⟩) ?_; refine And.intro (VLe.of_eq (by rw [Int.toNat_natCast, hgd])) ?_; refine And.intro ((by rw [e2]; exact VLe.untag _ _ _)) ?_; refine dcl (hF) ?_; refine And.intro (auV) ?_; refine And.intro (⟨by omega, by rw [ePrs_len]; omega⟩) ?_
     refine And.intro (VLe.of_eq (by rw [Int.toNat_natCast, hgd])) ?_; refine dcl (hS) ?_; refine hK _ _ (by kernel_rfl) ?_; clear hK K; refine dw_cond (t := true) rfl ?_; rw [if_pos rfl]; refine dw_seq ?_; refine dwk [] TPR_ok hnt fun K hK => ?_; refine hK _ _ ?_; clear hK K; refine dw_ret ?_
     exact reta rfl
    | true =>
     rw [h2] at hS
     have h1' := h1
     simp only [List.all_cons, List.all_nil, Bool.and_true, Bool.and_eq_true] at h1'
     have hL := low_d [p.l, p.r] (by simp) (fun t ht => by
      rcases List.mem_cons.1 ht with rfl | ht
      ·exact wide_full _ (by have := (fewB_full h1'.1).1; omega)
      ·rw [List.mem_singleton] at ht; subst ht; exact wide_full _ (by have := (fewB_full h1'.2).1; omega))
     cases h3 : lowsB [p.l, p.r] with
     | false =>
      rw [h3] at hL
      rw [hbad (by rw [fewP, h1, h2, h3]; rfl)]
      refine dw_seq ?_; refine dw_seq ?_; refine dwk [(6, .v (.int .i64 (↑l.length))), (7, .v (.bool true))] TPR_ok hnt fun K hK => ?_; refine And.intro (dintE (by rw [ePrs_len])) ?_; refine And.intro auT ?_; refine hK _ _ ?_; clear hK K; refine dw_cond (t := true) rfl ?_; rw [if_pos rfl]; refine dw_skip ?_; refine dw_seq ?_; refine dw_block ?_; refine dw_seq ?_; refine dwkD [(12, .q [.sl 2 (eTys p.l.binds) none, .v (.int .i64 p.l.kind), .v (.int .i64 p.l.index), .sl 4 (eTms p.l.args) none, .sl 2 (eTys p.r.binds) none, .v (.int .i64 p.r.kind), .v (.int .i64 p.r.index), .sl 4 (eTms p.r.args) none, .sl 2 (eTys p.m) none]), (17, .q [.sl 2 (eTys p.l.binds) none, .v (.int .i64 p.l.kind), .v (.int .i64 p.l.index), .sl 4 (eTms p.l.args) none, .sl 2 (eTys p.r.binds) none, .v (.int .i64 p.r.kind), .v (.int .i64 p.r.index), .sl 4 (eTms p.r.args) none, .sl 2 (eTys p.m) none]), (20, .sl 4 (eTms [p.l, p.r]) none), (24, .ag [.v (.int .i64 0), .sl 2 (eTys []) none, .sl 2 (eTys []) none]), (27, .q [.sl 2 (eTys p.l.binds) none, .v (.int .i64 p.l.kind), .v (.int .i64 p.l.index), .sl 4 (eTms p.l.args) none, .sl 2 (eTys p.r.binds) none, .v (.int .i64 p.r.kind), .v (.int .i64 p.r.index), .sl 4 (eTms p.r.args) none, .sl 2 (eTys p.m) none]), (36, .q [.sl 2 (eTys p.l.binds) none, .v (.int .i64 p.l.kind), .v (.int .i64 p.l.index), .sl 4 (eTms p.l.args) none, .sl 2 (eTys p.r.binds) none, .v (.int .i64 p.r.kind), .v (.int .i64 p.r.index), .sl 4 (eTms p.r.args) none, .sl 2 (eTys p.m) none]), (41, .q [.sl 2 (eTys p.l.binds) none, .v (.int .i64 p.l.kind), .v (.int .i64 p.l.index), .sl 4 (eTms p.l.args) none, .sl 2 (eTys p.r.binds) none, .v (.int .i64 p.r.kind), .v (.int .i64 p.r.index), .sl 4 (eTms p.r.args) none, .sl 2 (eTys p.m) none]), (44, .sl 4 (eTms [p.l, p.r]) none)] TPR_ok hnt fun K hK => ?_
      refine And.intro (⟨by omega, by rw [ePrs_len]; omega⟩) ?_; refine And.intro (VLe.of_eq (by rw [Int.toNat_natCast, hgd])) ?_; refine And.intro (⟨by omega, by rw [ePrs_len]; omega⟩) ?_; refine And.intro (VLe.of_eq (by rw [Int.toNat_natCast, hgd])) ?_; refine And.intro ((by rw [e2]; exact VLe.untag _ _ _)) ?_; refine dcl (hF) ?_; refine And.intro (auV) ?_; refine And.intro (⟨by omega, by rw [ePrs_len]; omega⟩) ?_
      refine And.intro (VLe.of_eq (by rw [Int.toNat_natCast, hgd])) ?_; refine dcl (hS) ?_; refine And.intro (⟨by omega, by rw [ePrs_len]; omega⟩) ?_; refine And.intro (VLe.of_eq (by rw [Int.toNat_natCast, hgd])) ?_; refine And.intro (⟨by omega, by rw [ePrs_len]; omega⟩) ?_; refine And.intro (VLe.of_eq (by rw [Int.toNat_natCast, hgd])) ?_; refine And.intro ((by rw [e2]; exact VLe.untag _ _ _)) ?_; refine dcl (hL) ?_
      refine hK _ _ (by kernel_rfl) ?_; clear hK K; refine dw_cond (t := true) rfl ?_; rw [if_pos rfl]; refine dw_seq ?_; refine dwk [] TPR_ok hnt fun K hK => ?_; refine hK _ _ ?_; clear hK K; refine dw_ret ?_
      exact reta rfl
     | true =>
      rw [h3] at hL
      refine dw_seq ?_; refine dw_seq ?_; refine dwk [(6, .v (.int .i64 (↑l.length))), (7, .v (.bool true))] TPR_ok hnt fun K hK => ?_; refine And.intro (dintE (by rw [ePrs_len])) ?_; refine And.intro auT ?_; refine hK _ _ ?_; clear hK K; refine dw_cond (t := true) rfl ?_; rw [if_pos rfl]; refine dw_skip ?_; refine dw_seq ?_; refine dw_block ?_; refine dw_seq ?_; refine dwkD [(12, .q [.sl 2 (eTys p.l.binds) none, .v (.int .i64 p.l.kind), .v (.int .i64 p.l.index), .sl 4 (eTms p.l.args) none, .sl 2 (eTys p.r.binds) none, .v (.int .i64 p.r.kind), .v (.int .i64 p.r.index), .sl 4 (eTms p.r.args) none, .sl 2 (eTys p.m) none]), (17, .q [.sl 2 (eTys p.l.binds) none, .v (.int .i64 p.l.kind), .v (.int .i64 p.l.index), .sl 4 (eTms p.l.args) none, .sl 2 (eTys p.r.binds) none, .v (.int .i64 p.r.kind), .v (.int .i64 p.r.index), .sl 4 (eTms p.r.args) none, .sl 2 (eTys p.m) none]), (20, .sl 4 (eTms [p.l, p.r]) none), (24, .ag [.v (.int .i64 0), .sl 2 (eTys []) none, .sl 2 (eTys []) none]), (27, .q [.sl 2 (eTys p.l.binds) none, .v (.int .i64 p.l.kind), .v (.int .i64 p.l.index), .sl 4 (eTms p.l.args) none, .sl 2 (eTys p.r.binds) none, .v (.int .i64 p.r.kind), .v (.int .i64 p.r.index), .sl 4 (eTms p.r.args) none, .sl 2 (eTys p.m) none]), (36, .q [.sl 2 (eTys p.l.binds) none, .v (.int .i64 p.l.kind), .v (.int .i64 p.l.index), .sl 4 (eTms p.l.args) none, .sl 2 (eTys p.r.binds) none, .v (.int .i64 p.r.kind), .v (.int .i64 p.r.index), .sl 4 (eTms p.r.args) none, .sl 2 (eTys p.m) none]), (41, .q [.sl 2 (eTys p.l.binds) none, .v (.int .i64 p.l.kind), .v (.int .i64 p.l.index), .sl 4 (eTms p.l.args) none, .sl 2 (eTys p.r.binds) none, .v (.int .i64 p.r.kind), .v (.int .i64 p.r.index), .sl 4 (eTms p.r.args) none, .sl 2 (eTys p.m) none]), (44, .sl 4 (eTms [p.l, p.r]) none)] TPR_ok hnt fun K hK => ?_
      refine And.intro (⟨by omega, by rw [ePrs_len]; omega⟩) ?_; refine And.intro (VLe.of_eq (by rw [Int.toNat_natCast, hgd])) ?_; refine And.intro (⟨by omega, by rw [ePrs_len]; omega⟩) ?_; refine And.intro (VLe.of_eq (by rw [Int.toNat_natCast, hgd])) ?_; refine And.intro ((by rw [e2]; exact VLe.untag _ _ _)) ?_; refine dcl (hF) ?_; refine And.intro (auV) ?_; refine And.intro (⟨by omega, by rw [ePrs_len]; omega⟩) ?_
      refine And.intro (VLe.of_eq (by rw [Int.toNat_natCast, hgd])) ?_; refine dcl (hS) ?_; refine And.intro (⟨by omega, by rw [ePrs_len]; omega⟩) ?_; refine And.intro (VLe.of_eq (by rw [Int.toNat_natCast, hgd])) ?_; refine And.intro (⟨by omega, by rw [ePrs_len]; omega⟩) ?_; refine And.intro (VLe.of_eq (by rw [Int.toNat_natCast, hgd])) ?_; refine And.intro ((by rw [e2]; exact VLe.untag _ _ _)) ?_; refine dcl (hL) ?_
      refine hK _ _ (by kernel_rfl) ?_; clear hK K; refine dw_cond (t := false) rfl ?_; rw [if_neg (by simp)]; refine dw_skip ?_; refine dwk [(9, .v (.int .i64 (↑(j + 1))))] TPR_ok hnt fun K hK => ?_; refine And.intro auI ?_; refine hK _ _ ?_; clear hK K
      refine ⟨⟨j + 1, fun i h1' h2' => if e : i = j then by subst e; rw [hp, fewP, h1, h2, h3]; rfl else hj i h1' (by omega)⟩, by first | omega | (dsimp only; omega), VS.toA⟩
  ·have ha : l.all fewP = true := by
    rw [List.all_eq_true]
    intro t ht
    obtain ⟨i, hi, rfl⟩ := List.getElem_of_mem ht
    exact hj i hi (by omega)
   rw [ha]
   refine dw_seq ?_; refine dw_seq ?_; refine dwk [(6, .v (.int .i64 (↑l.length))), (7, .v (.bool false))] TPR_ok hnt fun K hK => ?_; refine And.intro (dintE (by rw [ePrs_len])) ?_; refine And.intro auF ?_; refine hK _ _ ?_; clear hK K; refine dw_cond (t := false) rfl ?_; rw [if_neg (by simp)]; refine dw_exit ?_; refine dw_seq ?_; refine dwk [] TPR_ok hnt fun K hK => ?_; refine hK _ _ ?_; clear hK K; refine dw_ret ?_
   exact reta rfl
end Go.Proofs.Ytnpjjkeokcoedaa

namespace Go.Proofs.Ytnpjjkeokcoedaa
open Go.RowKit Go.ChangeShapes Go.WideShapes Go.ChangeAt

theorem cellsP17 : Try.prog.cellsOf 31 = 9 := by kernel_rfl
theorem nine_of {α : Type} {cs : List α} (h : cs.length = 9) : ∃ a b c d e f g i j, cs = [a, b, c, d, e, f, g, i, j] := by
  match cs, h with
  | [a, b, c, d, e, f, g, i, j], _ => exact ⟨a, b, c, d, e, f, g, i, j, rfl⟩
structure IsP17 (F : Nat → Prop) (w : World) (v1 v2 v3 v4 v5 v6 v7 v8 v9 : Value) (p : Li.Pr) : Prop where
  l : IsTm F w v1 v2 v3 v4 p.l
  r : IsTm F w v5 v6 v7 v8 p.r
  m : IsSl rpTy F w v9 p.m
set_option maxRecDepth 100000 in
theorem openP17 {H : Type} {enc : TypeId × Value → H} {W : World} {base : Nat} {sp : Nat → Bool} {hd : Bool} {r : Reach} {b0 : Nat} {v : Value} {d : DataW H} {p : List MemPlace}
    (hval : Value.okWide Try.prog W r b0 31 v) (h : DataW.Trod enc Try.prog W base sp hd 31 v d p) :
    ∃ v1 v2 v3 v4 v5 v6 v7 v8 v9 q, v = .agg #[v1, v2, v3, v4, v5, v6, v7, v8, v9] ∧ IsP17 (fun _ => True) W v1 v2 v3 v4 v5 v6 v7 v8 v9 q ∧ (q.l.Fit ∧ q.r.Fit) := by
  obtain ⟨n, h⟩ := h
  obtain ⟨xs, m, _, _, hl, hlen, hf⟩ := DataW.trod_struct Try.underlying31 h
  rw [cellsP17] at hl
  obtain ⟨v0, v1, v2, v3, v4, v5, v6, v7, v8, hv⟩ := nine_of hl
  rw [hv] at hf
  have h0 : DataW.trod enc Try.prog W base sp hd m 29 ([v0, v1, v2, v3, v4, v5, v6, v7, v8].take (Try.prog.cellsOf 29)) = xs[0]? := hf 0 _ rfl
  have h1 : DataW.trod enc Try.prog W base sp hd m 29 ([v4, v5, v6, v7, v8].take (Try.prog.cellsOf 29)) = xs[1]? := hf 1 _ rfl
  have h2 : DataW.trod enc Try.prog W base sp hd m 22 ([v8].take (Try.prog.cellsOf 22)) = xs[2]? := hf 2 _ rfl
  rw [cellsTerm] at h0 h1
  rw [cellsSR] at h2
  have hlen : xs.length = 3 := hlen
  rw [List.getElem?_eq_getElem (by omega)] at h0 h1 h2
  obtain ⟨t, ⟨b, k, j, a, hx, ht⟩, hfit⟩ := rdM enc W base sp hd m _ _ h0
  obtain ⟨t', ⟨b', k', j', a', hx', ht'⟩, hfit'⟩ := rdM enc W base sp hd m _ _ h1
  obtain ⟨ma, mn, mc, M, hmv, _, hM, _⟩ := sl_of_trod Try.underlying22 cellsR (by decide) (fun j hj => rdR enc W base sp hd j) h2
  have e0 : [v0, v1, v2, v3] = [b, k, j, a] := hx
  have e1 : [v4, v5, v6, v7] = [b', k', j', a'] := hx'
  have e2 : [v8] = [.slice ma mn mc] := hmv
  simp only [List.cons.injEq, and_true] at e0 e1 e2
  obtain ⟨rfl, rfl, rfl, rfl⟩ := e0
  obtain ⟨rfl, rfl, rfl, rfl⟩ := e1
  subst e2
  obtain ⟨cs, rfl, _⟩ := okWide_struct Try.underlying31 hval
  refine ⟨_, _, _, _, _, _, _, _, _, ⟨t, t', M⟩, ?_, ⟨ht, ht', hM⟩, hfit, hfit'⟩
  have : cs.toList = [v0, v1, v2, v3, v4, v5, v6, v7, .slice ma mn mc] := hv
  rw [← Array.toList_inj.1 (show cs.toList = (#[v0, v1, v2, v3, v4, v5, v6, v7, .slice ma mn mc] : Array Value).toList from this)]
theorem relP17 {m : Mp} {w : World} {F : Nat → Prop} {v1 v2 v3 v4 v5 v6 v7 v8 v9 : Value} {p : Li.Pr} (h : IsP17 F w v1 v2 v3 v4 v5 v6 v7 v8 v9 p) : Rel m (cellI F w) w (.agg #[v1, v2, v3, v4, v5, v6, v7, v8, v9]) (.ag (ePr p)) := by
  have e : ePr p = eTm p.l ++ (eTm p.r ++ [.sl 2 (eTys p.m) none]) := by rw [eTm_eq, eTm_eq]; rfl
  rw [e]
  exact rel_ag.2 ⟨[v1, v2, v3, v4, v5, v6, v7, v8, v9], rfl, (rel_of_tm cellI_of p.l h.l).append ((rel_of_tm cellI_of p.r h.r).append ⟨relTys h.m, trivial⟩)⟩
end Go.Proofs.Ytnpjjkeokcoedaa

namespace Go.Proofs.Ytnpjjkeokcoedaa
open Go.RowKit
namespace Ru
def ix (m : Int) : List Int → Nat
  | [] => 0
  | x :: l => if x = m then 0 else ix m l + 1
def met (o : List Int) (m : Int) : List Int := if m ∈ o then o else o ++ [m]
mutual
def tr : Tm → List Int → List Int × Tm
  | .mk b k i a, o => ((trs a (if k = 2 then met o i else o)).1, .mk b k (if k = 2 then (ix i o : Int) else i) (trs a (if k = 2 then met o i else o)).2)
def trs : List Tm → List Int → List Int × List Tm
  | [], o => (o, [])
  | t :: l, o => ((trs l (tr t o).1).1, (tr t o).2 :: (trs l (tr t o).1).2)
end
theorem tr_eq (b : List Ty) (k i : Int) (a : List Tm) (o : List Int) : tr (.mk b k i a) o = ((trs a (if k = 2 then met o i else o)).1, .mk b k (if k = 2 then (ix i o : Int) else i) (trs a (if k = 2 then met o i else o)).2) := by rw [tr]
theorem met_len (o : List Int) (m : Int) : (met o m).length ≤ o.length + 1 := by
  unfold met; split
  · omega
  · simp
theorem trs_grow_of {l : List Tm} (h : ∀ t ∈ l, ∀ o, (tr t o).1.length ≤ o.length + t.full) : ∀ o, (trs l o).1.length ≤ o.length + Tm.fulls l := by
  induction l with
  | nil => intro o; simp [trs, Tm.fulls]
  | cons t l ih =>
    intro o
    have h1 := h t (by simp) o
    have h2 := ih (fun u hu => h u (by simp [hu])) (tr t o).1
    rw [trs, Tm.fulls]
    dsimp only
    omega
theorem tr_grow (t : Tm) : ∀ o, (tr t o).1.length ≤ o.length + t.full := by
  induction t using Tm.ind with
  | h b k i a ih =>
    intro o
    have h2 : (if k = 2 then met o i else o).length ≤ o.length + 1 := by
      split
      · exact met_len o i
      · omega
    rw [tr_eq, Tm.full_eq]
    dsimp only
    generalize (if k = 2 then met o i else o) = o1 at h2 ⊢
    have h1 := trs_grow_of ih o1
    omega
def eN : List Int → Nat → List (Int × D)
  | [], _ => []
  | x :: l, n => (x, .v (.int .i64 ((n : Nat) : Int))) :: eN l (n + 1)
@[simp] theorem eN_ok (f g : Nat → Bool) : ∀ (o : List Int) (n : Nat), D.okm f g (eN o n) = true
  | [], _ => by simp [eN, D.okm]
  | x :: l, n => by simp [eN, D.okm, D.ok, eN_ok f g l (n + 1)]
end Ru
end Go.Proofs.Ytnpjjkeokcoedaa

namespace Go.Proofs.Ytnpjjkeokcoedaa
open Go.RowKit
end Go.Proofs.Ytnpjjkeokcoedaa

namespace Go.Proofs.Ytnpjjkeokcoedaa
open Go.RowKit
namespace Ru
open Li (Pr)
def bad (M : List Ty) (x : Int) : Bool := decide (x < 0 ∨ (M.length : Int) ≤ x)
def mt (M : List Ty) (x : Int) : Ty := M.getD x.toNat (.mk [] 0)
def own (p : Pr) : Pr × Int :=
  if (tr p.r (tr p.l []).1).1.any (bad p.m) then (.z, 10) else (⟨(tr p.l []).2, (tr p.r (tr p.l []).1).2, (tr p.r (tr p.l []).1).1.map (mt p.m)⟩, 0)
theorem trs_full_of {l : List Tm} (h : ∀ t ∈ l, ∀ o, (tr t o).2.full = t.full) : ∀ o, Tm.fulls (trs l o).2 = Tm.fulls l := by
  induction l with
  | nil => intro o; simp [trs]
  | cons t l ih =>
    intro o
    have h1 := h t (by simp) o
    have h2 := ih (fun u hu => h u (by simp [hu])) (tr t o).1
    rw [trs, Tm.fulls]
    try dsimp only
    rw [Tm.fulls]; omega
theorem tr_full (t : Tm) : ∀ o, (tr t o).2.full = t.full := by
  induction t using Tm.ind with
  | h b k i a ih =>
    intro o
    rw [tr_eq, Tm.full_eq]
    try dsimp only
    rw [Tm.full_eq, trs_full_of ih]
theorem ix_le (m : Int) : ∀ o : List Int, ix m o ≤ o.length
  | [] => Nat.le_refl _
  | x :: l => by
    rw [ix]; split
    · exact Nat.zero_le _
    · have := ix_le m l; simp; omega
theorem trs_fit_of {l : List Tm} (h : ∀ t ∈ l, ∀ o, o.length + t.full ≤ 1000000 → t.Fit → (tr t o).2.Fit) : ∀ o, o.length + Tm.fulls l ≤ 1000000 → (∀ t ∈ l, t.Fit) → ∀ u ∈ (trs l o).2, u.Fit := by
  induction l with
  | nil => intro o _ _ u hu; simp [trs] at hu
  | cons t l ih =>
    intro o hz hf u hu
    rw [Tm.fulls] at hz
    have h1 := tr_grow t o
    rw [trs] at hu
    dsimp only at hu
    rcases List.mem_cons.1 hu with rfl | hu
    · exact h t (by simp) o (by omega) (hf t (by simp))
    · exact ih (fun u hu => h u (by simp [hu])) (tr t o).1 (by omega) (fun u hu => hf u (by simp [hu])) u hu
theorem tr_fit (t : Tm) : ∀ o, o.length + t.full ≤ 1000000 → t.Fit → (tr t o).2.Fit := by
  induction t using Tm.ind with
  | h b k i a ih =>
    intro o hz hf
    rw [Tm.full_eq] at hz
    obtain ⟨f1, f2, f3⟩ := Tm.fit_iff.1 hf
    have h1 := ix_le i o
    have h2 := met_len o i
    rw [tr_eq]
    try dsimp only
    refine Tm.fit_iff.2 ⟨?_, ?_, trs_fit_of ih _ ?_ f3⟩
    · split <;> omega
    · split <;> omega
    · split <;> omega
end Ru
namespace Ru
end Ru
end Go.Proofs.Ytnpjjkeokcoedaa

namespace Go.Proofs.Ytnpjjkeokcoedaa
open Go.RowKit
namespace Pn
end Pn
end Go.Proofs.Ytnpjjkeokcoedaa

namespace Go.Proofs.Ytnpjjkeokcoedaa
open Go.RowKit
namespace Ru
/-! renamed -/
mutual
def rn (l : List Int) : Tm → Tm
  | .mk b k i a => .mk b k (if k = 2 ∧ i ∈ l then (ix i l : Int) else i) (rns l a)
def rns (l : List Int) : List Tm → List Tm
  | [] => []
  | t :: r => rn l t :: rns l r
end
end Ru
end Go.Proofs.Ytnpjjkeokcoedaa

namespace Go.Proofs.Ytnpjjkeokcoedaa
open Go.RowKit
namespace Ru
end Ru
namespace Ru
def cur (l : List Int) (i : Int) (j : Nat) : Int := if i ∈ l.take j then (ix i l : Int) else i
end Ru
end Go.Proofs.Ytnpjjkeokcoedaa

namespace Go.Proofs.Ytnpjjkeokcoedaa
open Go.RowKit
def TLI_43 : TI := ⟨4, true, [Value.slice none 0 0, Value.int IntKind.i64 0, Value.int IntKind.i64 0, Value.slice none 0 0], [(0, 1, false), (1, 2, true), (3, 1, false)], none, 64, 6, none, false⟩
theorem TLI_43_ok : TypOk Try.prog 43 TLI_43 := ⟨by kernel_rfl, by kernel_rfl, by kernel_rfl, by kernel_rfl, by kernel_rfl⟩
def TLI_41 : TI := ⟨1, false, [Value.slice none 0 0], [], some 43, 24, 5, none, false⟩
theorem TLI_41_ok : TypOk Try.prog 41 TLI_41 := ⟨by kernel_rfl, by kernel_rfl, by kernel_rfl, by kernel_rfl, by kernel_rfl⟩
def TLI_3 : TI := ⟨1, false, [Value.int IntKind.i64 0], [], none, 8, 2, none, false⟩
theorem TLI_3_ok : TypOk Try.prog 3 TLI_3 := ⟨by kernel_rfl, by kernel_rfl, by kernel_rfl, by kernel_rfl, by kernel_rfl⟩
def TLI_36 : TI := ⟨1, false, [Value.slice none 0 0], [], some 52, 24, 5, none, false⟩
theorem TLI_36_ok : TypOk Try.prog 36 TLI_36 := ⟨by kernel_rfl, by kernel_rfl, by kernel_rfl, by kernel_rfl, by kernel_rfl⟩
def TLI_131 : TI := ⟨1, false, [Value.slice none 0 0], [], some 41, 24, 5, none, false⟩
theorem TLI_131_ok : TypOk Try.prog 131 TLI_131 := ⟨by kernel_rfl, by kernel_rfl, by kernel_rfl, by kernel_rfl, by kernel_rfl⟩
def TLI_102 : TI := ⟨10, true, [Value.slice none 0 0, Value.int IntKind.i64 0, Value.int IntKind.i64 0, Value.slice none 0 0, Value.slice none 0 0, Value.int IntKind.i64 0, Value.int IntKind.i64 0, Value.slice none 0 0, Value.slice none 0 0, Value.slice none 0 0], [(0, 9, true), (9, 1, false)], none, 176, 6, none, false⟩
theorem TLI_102_ok : TypOk Try.prog 102 TLI_102 := ⟨by kernel_rfl, by kernel_rfl, by kernel_rfl, by kernel_rfl, by kernel_rfl⟩
def TLI_52 : TI := ⟨2, true, [Value.slice none 0 0, Value.int IntKind.i64 0], [(0, 1, false), (1, 1, false)], none, 32, 6, none, false⟩
theorem TLI_52_ok : TypOk Try.prog 52 TLI_52 := ⟨by kernel_rfl, by kernel_rfl, by kernel_rfl, by kernel_rfl, by kernel_rfl⟩
def TLI_40 : TI := ⟨2, true, [Value.int IntKind.i64 0, Value.int IntKind.i64 0], [(0, 1, false), (1, 1, false)], none, 16, 6, none, true⟩
theorem TLI_40_ok : TypOk Try.prog 40 TLI_40 := ⟨by kernel_rfl, by kernel_rfl, by kernel_rfl, by kernel_rfl, by kernel_rfl⟩
def TLI_120 : TI := ⟨1, false, [Value.nilFunc], [], none, 8, 8, none, false⟩
theorem TLI_120_ok : TypOk Try.prog 120 TLI_120 := ⟨by kernel_rfl, by kernel_rfl, by kernel_rfl, by kernel_rfl, by kernel_rfl⟩
def TLI : List (Nat × TI) := [(43, TLI_43), (41, TLI_41), (3, TLI_3), (36, TLI_36), (131, TLI_131), (102, TLI_102), (52, TLI_52), (40, TLI_40), (120, TLI_120)]
theorem TLI_ok : TabOk Try.prog TLI := ((((((((((TabOk.nil _).cons TLI_120_ok).cons TLI_40_ok).cons TLI_52_ok).cons TLI_102_ok).cons TLI_131_ok).cons TLI_36_ok).cons TLI_3_ok).cons TLI_41_ok).cons TLI_43_ok)

/-! slices.Concat of terms -/
def eTmss (ls : List (List Tm)) : List (List D) := ls.map fun l => [.sl 4 (eTms l) none]
theorem eTmss_len (l : List (List Tm)) : (eTmss l).length = l.length := List.length_map ..
theorem eTmss_getD (l : List (List Tm)) (i : Nat) (h : i < l.length) : (eTmss l).getD i [] = [.sl 4 (eTms l[i]) none] := by
  rw [eTmss, List.getD_eq_getElem?_getD, List.getElem?_map, List.getElem?_eq_getElem h]; rfl
@[simp] theorem eTmss_ok (f g : Nat → Bool) (l : List (List Tm)) : D.okss f g (eTmss l) = true := D.okss_map _ l fun l _ => by simp [D.oks, D.ok, eTms_ok]
set_option maxRecDepth 100000 in
set_option maxHeartbeats 400000 in
theorem growT_at (n : Nat) (m : Int) (w : World) (hnm : m = n) (hn : n ≤ 1000000) :
    Calls Try.prog 77 #[.slice none 0 0, .int .i64 m] w fun e w' => ∃ v, e = .returned v ∧ Below w.heap.size w w' ∧ (v = .slice none 0 0 ∨ (v.ownBlock = some w.heap.size ∧ ∃ g, v = .slice (some ⟨w.heap.size, 0, none⟩) 0 g ∧ w'.ownsRow w.heap.size 43 4 v 0 [])) := by
  subst hnm
  obtain ⟨i0, hi0, hz0, hz1, hz2⟩ := info_parts infoT
  by_cases h0 : n = 0
  · subst h0
    go_enter Try.func77, Try.ntmps77
    go_wp2_with fail
    go_ret
    exact ⟨_, rfl, Below.refl _ _, .inl rfl⟩
  · have hr : ∀ ty, (Builtin.append_ #[41, 3] ty #[.slice none 0 0, .int .i64 (n : Int)]).run Try.prog w = _ := fun ty =>
      Lib.run_append_grow_zeros w 41 3 ty 43 i0 (.agg #[.slice none 0 0, .int .i64 0, .int .i64 0, .slice none 0 0]) .i64 .i64 Try.underlying41 Try.underlying3 hi0 hz0 none 0 0 [] (run_firstCells_none _ _ _ _ _) n (by omega) (by rw [hz1]; decide) (by omega) (by omega) (by rw [hz2]; omega) (by rw [hz2]; exact growslice_fits (by omega) (by omega))
    have hr' : ∃ g, n ≤ g ∧ g ≤ maxLen ∧ ∀ ty, (Builtin.append_ #[41, 3] ty #[.slice none 0 0, .int .i64 (n : Int)]).run Try.prog w = .ok (.slice (some ⟨w.heap.size, 0, none⟩) n g) (w.drew.alloc (.cells (Builtin.zeroCells (#[.slice none 0 0, .int .i64 0, .int .i64 0, .slice none 0 0]) n ++ Builtin.zeroCells (#[.slice none 0 0, .int .i64 0, .int .i64 0, .slice none 0 0]) (g - n)) 43)) := by
      refine ⟨grownCap w n 0 43, grownCap_ge _ _ _ _, grownCap_le_maxLen _ _ _ _ (by unfold maxLen; omega), fun ty => ?_⟩
      have := hr ty
      simpa [Value.cells] using this
    obtain ⟨g, hg1, hg2, hg⟩ := hr'
    have hg2' := hg2
    clear hg2
    clear hr
    have hn0 : 0 < (n : Int) := by omega
    have Hg := Lib.hid hg; clear hg
    go_enter Try.func77, Try.ntmps77
    go_wp2_with (at_builtin; refine wpList_append_eq rfl _ _ _ _ _ rfl (Hg.out _) ?_)
    go_ret
    refine ⟨_, rfl, (Below.refl _ _).drew.alloc (Nat.le_refl _) _, .inr ⟨rfl, g, rfl, rfl, .inr ⟨w.heap.size, g, _, rfl, Nat.le_refl _, heap_alloc_new w.drew _, Nat.zero_le _, hg2', ?_, rfl⟩⟩⟩
    first | (simp [size_zeroCells]; done) | (simp [size_zeroCells]; omega)
theorem growT_d (n : Int) (h0 : 0 ≤ n) (h1 : n ≤ 1000000) (nm : Nat) : CallN Try.prog 77 [.v (.slice none 0 0), .v (.int .i64 n)] [] nm [(.r nm, .rw 43 4 0)] (.sl 4 [] (some nm)) := by
  refine ⟨by kernel_rfl, fun cx Fr m Im w a σ vs hn hs hv _ => ?_⟩
  match vs, hv with
  | [x, y], hv =>
    have := rel_v.1 hv.1; subst this
    have := rel_v.1 hv.2.1; subst this
    refine (growT_at n.toNat n w (by omega) (by omega)).mono ?_
    rintro e w' ⟨v, rfl, hb, hv⟩
    rw [dropT_nil]
    rcases hv with rfl | ⟨ho, g, rfl, hr⟩
    · have hg : (m.setR nm ⟨.slice none 0 0, 0, 43, 4⟩).row nm = some ⟨.slice none 0 0, 0, 43, 4⟩ := by simp [Mp.setR]
      exact ⟨_, _, Im, rfl, (hs.newRow hn 43 4).below0 hb, rel_nil hg⟩
    · obtain ⟨s1, s2⟩ := hs.rowMade hn (.slice (some ⟨w.heap.size, 0, none⟩) 0 g) 43 4 hb ⟨hr.1, hr.2.imp id fun ⟨g, cap, cur, q1, q2, q3⟩ => ⟨g, cap, cur, q1, Nat.zero_le _, q3⟩⟩ ho
      refine ⟨_, _, Im, rfl, s1, ?_⟩
      exact .sl _ _ 0 0 4 (fun _ _ => undef) [] (some nm) ⟨Nat.zero_le _, Nat.zero_le _⟩ (fun h => absurd h (by simp)) (fun i _ h => absurd h (by simp)) (fun i h => absurd h (by simp)) (fun i _ h => absurd h (by simp)) (fun i h => absurd h (by simp)) fun r e => by
        cases e; exact ⟨_, by simp [Mp.setR]; rfl, Nat.le_refl _, fun _ => rfl⟩
def lensT : List (List Tm) → Nat
  | [] => 0
  | l :: r => l.length + lensT r
theorem lensT_take (ls : List (List Tm)) (j : Nat) (h : j < ls.length) : lensT (ls.take (j + 1)) = lensT (ls.take j) + ls[j].length := by
  induction ls generalizing j with
  | nil => simp at h
  | cons l r ih =>
    cases j with
    | zero => simp [lensT]
    | succ j => simp only [List.take_succ_cons, lensT, List.getElem_cons_succ]; rw [ih j (by simpa using h)]; omega
theorem lensT_flat (ls : List (List Tm)) : ls.flatten.length = lensT ls := by
  induction ls with
  | nil => rfl
  | cons l r ih => simp [lensT, ih]
theorem lensT_le (ls : List (List Tm)) (j : Nat) : lensT (ls.take j) ≤ lensT ls := by
  induction ls generalizing j with
  | nil => simp [lensT]
  | cons l r ih =>
    cases j with
    | zero => simp [lensT]
    | succ j => simp only [List.take_succ_cons, lensT]; have := ih j; omega
theorem flatT_take (ls : List (List Tm)) (j : Nat) (h : j < ls.length) : (ls.take (j + 1)).flatten = (ls.take j).flatten ++ ls[j] := by
  rw [List.take_add_one, List.getElem?_eq_getElem h, List.flatten_append]; simp
set_option maxHeartbeats 1000000 in
theorem concatT_d (ls : List (List Tm)) (hl : lensT ls ≤ 900000) (hn : ls.length ≤ 1000) : PureC Try.prog 65 [.sl 1 (eTmss ls) none] (.sl 4 (eTms ls.flatten) none) := by
 refine calldw 0 36 [ResultVar.tmp 2] TLI_ok Try.func65 rfl Try.ntmps65 rfl fun cx hnt hn0 => ?_
 ·skip
  refine dw_seq ?_; refine dwk [] TLI_ok hnt fun K hK => ?_; refine hK _ _ ?_; clear hK K; refine dw_seq ?_; refine dwk [] TLI_ok hnt fun K hK => ?_; refine hK _ _ ?_; clear hK K; refine dw_seq ?_; refine dw_seq ?_; refine dwk [(10, .v (.int .i64 (ls.length)))] TLI_ok hnt fun K hK => ?_; refine And.intro (dintE (by rw [eTmss_len])) ?_; refine hK _ _ ?_; clear hK K; refine dw_block ?_
  refine dw_loop (ι := Nat) (fun j => [(.t 0, .sl 1 (eTmss ls) none), (.t 9, .sl 1 (eTmss ls) none), (.t 10, .v (.int .i64 ls.length)), (.t 11, .v (.int .i64 (j : Int))), (.t 3, .v (.int .i64 (lensT (ls.take j) : Nat)))]) 0 (fun j => ls.length - j) (0) ((VS.toK (by omega) (by repeat first | exact trivial | refine And.intro (And.intro (by first | rfl | simp [D.ok, D.oks, D.okss, D.okm, upto, keyOk, lensT]) (by first | exact Or.inl rfl | exact Or.inr ⟨_, rfl, (by repeat first | exact VLe.refl _ | exact VLe.nil _ | exact VLe.untag _ _ _ | refine VLe.ag ?_ | refine VLe.tu ?_ | refine VLeL.cons ?_ ?_ | exact VLeL.nil), trivial⟩ | simp [get, Key.eq, lensT])) ?_))) fun j => ?_
  by_cases hlt : j < ls.length
  ·have h1 := lensT_take ls j hlt
   have h2 := lensT_le ls (j + 1)
   refine dw_seq ?_; refine dwk [(12, .v (.bool true))] TLI_ok hnt fun K hK => ?_; refine And.intro auT ?_; refine hK _ _ ?_; clear hK K; refine dw_seq ?_; refine dw_cond (t := true) rfl ?_; rw [if_pos rfl]; refine dw_skip ?_; refine dw_seq ?_; refine dw_block ?_; refine dw_seq ?_; refine dwk [(13, .q [.sl 4 (eTms ls[j]) none])] TLI_ok hnt fun K hK => ?_; refine And.intro (⟨by omega, by rw [eTmss_len]; omega⟩) ?_
   refine And.intro (VLe.of_eq (by rw [Int.toNat_natCast, eTmss_getD ls j hlt])) ?_; refine hK _ _ ?_; clear hK K; refine dw_seq ?_; refine dwk [(18, .v (.int .i64 (↑(lensT (ls.take (j + 1))))))] TLI_ok hnt fun K hK => ?_; refine And.intro (dintE (by rw [eTms_len, IntWalk.i64_in _ (by omega)]; omega)) ?_; refine hK _ _ ?_; clear hK K; refine dw_seq ?_; refine dwk [(20, .v (.bool false))] TLI_ok hnt fun K hK => ?_
   refine And.intro auF ?_; refine hK _ _ ?_; clear hK K; refine dw_cond (t := false) rfl ?_; rw [if_neg (by simp)]; refine dw_skip ?_; refine dwk [(22, .v (.int .i64 (↑(j + 1))))] TLI_ok hnt fun K hK => ?_; refine And.intro auI ?_; refine hK _ _ ?_; clear hK K
   refine ⟨j + 1, by first | omega | (dsimp only; omega), VS.toA⟩
  ·have h3 : ls.take j = ls := List.take_of_length_le (by omega)
   have hg := growT_d (lensT (ls.take j) : Nat) (by omega) (by rw [h3]; omega)
   rw [h3] at hg ⊢
   refine dw_seq ?_; refine dwk [(12, .v (.bool false))] TLI_ok hnt fun K hK => ?_; refine And.intro auF ?_; refine hK _ _ ?_; clear hK K; refine dw_seq ?_; refine dw_cond (t := false) rfl ?_; rw [if_neg (by simp)]; refine dw_exit ?_; refine dw_seq ?_; refine dwk [] TLI_ok hnt fun K hK => ?_; refine dcn (hg _) ?_; refine hK _ _ ?_; clear hK K; refine dw_seq ?_; refine dw_seq ?_; refine dwk [(26, .v (.int .i64 (ls.length)))] TLI_ok hnt fun K hK => ?_
   refine And.intro (dintE (by rw [eTmss_len])) ?_; refine hK _ _ ?_; clear hK K; refine dw_block ?_
   refine dw_loop (ι := Nat) (fun j => [(.t 25, .sl 1 (eTmss ls) none), (.t 26, .v (.int .i64 ls.length)), (.t 27, .v (.int .i64 (j : Int))), (.t 6, .sl 4 (eTms (ls.take j).flatten) (some 2)), (.r 2, .rw 43 4 (ls.take j).flatten.length)]) 3 (fun j => ls.length - j) (0) (VS.toA) fun i => ?_
   by_cases hli : i < ls.length
   ·have h4 := lensT_take ls i hli
    have h5 := lensT_le ls (i + 1)
    have h6 := flatT_take ls i hli
    have h7 := lensT_flat (ls.take i)
    refine dw_seq ?_; refine dwk [(28, .v (.bool true))] TLI_ok hnt fun K hK => ?_; refine And.intro auT ?_; refine hK _ _ ?_; clear hK K; refine dw_seq ?_; refine dw_cond (t := true) rfl ?_; rw [if_pos rfl]; refine dw_skip ?_; refine dw_seq ?_; refine dw_block ?_; refine dw_seq ?_; refine dwk [(29, .q [.sl 4 (eTms ls[i]) none])] TLI_ok hnt fun K hK => ?_; refine And.intro (⟨by omega, by rw [eTmss_len]; omega⟩) ?_
    refine And.intro (VLe.of_eq (by rw [Int.toNat_natCast, eTmss_getD ls i hli])) ?_; refine hK _ _ ?_; clear hK K; refine dwk [(33, .sl 4 (eTms (ls.take (i + 1)).flatten) (some 2))] TLI_ok hnt fun K hK => ?_; refine And.intro (⟨by rw [eTms_len], by rw [eTms_len, eTms_len, h7]; omega⟩) ?_; refine And.intro (VLe.of_eq (by rw [h6, eTms_append])) ?_; refine hK _ _ ?_; clear hK K; refine dwk [(34, .v (.int .i64 (↑(i + 1))))] TLI_ok hnt fun K hK => ?_
    refine And.intro auI ?_; refine hK _ _ ?_; clear hK K
    have h8 : (eTms (ls.take i).flatten ++ eTms ls[i]).length = (ls.take (i + 1)).flatten.length := by rw [h6, ← eTms_append, eTms_len]
    refine ⟨i + 1, by first | omega | (dsimp only; omega), (by try simp only [List.length_append, List.length_take, List.length_cons, List.length_nil, Nat.zero_add, h8]; exact VS.toA)⟩
   ·have h9 : ls.take i = ls := List.take_of_length_le (by omega)
    rw [h9]
    refine dw_seq ?_; refine dwk [(28, .v (.bool false))] TLI_ok hnt fun K hK => ?_; refine And.intro auF ?_; refine hK _ _ ?_; clear hK K; refine dw_seq ?_; refine dw_cond (t := false) rfl ?_; rw [if_neg (by simp)]; refine dw_exit ?_; refine dw_seq ?_; refine dwk [] TLI_ok hnt fun K hK => ?_; refine hK _ _ ?_; clear hK K; refine dw_ret ?_
    exact reta rfl

/-! variables -/
namespace Li
def vars (B : List Ty) (n : Int) : List Tm := B.mapIdx fun i b => Ty.Eta b 0 (n + B.length - 1 - i)
theorem vars_len (B : List Ty) (n : Int) : (vars B n).length = B.length := List.length_mapIdx ..
theorem vars_get (B : List Ty) (n : Int) (j : Nat) (h : j < B.length) : (vars B n)[j]'(by rw [vars_len]; exact h) = Ty.Eta B[j] 0 (n + B.length - 1 - j) := by
  unfold vars; rw [List.getElem_mapIdx]
mutual
def lif (B : List Ty) : Tm → Int → Tm
  | .mk b k i a, n => .mk b k i ((if k = 2 then vars B (n + b.length) else []) ++ lifs B a (n + b.length))
def lifs (B : List Ty) : List Tm → Int → List Tm
  | [], _ => []
  | t :: l, n => lif B t n :: lifs B l n
end
theorem lif_eq (B b : List Ty) (k i : Int) (a : List Tm) (n : Int) : lif B (.mk b k i a) n = .mk b k i ((if k = 2 then vars B (n + b.length) else []) ++ lifs B a (n + b.length)) := by rw [lif]
theorem lifs_map (B : List Ty) (l : List Tm) (n : Int) : lifs B l n = l.map (lif B · n) := by
  induction l with
  | nil => rfl
  | cons t l ih => rw [lifs, ih]; rfl
theorem lifs_len (B : List Ty) (l : List Tm) (n : Int) : (lifs B l n).length = l.length := by rw [lifs_map, List.length_map]
theorem lifs_snoc (B : List Ty) (l : List Tm) (n : Int) (j : Nat) (h : j < l.length) : eTms ((lifs B l n).take j) ++ [eTm (lif B l[j] n)] = eTms ((lifs B l n).take (j + 1)) := by
  have h2 : j < (lifs B l n).length := by rw [lifs_len]; exact h
  have := eTms_snoc _ _ h2
  rw [← eTm_eq] at this
  rw [← this]
  congr 2
  simp only [lifs_map, List.getElem_map]
end Li
set_option maxHeartbeats 1000000 in
theorem lvars_d (L R : Tm) (M B : List Ty) (n : Int) (hn : 0 ≤ n ∧ n ≤ 1000000) (hl : B.length ≤ 1000) (hB : ∀ b ∈ B, b.size ≤ 1000) : PureC Try.prog 66 [.ag [.sl 2 (eTys L.binds) none, .v (.int .i64 L.kind), .v (.int .i64 L.index), .sl 4 (eTms L.args) none, .sl 2 (eTys R.binds) none, .v (.int .i64 R.kind), .v (.int .i64 R.index), .sl 4 (eTms R.args) none, .sl 2 (eTys M) none, .sl 2 (eTys B) none], .v (.int .i64 n)] (.sl 4 (eTms (Li.vars B n)) none) := by
 refine calldw 0 34 [ResultVar.tmp 4] TLI_ok Try.func66 rfl Try.ntmps66 rfl fun cx hnt hn0 => ?_
 ·skip
  refine dw_seq ?_; refine dwk [] TLI_ok hnt fun K hK => ?_; refine hK _ _ ?_; clear hK K
  refine dw_cut (τ := [(.t 1, .v (.int .i64 n)), (.t 2, .p 0 0), (.t 5, .v (.slice none 0 0)), (.c 0 0, .sl 2 (eTys L.binds) none), (.c 0 1, .v (.int .i64 L.kind)), (.c 0 2, .v (.int .i64 L.index)), (.c 0 3, .sl 4 (eTms L.args) none), (.c 0 4, .sl 2 (eTys R.binds) none), (.c 0 5, .v (.int .i64 R.kind)), (.c 0 6, .v (.int .i64 R.index)), (.c 0 7, .sl 4 (eTms R.args) none), (.c 0 8, .sl 2 (eTys M) none), (.c 0 9, .sl 2 (eTys B) none)]) (N1 := 1) ?_ ?_
  ·skip
   refine dwk [] TLI_ok hnt fun K hK => ?_; refine hK _ _ ?_; clear hK K
   exact cut_ok VS.toA
  ·refine DW.vs (VS.rowT (x := 5) (by rw [hnt]; decide) 43 4 rfl) ?_
   refine dw_seq ?_; refine dwk [(11, .v (.int .i64 (↑B.length)))] TLI_ok hnt fun K hK => ?_; refine And.intro (dintE (by rw [eTys_len])) ?_; refine hK _ _ ?_; clear hK K; refine dw_seq ?_; refine dw_seq ?_; refine dwk [(14, .v (.int .i64 (↑B.length)))] TLI_ok hnt fun K hK => ?_; refine And.intro (dintE (by rw [eTys_len])) ?_; refine hK _ _ ?_; clear hK K; refine dw_block ?_
   refine dw_loop (ι := { j : Nat // j ≤ B.length }) (fun j => [(.t 1, .v (.int .i64 n)), (.t 6, .v (.int .i64 ↑B.length)), (.t 13, .sl 2 (eTys B) none), (.t 14, .v (.int .i64 ↑B.length)), (.t 15, .v (.int .i64 ↑j.1)), (.t 5, .sl 4 (eTms ((Li.vars B n).take j.1)) (some 1)), (.r 1, .rw 43 4 j.1)]) 2 (fun j => B.length - j.1) (⟨0, Nat.zero_le _⟩) (VS.toA) fun j => ?_
   obtain ⟨j, hj⟩ := j
   dsimp only
   by_cases hlt : j < B.length
   ·have hc := teta_d B[j] 0 (n + B.length - 1 - j) (hB _ (List.getElem_mem hlt))
    rw [← Li.vars_get B n j hlt, eTm_eq, eTy_eq] at hc
    have hl0 := Li.vars_len B n
    have hsn := eTms_snoc (Li.vars B n) j (by omega)
    have hl1 : (eTms ((Li.vars B n).take j)).length = j := by rw [eTms_len, List.length_take]; omega
    have hl2 : (eTms ((Li.vars B n).take (j + 1))).length = j + 1 := by rw [eTms_len, List.length_take]; omega
    refine dw_seq ?_; refine dwk [(16, .v (.bool true))] TLI_ok hnt fun K hK => ?_; refine And.intro auT ?_; refine hK _ _ ?_; clear hK K; refine dw_seq ?_; refine dw_cond (t := true) rfl ?_; rw [if_pos rfl]; refine dw_skip ?_; refine dw_seq ?_; refine dw_block ?_; refine dw_seq ?_; refine dwk [(18, .q [.sl 2 (eTys B[j].args) none, .v (.int .i64 B[j].base)])] TLI_ok hnt fun K hK => ?_; refine And.intro (elo (eTys_len B)) ?_
    refine And.intro (elv (eTys_getD B j) (eTy_eq _)) ?_; refine hK _ _ ?_; clear hK K; refine dwk [(26, .v (.int .i64 ((n + B.length - 1 - j))))] TLI_ok hnt fun K hK => ?_; refine And.intro (dintE (by rw [IntWalk.i64_in (n + B.length) (by omega), IntWalk.i64_in (n + B.length - 1) (by omega), IntWalk.i64_in _ (by omega)])) ?_; refine dcl (hc) ?_; refine And.intro (⟨by omega, by rw [hl1]; simp; omega⟩) ?_
    refine hK _ _ ?_; clear hK K
    rw [hsn, hl2]
    refine dwk [(32, .v (.int .i64 (↑(j + 1))))] TLI_ok hnt fun K hK => ?_; refine And.intro auI ?_; refine hK _ _ ?_; clear hK K
    refine ⟨⟨j + 1, hlt⟩, by first | omega | (dsimp only; omega), VS.toA⟩
   ·rw [List.take_of_length_le (by rw [Li.vars_len]; omega)]
    refine dw_seq ?_; refine dwk [(16, .v (.bool false))] TLI_ok hnt fun K hK => ?_; refine And.intro auF ?_; refine hK _ _ ?_; clear hK K; refine dw_seq ?_; refine dw_cond (t := false) rfl ?_; rw [if_neg (by simp)]; refine dw_exit ?_; refine dw_seq ?_; refine dwk [] TLI_ok hnt fun K hK => ?_; refine hK _ _ ?_; clear hK K; refine dw_ret ?_
    exact reta rfl
theorem lturn_d (L R : Tm) (M B : List Ty) (t : Tm) (n : Int) (hn : 0 ≤ n ∧ n ≤ 1000000) (hl : B.length ≤ 900) (hB : ∀ b ∈ B, b.size ≤ 1000) (ht : t.args.length ≤ 800000) : CallC Try.prog 64 [.ag (eTm t), .v (.int .i64 n), .p 0 0] [(.c 0 0, .sl 2 (eTys L.binds) none), (.c 0 1, .v (.int .i64 L.kind)), (.c 0 2, .v (.int .i64 L.index)), (.c 0 3, .sl 4 (eTms L.args) none), (.c 0 4, .sl 2 (eTys R.binds) none), (.c 0 5, .v (.int .i64 R.kind)), (.c 0 6, .v (.int .i64 R.index)), (.c 0 7, .sl 4 (eTms R.args) none), (.c 0 8, .sl 2 (eTys M) none), (.c 0 9, .sl 2 (eTys B) none)] [(.c 0 0, .sl 2 (eTys L.binds) none), (.c 0 1, .v (.int .i64 L.kind)), (.c 0 2, .v (.int .i64 L.index)), (.c 0 3, .sl 4 (eTms L.args) none), (.c 0 4, .sl 2 (eTys R.binds) none), (.c 0 5, .v (.int .i64 R.kind)), (.c 0 6, .v (.int .i64 R.index)), (.c 0 7, .sl 4 (eTms R.args) none), (.c 0 8, .sl 2 (eTys M) none), (.c 0 9, .sl 2 (eTys B) none)] (.ag (eTm (.mk t.binds t.kind t.index (Li.vars B n ++ t.args)))) := by
 have hv := lvars_d L R M B n hn (by omega) hB
 have hcat := concatT_d [Li.vars B n, t.args] (by simp [lensT, Li.vars_len]; omega) (by simp)
 simp only [List.flatten_cons, List.flatten_nil, List.append_nil] at hcat
 rw [eTm_eq, eTm_eq]
 simp only [bindsT, kindT, indexT, argsTm]
 refine calldw 1 15 [ResultVar.cell 5 43] TLI_ok Try.func64 rfl Try.ntmps64 rfl fun cx hnt hn0 => ?_
 ·skip
  refine dw_seq ?_; refine dwk [] TLI_ok hnt fun K hK => ?_; refine hK _ _ ?_; clear hK K; refine dw_seq ?_; refine dwkD [(11, .sl 1 (eTmss [Li.vars B n, t.args]) none)] TLI_ok hnt fun K hK => ?_; refine dcl (hv) ?_; refine And.intro (VLe.untag _ _ _) ?_; refine dcl (hcat) ?_; refine hK _ _ (by kernel_rfl) ?_; clear hK K; refine dw_seq ?_; refine dwk [] TLI_ok hnt fun K hK => ?_; refine hK _ _ ?_; clear hK K
  refine dw_ret ?_
  exact reta rfl
theorem leach_d (L R : Tm) (M B : List Ty) (hl : B.length ≤ 900) (hB : ∀ b ∈ B, b.size ≤ 1000) : ∀ (t : Tm) (n : Int), 0 ≤ n → n + t.full ≤ 700000 → CallC Try.prog 63 [.ag (eTm t), .v (.int .i64 n), .fn 64 [.p 0 0]] [(.c 0 0, .sl 2 (eTys L.binds) none), (.c 0 1, .v (.int .i64 L.kind)), (.c 0 2, .v (.int .i64 L.index)), (.c 0 3, .sl 4 (eTms L.args) none), (.c 0 4, .sl 2 (eTys R.binds) none), (.c 0 5, .v (.int .i64 R.kind)), (.c 0 6, .v (.int .i64 R.index)), (.c 0 7, .sl 4 (eTms R.args) none), (.c 0 8, .sl 2 (eTys M) none), (.c 0 9, .sl 2 (eTys B) none)] [(.c 0 0, .sl 2 (eTys L.binds) none), (.c 0 1, .v (.int .i64 L.kind)), (.c 0 2, .v (.int .i64 L.index)), (.c 0 3, .sl 4 (eTms L.args) none), (.c 0 4, .sl 2 (eTys R.binds) none), (.c 0 5, .v (.int .i64 R.kind)), (.c 0 6, .v (.int .i64 R.index)), (.c 0 7, .sl 4 (eTms R.args) none), (.c 0 8, .sl 2 (eTys M) none), (.c 0 9, .sl 2 (eTys B) none)] (.ag (eTm (Li.lif B t n))) := by
 intro t
 induction t using Tm.ind with
 | h b k i a ih =>
 intro n h0 hz
 rw [Tm.full_eq] at hz
 have hbl := Ty.le_sizes b
 have hal := cFulls_len a
 have hfl := pflex_d (.mk b k i a)
 obtain ⟨n', hn⟩ : ∃ n' : Int, n' = n + b.length := ⟨_, rfl⟩
 have htu := lturn_d L R M B (.mk b k i (Li.lifs B a n')) n' (by omega) hl hB (by simp only [argsTm, Li.lifs_len]; omega)
 rw [Li.lif_eq, ← hn]
 obtain ⟨v, hv⟩ : ∃ v, Li.vars B n' = v := ⟨_, rfl⟩
 have hl0 := Li.lifs_len B a n'
 have hsn := Li.lifs_snoc B a n'
 obtain ⟨r, hr⟩ : ∃ r, Li.lifs B a n' = r := ⟨_, rfl⟩
 rw [hr] at htu hsn hl0 ⊢
 rw [eTm_eq, eTm_eq] at htu
 rw [eTm_eq] at hfl
 rw [eTm_eq, eTm_eq]
 simp only [bindsT, kindT, indexT, argsTm] at htu hfl ⊢
 rw [hv] at htu ⊢
 have hfl : ∀ c : Bool, decide (k = 2) = c → PureC Try.prog 69 [.ag [.sl 2 (eTys b) none, .v (.int .i64 k), .v (.int .i64 i), .sl 4 (eTms a) none]] (.v (.bool c)) := fun c h => h ▸ hfl
 clear hv hr
 refine calldw 1 44 [ResultVar.cell 6 43] TLI_ok Try.func63 rfl Try.ntmps63 rfl fun cx hnt hn0 => ?_
 ·skip
  refine dw_seq ?_; refine dwk [] TLI_ok hnt fun K hK => ?_; refine hK _ _ ?_; clear hK K; refine dw_seq ?_; refine dwk [(14, .v (.int .i64 (n')))] TLI_ok hnt fun K hK => ?_; refine And.intro (dintE (by rw [eTys_len, IntWalk.i64_in _ (by omega)]; omega)) ?_; refine hK _ _ ?_; clear hK K; refine dw_seq ?_; refine dwk [] TLI_ok hnt fun K hK => ?_; refine hK _ _ ?_; clear hK K
  refine DW.vs (VS.row (k := 14) (off := 3) 43 4 rfl) ?_
  refine dw_seq ?_; refine dw_seq ?_; refine dwk [(22, .v (.int .i64 (↑a.length)))] TLI_ok hnt fun K hK => ?_; refine And.intro (dintE (by rw [eTms_len])) ?_; refine hK _ _ ?_; clear hK K; refine dw_block ?_
  refine dw_loop (ι := { j : Nat // j ≤ a.length }) (fun j => [(.t 1, .v (.int .i64 n')), (.t 2, .fn 64 [.p 0 0]), (.t 3, .p 1 0), (.t 6, .p 2 0), (.t 7, .p 14 0), (.t 21, .sl 4 (eTms a) none), (.t 22, .v (.int .i64 ↑a.length)), (.t 23, .v (.int .i64 ↑j.1)), (.c 1 0, .sl 2 (eTys b) none), (.c 1 1, .v (.int .i64 k)), (.c 1 2, .v (.int .i64 i)), (.c 1 3, .sl 4 (eTms a) none), (.c 2 0, .v (.slice none 0 0)), (.c 2 1, .v (.int .i64 0)), (.c 2 2, .v (.int .i64 0)), (.c 2 3, .v (.slice none 0 0)), (.c 14 0, .sl 2 (eTys b) none), (.c 14 1, .v (.int .i64 k)), (.c 14 2, .v (.int .i64 i)), (.c 14 3, .sl 4 (eTms (r.take j.1)) (some 16)), (.r 16, .rw 43 4 j.1), (.c 0 0, .sl 2 (eTys L.binds) none), (.c 0 1, .v (.int .i64 L.kind)), (.c 0 2, .v (.int .i64 L.index)), (.c 0 3, .sl 4 (eTms L.args) none), (.c 0 4, .sl 2 (eTys R.binds) none), (.c 0 5, .v (.int .i64 R.kind)), (.c 0 6, .v (.int .i64 R.index)), (.c 0 7, .sl 4 (eTms R.args) none), (.c 0 8, .sl 2 (eTys M) none), (.c 0 9, .sl 2 (eTys B) none)]) 17 (fun j => a.length - j.1) (⟨0, Nat.zero_le _⟩) (VS.toA) fun j => ?_
  obtain ⟨j, hj⟩ := j
  dsimp only
  by_cases hlt : j < a.length
  ·have hmem := List.getElem_mem hlt
   have hsz := Tm.full_mem hmem
   have hc := ih _ hmem n' (by omega) (by omega)
   have hs2 := hsn j hlt
   rw [eTm_eq, eTm_eq] at hc
   rw [eTm_eq] at hs2
   have hl1 : (eTms (r.take j)).length = j := by rw [eTms_len, List.length_take]; omega
   have hl2 : (eTms (r.take (j + 1))).length = j + 1 := by rw [eTms_len, List.length_take]; omega
   refine dw_seq ?_; refine dwk [(24, .v (.bool true))] TLI_ok hnt fun K hK => ?_; refine And.intro auT ?_; refine hK _ _ ?_; clear hK K; refine dw_seq ?_; refine dw_cond (t := true) rfl ?_; rw [if_pos rfl]; refine dw_skip ?_; refine dw_seq ?_; refine dw_block ?_; refine dw_seq ?_; refine dwk [(25, .q [.sl 2 (eTys a[j].binds) none, .v (.int .i64 a[j].kind), .v (.int .i64 a[j].index), .sl 4 (eTms a[j].args) none])] TLI_ok hnt fun K hK => ?_
   refine And.intro (elo (eTms_len a)) ?_; refine And.intro (elv (eTms_getD a j) (eTm_eq _)) ?_; refine hK _ _ ?_; clear hK K; refine dwkD [] TLI_ok hnt fun K hK => ?_; refine dcl (hc) ?_; refine And.intro (⟨by omega, by rw [hl1]; simp; omega⟩) ?_; refine hK _ _ (by kernel_rfl) ?_; clear hK K
   rw [hs2, hl2]
   refine dwk [(36, .v (.int .i64 (↑(j + 1))))] TLI_ok hnt fun K hK => ?_; refine And.intro auI ?_; refine hK _ _ ?_; clear hK K
   refine ⟨⟨j + 1, hlt⟩, by first | omega | (dsimp only; omega), VS.toA⟩
  ·rw [List.take_of_length_le (by omega)]
   refine dw_seq ?_; refine dwk [(24, .v (.bool false))] TLI_ok hnt fun K hK => ?_; refine And.intro auF ?_; refine hK _ _ ?_; clear hK K; refine dw_seq ?_; refine dw_cond (t := false) rfl ?_; rw [if_neg (by simp)]
   by_cases hk : k = 2
   ·have hfl := hfl _ (decide_eq_true hk)
    rw [if_pos hk]; refine dw_exit ?_; refine dw_seq ?_; refine dw_seq ?_; refine dwk [] TLI_ok hnt fun K hK => ?_; refine dcl (hfl) ?_; refine hK _ _ ?_; clear hK K; refine dw_cond (t := true) rfl ?_; rw [if_pos rfl]; refine dw_seq ?_; refine dwk [(40, .ag [.sl 2 (eTys b) none, .v (.int .i64 k), .v (.int .i64 i), .sl 4 (eTms r) none])] TLI_ok hnt fun K hK => ?_; refine And.intro (auV) ?_; refine dcl (htu) ?_
    refine hK _ _ ?_; clear hK K; refine dw_ret ?_
    exact reta rfl
   ·have hfl := hfl _ (decide_eq_false hk)
    rw [if_neg hk]; refine dw_exit ?_; refine dw_seq ?_; refine dw_seq ?_; refine dwk [] TLI_ok hnt fun K hK => ?_; refine dcl (hfl) ?_; refine hK _ _ ?_; clear hK K; refine dw_cond (t := false) rfl ?_; rw [if_neg (by simp)]; refine dw_skip ?_; refine dw_seq ?_; refine dwk [] TLI_ok hnt fun K hK => ?_; refine hK _ _ ?_; clear hK K; refine dw_ret ?_
    exact reta rfl
theorem lterm_d (L R : Tm) (M B : List Ty) (t : Tm) (hl : B.length ≤ 900) (hB : ∀ b ∈ B, b.size ≤ 1000) (hz : t.full ≤ 700000) : PureC Try.prog 51 [.ag [.sl 2 (eTys L.binds) none, .v (.int .i64 L.kind), .v (.int .i64 L.index), .sl 4 (eTms L.args) none, .sl 2 (eTys R.binds) none, .v (.int .i64 R.kind), .v (.int .i64 R.index), .sl 4 (eTms R.args) none, .sl 2 (eTys M) none, .sl 2 (eTys B) none], .ag (eTm t)] (.ag (eTm (Li.lif B t 0))) := by
 have he := leach_d L R M B hl hB t 0 (by omega) (by omega)
 rw [eTm_eq, eTm_eq] at he ⊢
 refine calldw 0 8 [ResultVar.cell 4 43] TLI_ok Try.func51 rfl Try.ntmps51 rfl fun cx hnt hn0 => ?_
 ·skip
  refine dw_seq ?_; refine dwk [] TLI_ok hnt fun K hK => ?_; refine hK _ _ ?_; clear hK K; refine dw_seq ?_; refine dwk [] TLI_ok hnt fun K hK => ?_; refine dcl (he) ?_; refine hK _ _ ?_; clear hK K; refine dw_ret ?_
  exact reta rfl
end Go.Proofs.Ytnpjjkeokcoedaa

namespace Go.Proofs.Ytnpjjkeokcoedaa
open Go.RowKit
variable {β : Type} {Ok : Obj → Prop} {B : Nat} {I I' : β → World → Prop}

end Go.Proofs.Ytnpjjkeokcoedaa

namespace Go.Proofs.Ytnpjjkeokcoedaa
open Go.RowKit

def rpInt : Rp Int where
  n := 1
  R _ _ x v := x = [.int .i64 v]
  len := by rintro F w x a rfl; rfl
  one := by rintro F w x a rfl u hu; simp at hu; subst hu; rfl
  keep := fun h _ => h
  weaken := fun h _ => h

theorem infoI : (Try.prog.info? 3).map (fun i => (i.zero, i.size, i.bytes)) = some (some (.int .i64 0), 1, 8) := by kernel_rfl

def FreshInts (l : List Int) (w : World) (e : Ending) (w' : World) : Prop := ∃ a c, e = .returned (.slice a l.length c) ∧ IsSl rpInt (fun q => w.heap.size ≤ q) w' (.slice a l.length c) l ∧ Below w.heap.size w w'

end Go.Proofs.Ytnpjjkeokcoedaa

namespace Go.Proofs.Ytnpjjkeokcoedaa
open Go.RowKit

namespace Tm
mutual
def heads : Tm → Int → List (Int × Int)
  | .mk b k i a, n => (if k ≠ 0 then [(k, i)] else if n + (b.length : Int) ≤ i then [(0, i - (n + (b.length : Int)))] else []) ++ headss a (n + (b.length : Int))
def headss : List Tm → Int → List (Int × Int)
  | [], _ => []
  | t :: l, n => heads t n ++ headss l n
end
end Tm

end Go.Proofs.Ytnpjjkeokcoedaa

namespace Go.Proofs.Ytnpjjkeokcoedaa
open Go.RowKit

end Go.Proofs.Ytnpjjkeokcoedaa

namespace Go.Proofs.Ytnpjjkeokcoedaa
open Go.RowKit Go.Shelf
attribute [local go_sem] Oper.semAt_some

end Go.Proofs.Ytnpjjkeokcoedaa

namespace Go.Proofs.Ytnpjjkeokcoedaa
open Go.RowKit

def sortU (zs : List Int) : List Int := Lib.compact (zs.mergeSort fun x y => decide (x ≤ y))

theorem keeps_zero (d : Array Int) : Lib.keeps d 0 = true := by simp [Lib.keeps]
theorem upTo_rises (d : Array Int) : ∀ m, m ≤ d.size → (∀ i j, i ≤ j → j < d.size → d[i]! ≤ d[j]!) → (Lib.compactUpTo d m).Pairwise (· < ·) ∧ (∀ x ∈ Lib.compactUpTo d m, ∃ j, j < m ∧ d[j]! = x) ∧ (∀ j, j < m → d[j]! ∈ Lib.compactUpTo d m) := by
  intro m
  induction m with
  | zero => intro _ _; simp [Lib.compactUpTo]
  | succ m ih =>
    intro hm hs
    obtain ⟨h1, h2, h3⟩ := ih (by omega) hs
    rw [Lib.compactUpTo_succ]
    by_cases hk : Lib.keeps d m = true
    · rw [if_pos hk]
      refine ⟨?_, ?_, ?_⟩
      · rw [List.pairwise_append]
        refine ⟨h1, by simp, fun a ha b hb => ?_⟩
        obtain ⟨j, hj, rfl⟩ := h2 a ha
        simp at hb; subst hb
        have hle := hs j (m - 1) (by omega) (by omega)
        have hle2 := hs (m - 1) m (by omega) (by omega)
        have hne : d[m - 1]! ≠ d[m]! := by
          cases m with
          | zero => omega
          | succ k =>
            have : d[k + 1]! ≠ d[k]! := by simpa [Lib.keeps] using hk
            exact fun e => this e.symm
        omega
      · intro x hx
        rcases List.mem_append.1 hx with hx | hx
        · obtain ⟨j, hj, e⟩ := h2 x hx; exact ⟨j, by omega, e⟩
        · simp at hx; exact ⟨m, by omega, hx.symm⟩
      · intro j hj
        rw [List.mem_append]
        by_cases hjm : j = m
        · subst hjm; right; simp
        · left; exact h3 j (by omega)
    · rw [if_neg hk, List.append_nil]
      refine ⟨h1, fun x hx => by obtain ⟨j, hj, e⟩ := h2 x hx; exact ⟨j, by omega, e⟩, fun j hj => ?_⟩
      by_cases hjm : j = m
      · subst hjm
        cases j with
        | zero => exact absurd (keeps_zero d) hk
        | succ k =>
          have : d[k + 1]! = d[k]! := by simpa [Lib.keeps] using hk
          rw [this]; exact h3 k (by omega)
      · exact h3 j (by omega)

theorem sortU_spec (zs : List Int) : (sortU zs).Pairwise (· < ·) ∧ ∀ x, x ∈ sortU zs ↔ x ∈ zs := by
  obtain ⟨ss, hss⟩ : ∃ ss, (zs.mergeSort fun x y => decide (x ≤ y)) = ss := ⟨_, rfl⟩
  have hp : ss.Perm zs := by rw [← hss]; exact List.mergeSort_perm _ _
  have hs : ss.Pairwise (fun x y => x ≤ y) := by
    have := List.pairwise_mergeSort (le := fun x y : Int => decide (x ≤ y)) (fun a b c h1 h2 => by simp at *; omega) (fun a b => by simp; omega) zs
    rw [hss] at this
    simpa using this
  have hs' : ∀ i j, i ≤ j → j < ss.toArray.size → ss.toArray[i]! ≤ ss.toArray[j]! := by
    intro i j hij hj
    have hj' : j < ss.length := by simpa using hj
    have hi' : i < ss.length := by omega
    simp only [List.getElem!_toArray, getElem!_pos ss i hi', getElem!_pos ss j hj']
    by_cases e : i = j
    · subst e; exact Int.le_refl _
    · exact List.pairwise_iff_getElem.1 hs i j hi' hj' (by omega)
  obtain ⟨h1, h2, h3⟩ := upTo_rises ss.toArray ss.length (by simp) hs'
  unfold sortU
  rw [hss]
  refine ⟨h1, fun x => ?_⟩
  rw [← hp.mem_iff]
  constructor
  · intro hx
    obtain ⟨j, hj, e⟩ := h2 x hx
    rw [← e]
    simp only [List.getElem!_toArray, getElem!_pos ss j hj]
    exact List.getElem_mem hj
  · intro hx
    obtain ⟨j, hj, e⟩ := List.getElem_of_mem hx
    have := h3 j hj
    simp only [List.getElem!_toArray, getElem!_pos ss j hj, e] at this
    exact this
theorem rises_eq : ∀ {l r : List Int}, l.Pairwise (· < ·) → r.Pairwise (· < ·) → (∀ x, x ∈ l ↔ x ∈ r) → l = r
  | [], [], _, _, _ => rfl
  | [], b :: r, _, _, h => absurd ((h b).2 (by simp)) (by simp)
  | a :: l, [], _, _, h => absurd ((h a).1 (by simp)) (by simp)
  | a :: l, b :: r, h1, h2, h => by
    rw [List.pairwise_cons] at h1 h2
    have hab : a = b := by
      have ha := (h a).1 (by simp)
      have hb := (h b).2 (by simp)
      rcases List.mem_cons.1 ha with e | ha
      · exact e
      rcases List.mem_cons.1 hb with e | hb
      · exact e.symm
      have := h2.1 a ha; have := h1.1 b hb; omega
    subst hab
    rw [rises_eq h1.2 h2.2 fun x => ?_]
    constructor
    · intro hx
      rcases List.mem_cons.1 ((h x).1 (by simp [hx])) with e | hx'
      · have := h1.1 x hx; omega
      · exact hx'
    · intro hx
      rcases List.mem_cons.1 ((h x).2 (by simp [hx])) with e | hx'
      · have := h2.1 x hx; omega
      · exact hx'
theorem sortU_twice (zs : List Int) : sortU (zs ++ zs) = sortU zs :=
  rises_eq (sortU_spec _).1 (sortU_spec _).1 fun x => by rw [(sortU_spec _).2, (sortU_spec _).2]; simp

theorem sort_own {base : Nat} {w : World} {v : Value} {zs : List Int} (h : w.ownsRow base 3 1 v zs.length (zs.map (Value.int .i64))) (hl : zs.length ≤ 1000000) :
    Calls Try.prog 75 #[v] w fun e w' => e = .returned (.tuple #[]) ∧ w'.ownsRow base 3 1 v zs.length ((zs.mergeSort fun x y => decide (x ≤ y)).map (Value.int .i64)) ∧ w.grownBy w' v.ownBlock := by
  by_cases hv : v = .slice none 0 0
  · subst hv
    have h0 : zs = [] := by
      rcases h.2 with ⟨_, e⟩ | ⟨_, _, _, e, _⟩
      · exact List.eq_nil_of_length_eq_zero e
      · cases e
    subst h0
    refine (Try.slices_Sort_int_none none 0 w).mono ?_
    rintro e w' ⟨rfl, rfl⟩
    exact ⟨rfl, by simpa using h, ⟨rfl, rfl, rfl, Nat.le_refl _, fun _ _ _ => rfl⟩⟩
  · obtain ⟨g, cap, rfl, hb, hlt, hn, hm, _, hH⟩ := Lib.holds_of_ownsRow h hv
    refine (Try.slices_Sort_int g 0 cap zs w hH hlt (by omega)).mono ?_
    rintro e w' ⟨rfl, n, os, rfl⟩
    refine ⟨rfl, ?_, grownBy_sortedI _⟩
    rcases h.2 with ⟨e, _⟩ | ⟨g', cap', cur, e, _, hg, _, _, hc, _⟩
    · cases e
    · cases e
      exact ownsRow_sortedI (ss := zs) (by simp) hb hg hn hm hc

theorem compact_own {base : Nat} {w : World} {v : Value} {zs : List Int} (h : w.ownsRow base 3 1 v zs.length (zs.map (Value.int .i64))) (hl : zs.length ≤ 1000000) :
    Calls Try.prog 76 #[v] w fun e w' => ∃ v', e = .returned v' ∧ w'.ownsRow base 3 1 v' (Lib.compact zs).length ((Lib.compact zs).map (Value.int .i64)) ∧ w.grownBy w' v.ownBlock := by
  by_cases hv : v = .slice none 0 0
  · subst hv
    have h0 : zs = [] := by
      rcases h.2 with ⟨_, e⟩ | ⟨_, _, _, e, _⟩
      · exact List.eq_nil_of_length_eq_zero e
      · cases e
    subst h0
    refine (Try.slices_Compact_int_empty none 0 w).mono ?_
    rintro e w' ⟨rfl, rfl⟩
    exact ⟨_, rfl, h, ⟨rfl, rfl, rfl, Nat.le_refl _, fun _ _ _ => rfl⟩⟩
  · obtain ⟨g, cap, rfl, hb, hlt, hn, hm, _, hH⟩ := Lib.holds_of_ownsRow h hv
    refine (Try.slices_Compact_int g 0 cap zs w hH (by omega) hn).mono ?_
    rintro e w' ⟨rfl, q, rfl⟩
    have hcl := Lib.compact_length_le zs
    refine ⟨_, rfl, ?_, ?_⟩
    · have := Lib.ownsRow_putRow (q := q) (k := (Lib.compact zs).length) (ys := Lib.compact zs ++ List.replicate (zs.length - (Lib.compact zs).length) 0) h (by simp; omega) hcl
      simpa using this
    · have := grownBy_sortedI (w := w) (g := g) (n := q) (os := #[]) (Lib.compact zs ++ List.replicate (zs.length - (Lib.compact zs).length) 0).toArray
      simpa [Value.ownBlock] using this

theorem own_ints {base : Nat} {w : World} {v : Value} {l : List Int} (h : w.ownsRow base 3 1 v l.length (l.map (Value.int .i64))) : ∃ a c, v = .slice a l.length c ∧ IsSl rpInt (fun q => base ≤ q) w v l := by
  have hA : Acc rpInt 3 base (fun _ => False) w v l := by
    refine ⟨l.map (fun z => [.int .i64 z]), by simp, ?_, fun i hi => ⟨[.int .i64 l[i]], by simp [List.getElem?_eq_getElem hi], rfl⟩⟩
    have : (l.map (fun z => [Value.int .i64 z])).flatten = l.map (Value.int .i64) := by
      clear h
      induction l with
      | nil => rfl
      | cons a l ih => simp only [List.map_cons, List.flatten_cons, ih]; rfl
    rw [this]; exact h
  obtain ⟨a, c, hv⟩ := hA.len_shape
  exact ⟨a, c, hv, hA.sl (fun _ _ h => h.elim) (fun _ h => h)⟩
end Go.Proofs.Ytnpjjkeokcoedaa

namespace Go.Proofs.Ytnpjjkeokcoedaa
open Go.RowKit

theorem leaves_marks {F : Fence} {n : Nat} {P : Program} {fn : Func} {tmps : Array Value} {R : Ending → World → Prop} (B : Nat) : ∀ (Ds : List Nat) (w : World), Ds.Nodup → B ≤ w.heap.size → (∀ D ∈ Ds, B ≤ D ∧ w.heap[D]? = some (.deferred (some []))) →
    (∀ w', Keep (fun _ => True) w w' → Below B w w' → LeavesIn F n P fn tmps R [] .returning w') → LeavesInM F n P fn tmps R (Ds.map fun D => { target := .collected D, args := #[] }) .returning w
  | [], w, _, _, _, hk => hk w (Keep.refl _ _) (Below.refl _ _)
  | D :: Ds, w, hd, hB, hD, hk => by
    rw [List.nodup_cons] at hd
    have h1 := hD D (by simp)
    have hlt : D < w.heap.size := (Array.getElem?_eq_some_iff.1 h1.2).1
    refine ⟨by simp, .inl ⟨D, _, rfl, run_takeDeferred h1.2, ?_⟩⟩
    have hbel : Below B w (w.putObj D (.deferred none)) := (Below.refl _ _).grown (grownBy_putObj' w D (.deferred none)) hB (fun r e => by cases e; exact h1.1)
    have hkp : Keep (fun _ => True) w (w.putObj D (.deferred none)) := fun o v k _ hv => cell_kept hv (grownBy_putObj' _ D (.deferred none)) (fun r e => by cases e; exact ⟨_, h1.2, rfl⟩)
    refine leaves_marks B Ds _ hd.2 (by simpa using hB) (fun D' hD' => ⟨(hD D' (by simp [hD'])).1, ?_⟩) fun w' hk' hb' => hk w' (hkp.trans hk') (hbel.trans hb')
    have hne : D' ≠ D := fun e => hd.1 (e ▸ hD')
    exact (World.putObj_heap_other hne).trans (hD D' (by simp [hD'])).2

theorem keepsOthers_grown {W W' : World} {row : Option Nat} (hg : W.grownBy W' row) (hr : ∀ r, row = some r → ∃ o : Obj, W.heap[r]? = some o ∧ o.isCells = true) : KeepsOthers W W' :=
  ⟨hg.size, fun k o ho hc => (hg.block k (Array.getElem?_eq_some_iff.1 ho).1 (fun e => by
    obtain ⟨o', ho', hc'⟩ := hr k e.symm
    rw [ho] at ho'; cases ho'; rw [hc] at hc'; cases hc')).trans ho⟩

theorem own_row {w : World} {base : Nat} {e : TypeId} {size : Nat} {v : Value} {n : Nat} {xs : List Value} (h : w.ownsRow base e size v n xs) : ∀ r, v.ownBlock = some r → base ≤ r ∧ ∃ cs, w.heap[r]? = some (.cells cs e (0, 0)) := by
  intro r hr
  rcases h.2 with ⟨rfl, _⟩ | ⟨g, cap, cur, rfl, hb, hg, _⟩
  · cases hr
  · cases hr; exact ⟨hb, _, hg⟩
theorem own_kept {w w' : World} {base : Nat} {e : TypeId} {size : Nat} {v : Value} {n : Nat} {xs : List Value} {row : Option Nat} (h : w.ownsRow base e size v n xs) (hg : w.grownBy w' row)
    (hr : ∀ r, row = some r → ∃ o : Obj, w.heap[r]? = some o ∧ ∀ cs, o ≠ .cells cs e (0, 0)) : w'.ownsRow base e size v n xs := by
  refine h.kept hg ?_
  cases hv : v.ownBlock with
  | none => exact .inl rfl
  | some g =>
    refine .inr fun e' => ?_
    obtain ⟨_, cs, hc⟩ := own_row h g hv
    obtain ⟨o, ho, hne⟩ := hr g e'.symm
    rw [hc] at ho; cases ho; exact hne cs rfl

structure OutAt (w : World) (Ds : List Nat) (vv : Value) (zs : List Int) (W : World) : Prop where
  box : Blk W w.heap.size #[vv] 114
  own : W.ownsRow (w.heap.size + 1) 3 1 vv zs.length (zs.map (Value.int .i64))
  nod : Ds.Nodup
  marks : ∀ D ∈ Ds, w.heap.size + 1 ≤ D ∧ W.heap[D]? = some (.deferred (some []))
  below : Below w.heap.size w W
def OutG (B k : Nat) (t : TypeId) : Prop := k < B ∨ (B < k ∧ t ≠ 3)
namespace OutAt
variable {w W W' : World} {Ds : List Nat} {vv : Value} {zs : List Int}
theorem lt (h : OutAt w Ds vv zs W) : ∀ D ∈ Ds, D < W.heap.size := fun D hD => (Array.getElem?_eq_some_iff.1 (h.marks D hD).2).1
theorem blw (h : OutAt w Ds vv zs W) (hb : Below W.heap.size W W') : OutAt w Ds vv zs W' :=
  ⟨h.box.below hb, ownsRow_below h.own hb, h.nod, fun D hD => ⟨(h.marks D hD).1, (hb.block D (h.lt D hD)).trans (h.marks D hD).2⟩, h.below.trans (hb.mono h.below.size)⟩
theorem alloc (h : OutAt w Ds vv zs W) (o : Obj) : OutAt w Ds vv zs (W.alloc o) := h.blw ((Below.refl _ _).alloc (Nat.le_refl _) _)
theorem grown {B : Nat} {row : Option Nat} (h : OutAt w Ds vv zs W) (hlt : ∀ D ∈ Ds, D < B) (hwB : w.heap.size < B) (hg : W.grownBy W' row)
    (hr : ∀ r, row = some r → B ≤ r ∧ ∃ o : Obj, W.heap[r]? = some o ∧ ∀ cs, o ≠ .cells cs 3 (0, 0)) : OutAt w Ds vv zs W' :=
  ⟨h.box.grown hg (fun e => by have := (hr _ e).1; omega), own_kept h.own hg (fun r e => (hr r e).2), h.nod,
    fun D hD => ⟨(h.marks D hD).1, (hg.block D (h.lt D hD) (fun e => by have := (hr _ e.symm).1; have := hlt D hD; omega)).trans (h.marks D hD).2⟩,
    h.below.grown hg h.below.size (fun r e => by have := (hr r e).1; omega)⟩
theorem mark (h : OutAt w Ds vv zs W) {D : Nat} (hD : W.heap[D]? = some (.deferred (some []))) (hn : ∀ D' ∈ Ds, D' < D) (hw : w.heap.size + 1 ≤ D) : OutAt w (D :: Ds) vv zs W :=
  ⟨h.box, h.own, List.nodup_cons.2 ⟨fun hm => by have := hn D hm; omega, h.nod⟩, fun D' h' => by
    rcases List.mem_cons.1 h' with rfl | h'
    · exact ⟨hw, hD⟩
    · exact h.marks D' h', h.below⟩
theorem push (h : OutAt w Ds vv zs W) (x : Int) {w3 : World} {v' : Value} (hg : (W.alloc (.cells #[.int .i64 x] 3)).grownBy w3 vv.ownBlock)
    (hown : w3.ownsRow (w.heap.size + 1) 3 1 v' (zs.length + 1) (zs.map (Value.int .i64) ++ [.int .i64 x])) :
    OutAt w Ds v' (zs ++ [x]) (w3.setCell ⟨w.heap.size, 0, none⟩ v') ∧ KeepsOthers W (w3.setCell ⟨w.heap.size, 0, none⟩ v') ∧ KeepC (OutG w.heap.size) W (w3.setCell ⟨w.heap.size, 0, none⟩ v') := by
  have ho1 := h.own.alloc (.cells #[.int .i64 x] 3)
  have h1 := h.alloc (.cells #[.int .i64 x] 3)
  have hrow := own_row ho1
  have hk3 : KeepsOthers (W.alloc (.cells #[.int .i64 x] 3)) w3 := keepsOthers_grown hg (fun r e => by
    obtain ⟨_, cs, hc⟩ := hrow r e; exact ⟨_, hc, rfl⟩)
  have hbox3 : Blk w3 w.heap.size #[vv] 114 := h1.box.grown hg (fun e => by have := (hrow _ e).1; omega)
  have hbel3 : Below w.heap.size w w3 := h1.below.grown hg h1.below.size (fun r e => by have := (hrow r e).1; omega)
  have hkc : KeepC (OutG w.heap.size) (W.alloc (.cells #[.int .i64 x] 3)) w3 := ⟨hg.size, fun k cs t fr hk hc => (hg.block k (Array.getElem?_eq_some_iff.1 hc).1 (fun e => by
    obtain ⟨hle, cs', hc'⟩ := hrow k e.symm
    rw [hc] at hc'; cases hc'
    rcases hk with hk | hk
    · omega
    · exact hk.2 rfl)).trans hc⟩
  refine ⟨⟨hbox3.set 0 _, ?_, h.nod, fun D hD => ⟨(h1.marks D hD).1, ?_⟩, hbel3.setCell (by simp) _⟩, (((KeepsOthers.alloc W _).trans hk3).trans (KeepsOthers.setCell _ _ _)), ?_⟩
  · have := ownsRow_setCell_below hown (a := ⟨w.heap.size, 0, none⟩) (by simp) v'
    simpa using this
  · exact (KeepsOthers.setCell w3 _ v').same D _ (hk3.same D _ (h1.marks D hD).2 rfl) rfl
  · exact (((KeepC.refl _ W).alloc _).trans hkc).setCell _ _ (fun t ht => by rcases ht with h | h <;> simp at h)
theorem push_box (h : OutAt w Ds vv zs W) {x : Int} {w3 : World} (hg : (W.alloc (.cells #[.int .i64 x] 3)).grownBy w3 vv.ownBlock) : Blk w3 w.heap.size #[vv] 114 :=
  (h.alloc (.cells #[.int .i64 x] 3)).box.grown hg (fun e => by have := (own_row (h.own.alloc (.cells #[.int .i64 x] 3)) _ e).1; omega)
theorem turned (h : OutAt w Ds vv zs W) {ys : List Int} {W' : World} (hg : W.grownBy W' vv.ownBlock) {v' : Value} (hown : W'.ownsRow (w.heap.size + 1) 3 1 v' ys.length (ys.map (Value.int .i64))) :
    (Blk W' w.heap.size #[vv] 114 ∧ ∀ D ∈ Ds, w.heap.size + 1 ≤ D ∧ W'.heap[D]? = some (.deferred (some []))) ∧ Below w.heap.size w W' := by
  have hrow := own_row h.own
  refine ⟨⟨h.box.grown hg (fun e => by have := (hrow _ e).1; omega), fun D hD => ⟨(h.marks D hD).1, ?_⟩⟩, h.below.grown hg h.below.size (fun r e => by have := (hrow r e).1; omega)⟩
  refine (hg.block D (h.lt D hD) (fun e => ?_)).trans (h.marks D hD).2
  obtain ⟨_, cs, hc⟩ := hrow D e.symm
  rw [(h.marks D hD).2] at hc; cases hc
theorem sorted (h : OutAt w Ds vv zs W) {ys : List Int} {W' : World} (hg : W.grownBy W' vv.ownBlock) (hown : W'.ownsRow (w.heap.size + 1) 3 1 vv ys.length (ys.map (Value.int .i64))) : OutAt w Ds vv ys W' :=
  let q := h.turned hg hown
  ⟨q.1.1, hown, h.nod, q.1.2, q.2⟩
theorem leave (h : OutAt w Ds vv zs W) {ys : List Int} {W' : World} (hg : W.grownBy W' vv.ownBlock) {v' : Value} (hown : W'.ownsRow (w.heap.size + 1) 3 1 v' ys.length (ys.map (Value.int .i64)))
    {F : Fence} {n : Nat} {P : Program} {fn : Func} {tmps : Array Value} (hr : ∀ w3 : World, (results fn tmps).run P w3 = .ok v' w3) :
    LeavesInM F n P fn tmps (FreshInts ys w) (Ds.map fun D => { target := .collected D, args := #[] }) .returning W' := by
  obtain ⟨⟨hb, hm⟩, hbel⟩ := h.turned hg hown
  refine leaves_marks (w.heap.size + 1) Ds W' h.nod (by have := hb.lt; omega) hm (fun w3 hk hb3 => ?_)
  obtain ⟨a, c, hv, hs⟩ := own_ints hown
  subst hv
  exact ⟨_, hr w3, a, c, rfl, (hs.keep (fun k o u _ hu => hk k o u trivial hu)).weaken (by decide) (fun q _ hq => by omega), hbel.trans (hb3.mono (by omega))⟩
end OutAt
end Go.Proofs.Ytnpjjkeokcoedaa

namespace Go.Proofs.Ytnpjjkeokcoedaa
open Go.RowKit Go.Shelf
attribute [local go_sem] Oper.semAt_some

theorem tms_cells {F : Nat → Prop} {w : World} {v : Value} {l : List Tm} (h : IsSl rpTm F w v l) : ∃ a c, v = .slice a l.length c ∧ (l.length ≤ maxLen ∧ l.length ≤ c) ∧ ∃ (bl off : Nat),
    (0 < l.length → a = some ⟨bl, off, none⟩ ∧ F bl) ∧ ∀ j (hj : j < l.length), ∃ b k i s, w.cell? ⟨bl, off + j * 4, none⟩ = some b ∧ w.cell? ⟨bl, off + j * 4 + 1, none⟩ = some k ∧ w.cell? ⟨bl, off + j * 4 + 2, none⟩ = some i ∧ w.cell? ⟨bl, off + j * 4 + 3, none⟩ = some s ∧ IsTm F w b k i s l[j] := by
  obtain ⟨a, c, bl, off, X, hv, hm, ha, h1, h2⟩ := h
  refine ⟨a, c, hv, hm, bl, off, ha, fun j hj => ?_⟩
  obtain ⟨b, k, i, s, hx, ht⟩ := h2 j hj
  exact ⟨b, k, i, s, h1 j 0 b hj (by rw [hx]; rfl), h1 j 1 k hj (by rw [hx]; rfl), h1 j 2 i hj (by rw [hx]; rfl), h1 j 3 s hj (by rw [hx]; rfl), ht⟩

def metasP (l : List (Nat × Nat × Tm)) : List Int := l.filterMap fun p => if p.2.2.kind = 2 then some p.2.2.index else none
def metasL (l : List Tm) : List Int := l.flatMap fun t => metasP (t.pre 0 1)
theorem metasL_take (l : List Tm) (j : Nat) (h : j < l.length) : metasL (l.take (j + 1)) = metasL (l.take j) ++ metasP (l[j].pre 0 1) := by
  rw [List.take_succ_eq_append_getElem h]; unfold metasL; rw [List.flatMap_append]; simp
theorem metasL_len (l : List Tm) (m : Nat) (h : ∀ t ∈ l, t.full ≤ m) : (metasL l).length ≤ l.length * m := by
  induction l with
  | nil => simp [metasL]
  | cons t l ih =>
    have h1 := h t (by simp)
    have h2 := ih (fun u hu => h u (by simp [hu]))
    have h3 : (metasL (t :: l)).length = (metasP (t.pre 0 1)).length + (metasL l).length := by simp [metasL]
    have h4 : (metasP (t.pre 0 1)).length ≤ (t.pre 0 1).length := List.length_filterMap_le _ _
    rw [Tm.pre_length] at h4
    have h5 := Tm.size_le_full t
    rw [h3, List.length_cons, Nat.succ_mul]; omega
set_option maxRecDepth 100000 in
set_option maxHeartbeats 4000000 in
theorem metas6_k {F : Nat → Prop} {w : World} {v : Value} {l : List Tm} (h : IsSl rpTm F w v l) (hl : l.length ≤ 9) (hsz : ∀ t ∈ l, t.full ≤ 90000) : Calls Try.prog 61 #[v] w (FreshInts (sortU (metasL l)) w) := by
  refine (callsIn_wide (n := 9)).1 ?_
  have Ht := Lib.hid (h.weaken (F' := fun _ => True) (by decide) fun _ _ _ => trivial)
  obtain ⟨a, c, rfl, hm, bl, off, ha, hc⟩ := tms_cells Ht.out
  obtain ⟨ll, hll⟩ : ∃ x, l.length = x := ⟨_, rfl⟩
  clear h Ht
  have Hm := Lib.hid hm; clear hm
  have Hc := Lib.hid hc; clear hc
  have Hsz := Lib.hid hsz; clear hsz
  rw [hll] at ha hl ⊢
  obtain ⟨i2, hi2, hz0, hz1, hz2⟩ := info_parts infoI
  refine callsIn_of_wp_marks Try.func61 rfl trivial ?_ rfl
  simp only [Try.ntmps61, List.size_toArray, List.length_cons, List.length_nil, Nat.reduceAdd, Nat.reduceSub, Array.replicate_succ, Array.replicate_zero, List.push_toArray, List.append_toArray, List.nil_append, List.cons_append]
  gi_wp2_with fail
  refine wpIn_loop (fun a' w' => ∃ (j : Nat) (Ds : List Nat) (zs : List Int) (vv u5 u11 u12 u13 u14 u15 u28 : Value), a' = { tmps := #[.slice a ll c, undef, .slice none 0 0, .pointer (some ⟨w.heap.size, 0, none⟩), undef, u5, undef, undef, .slice a ll c, .int .i64 ll, .int .i64 j, u11, u12, u13, u14, u15, undef, undef, undef, undef, undef, undef, undef, undef, undef, undef, undef, undef, u28, undef, undef, undef, undef], defers := Ds.map fun D => { target := .collected D, args := #[] } } ∧
      j ≤ ll ∧ Hid (zs = metasL (l.take j)) ∧ OutAt w Ds vv zs w') (fun a' _ => ll - (intOf (a'.tmps.getD 10 undef)).toNat) ?start ?round
  case start =>
    refine ⟨0, [], [], .slice none 0 0, undef, undef, undef, undef, undef, undef, undef, rfl, by omega, by show _ = _; simp [metasL], ?_⟩
    exact ⟨Blk.new _ _ _ rfl, World.ownsRow_nil _ _ _ _, by simp, by simp, (Below.refl _ _).alloc (Nat.le_refl _) _⟩
  case round =>
    rintro a' W ⟨j, Ds, zs, vv, u5, u11, u12, u13, u14, u15, u28, rfl, hj, hzs, hO⟩
    have hj0 : (0 : Int) ≤ (j : Int) := Int.natCast_nonneg _
    have HO := Lib.hid hO; clear hO
    by_cases hlt : j < ll
    · have hj1 : (j : Int) < (ll : Int) := by omega
      obtain ⟨rfl, _⟩ := ha (by omega)
      obtain ⟨vb, vk, vi, vs, e1, e2, e3, e4, hty⟩ := Hc.out j (by omega)
      have hW := HO.out.below
      have e1 := ((Keep.refl (fun _ => True) _).below hW) _ _ _ trivial e1
      have e2 := ((Keep.refl (fun _ => True) _).below hW) _ _ _ trivial e2
      have e3 := ((Keep.refl (fun _ => True) _).below hW) _ _ _ trivial e3
      have e4 := ((Keep.refl (fun _ => True) _).below hW) _ _ _ trivial e4
      have Htk := Lib.hid (metasL_take l j (by omega))
      have hts := Hsz.out l[j] (List.getElem_mem _)
      obtain ⟨t, ht⟩ : ∃ t, l[j] = t := ⟨_, rfl⟩
      rw [ht] at hty Htk hts
      clear ht
      obtain ⟨pa, pc, qa, qc, rfl, rfl, rfl, rfl⟩ := hty.shape
      have Hty := Lib.hid hty; clear hty
      obtain ⟨x1, hx1⟩ : ∃ x, t.binds.length = x := ⟨_, rfl⟩
      obtain ⟨x2, hx2⟩ : ∃ x, t.args.length = x := ⟨_, rfl⟩
      obtain ⟨x3, hx3⟩ : ∃ x, t.kind = x := ⟨_, rfl⟩
      obtain ⟨x4, hx4⟩ : ∃ x, t.index = x := ⟨_, rfl⟩
      rw [hx1, hx2, hx3, hx4] at Hty
      rw [hx1] at e1
      rw [hx3] at e2
      rw [hx4] at e3
      rw [hx2] at e4
      clear hx1 hx2 hx3 hx4
      gi_wp2_with fail
      refine ⟨trivial, (each6_k _ _ _ _ _ _ ⟨_, _, _, rfl⟩ ⟨_, rfl⟩ ⟨_, rfl⟩ ⟨_, _, _, rfl⟩).mono ?_⟩
      rintro e w' ⟨rfl, rfl⟩
      gi_wp2_with fail
      have HO5 := Lib.hid ((HO.out.alloc (.cells #[.slice pa x1 pc, .int .i64 x3, .int .i64 x4, .slice qa x2 qc] 43)).alloc (.cells #[.slice pa x1 pc, .int .i64 x3, .int .i64 x4, .slice qa x2 qc] 43))
      obtain ⟨w5, hw5⟩ : ∃ w5, (W.alloc (.cells #[.slice pa x1 pc, .int .i64 x3, .int .i64 x4, .slice qa x2 qc] 43)).alloc (.cells #[.slice pa x1 pc, .int .i64 x3, .int .i64 x4, .slice qa x2 qc] 43) = w5 := ⟨_, rfl⟩
      have hz : w5.heap.size = W.heap.size + 2 := by rw [← hw5]; simp
      have y3 : Blk w5 (W.heap.size + 1) #[.slice pa x1 pc, .int .i64 x3, .int .i64 x4, .slice qa x2 qc] 43 := by rw [← hw5]; exact Blk.new _ _ _ (by simp)
      rw [hw5] at HO5 ⊢
      clear hw5
      have hsz1 := HO.out.box.lt
      have hlts := HO.out.lt
      clear HO
      have Hlts : Hid (∀ D ∈ Ds, D < w5.heap.size) := fun D hD => by have := hlts D hD; omega
      clear hlts
      refine range_softA (Ok := SpotOk) (fun o h => .inl h) rfl (by omega) (gf := 54) (lb := #[.pointer (some ⟨W.heap.size + 1, 0, none⟩)]) rfl trivial (enters_of Try.func54 (by kernel_rfl) rfl)
        (each6_soft (OutG w.heap.size) (fun k _ _ hk => .inl hk) Hty.out (by omega) (9 - 1) w5 (fun k _ hk ht => .inr ⟨by omega, ht⟩) ((Keep.refl _ _).below HO5.out.below) (W.heap.size + 1) y3)
        (fun h h' => h.trans h') (fun W l o o' _ hl ho _ => KeepC.putObj _ W l o o' hl ho) (Below.refl _ _) (fun _ => rfl)
        (fun pre V => ∃ v', OutAt w Ds v' (zs ++ metasP (pre.map Hit6.key)) V)
        (fun _ _ _ => False)
        (fun pre A B row ⟨v', h⟩ hg hr => ⟨v', h.grown Hlts.out (by omega) hg (fun r e => by
          obtain ⟨h1, o, ho, hc⟩ := hr r e
          refine ⟨h1, o, ho, fun cs e => ?_⟩
          subst e
          rcases hc with hc | ⟨cs', fr, hc⟩
          · simp [Obj.isCells] at hc
          · cases hc)⟩)
        (fun _ _ _ _ _ hs _ _ => hs)
        ⟨vv, by simpa [metasP] using HO5.out⟩
        (fun x a' V => ∃ Bx, Blk V Bx #[.slice x.pb x.t.binds.length x.cb, .int .i64 x.t.kind, .int .i64 x.t.index, .slice x.pa x.t.args.length x.ca] 43 ∧ a' = { tmps := #[.slice (some ⟨bl, off, none⟩) ll c, undef, .slice none 0 0, .pointer (some ⟨w.heap.size, 0, none⟩), undef, .pointer (some ⟨W.heap.size, 0, none⟩), undef, .pointer (some ⟨Bx, 0, none⟩), .slice (some ⟨bl, off, none⟩) ll c, .int .i64 ll, .int .i64 j, .bool true, .pointer (some ⟨bl, off + j * 4, none⟩), .agg #[.slice pa x1 pc, .int .i64 x3, .int .i64 x4, .slice qa x2 qc], .agg #[.slice pa x1 pc, .int .i64 x3, .int .i64 x4, .slice qa x2 qc], .func (.func 54) #[] #[.pointer (some ⟨W.heap.size + 1, 0, none⟩)], .agg #[.int .i64 x.s, .int .i64 x.d], .agg #[.slice x.pb x.t.binds.length x.cb, .int .i64 x.t.kind, .int .i64 x.t.index, .slice x.pa x.t.args.length x.ca], undef, undef, undef, undef, undef, undef, undef, undef, undef, undef, u28, undef, undef, undef, undef], defers := [] })
        (fun x a' W l o o' hl ho hoc => by
          rintro ⟨Bx, h2, h3⟩
          have hne : l ≠ Bx := fun e => by
            subst e
            have hb : W.heap[l]? = _ := h2
            rw [hb] at ho; cases ho; simp [Obj.isCells] at hoc
          exact ⟨Bx, (World.putObj_heap_other (Ne.symm hne)).trans h2, h3⟩) ?assign ?body ?done ?stop
      case assign =>
        rintro l pre x V K ⟨v', hV⟩ hK
        have HK := Lib.hid hK; clear hK
        have HV := Lib.hid hV; clear hV
        simp only [Hit6.enc] at *
        gi_wp2
        exact HK.out _ _ ((KeepsOthers.alloc _ _).from _) ((KeepC.refl _ V).alloc _) ⟨v', HV.out.alloc _⟩ ⟨V.heap.size, Blk.new _ _ _ rfl, rfl⟩
      case body =>
        rintro l' pre x a' V ⟨v', hV⟩ hlt' ⟨Bx, bX, rfl⟩
        have c1 : V.cell? ⟨w.heap.size, 0, none⟩ = some v' := hV.box.cell rfl
        have cx1 : V.cell? ⟨Bx, 1, none⟩ = some (.int .i64 x.t.kind) := bX.cell rfl
        have cx2 : V.cell? ⟨Bx, 2, none⟩ = some (.int .i64 x.t.index) := bX.cell rfl
        have hlen0 : (zs ++ metasP (pre.map Hit6.key)).length ≤ 900000 := by
          have h1 : (metasL (l.take j)).length ≤ 720000 := by
            have := metasL_len (l.take j) 90000 (fun t ht => Hsz.out t (List.mem_of_mem_take ht))
            have h2 : (l.take j).length ≤ 8 := by simp; omega
            exact Nat.le_trans this (Nat.le_trans (Nat.mul_le_mul_right 90000 h2) (by decide))
          have h2 : (metasP (pre.map Hit6.key)).length ≤ pre.length := by
            have := List.length_filterMap_le (fun p : Nat × Nat × Tm => if p.2.2.kind = 2 then some p.2.2.index else none) (pre.map Hit6.key)
            simpa [metasP] using this
          have h3 := Tm.size_le_full t
          rw [hzs.out, List.length_append]
          omega
        have hkey : metasP ((pre ++ [x]).map Hit6.key) = metasP (pre.map Hit6.key) ++ (if x.t.kind = 2 then [x.t.index] else []) := by
          unfold metasP
          rw [List.map_append, List.filterMap_append]
          congr 1
          by_cases hk : x.t.kind = 2
          · simp [Hit6.key, hk]
          · simp [Hit6.key, hk]
        have hkey2 : zs ++ metasP ((pre ++ [x]).map Hit6.key) = (zs ++ metasP (pre.map Hit6.key)) ++ (if x.t.kind = 2 then [x.t.index] else []) := by rw [hkey, List.append_assoc]
        clear hkey
        obtain ⟨zp, hzp⟩ : ∃ zp, zs ++ metasP (pre.map Hit6.key) = zp := ⟨_, rfl⟩
        rw [hzp] at hV hkey2 hlen0
        obtain ⟨kk, hkk⟩ : ∃ k, x.t.kind = k := ⟨_, rfl⟩
        obtain ⟨ii, hii⟩ : ∃ k, x.t.index = k := ⟨_, rfl⟩
        rw [hkk, hii] at hkey2
        rw [hkk] at cx1 ⊢
        rw [hii] at cx2 ⊢
        clear hzp hkk hii
        have HV := Lib.hid hV; clear hV
        have hsz3 := HV.out.below.size
        have f0 := HV.out.box.free 0
        by_cases hk : kk = 2
        · subst hk
          rw [if_pos rfl] at hkey2
          have Hkey := Lib.hid hkey2; clear hkey2
          gi_wp2_with (gi_at_builtin; refine wpListIn_append_own _ rfl _ _ 114 rfl (w.heap.size + 1) 3 i2 _ 1 8 Try.underlying114 hi2 hz0 hz1 hz2 rfl (by decide) v' zp.length (zp.map (Value.int .i64)) rfl (HV.out.own.alloc _) ⟨V.heap.size, 0, none⟩ 1 1 [.int .i64 ii] rfl rfl (fun jj u hu => by
              cases jj with
              | zero => simp at hu; subst hu; exact (Blk.new V #[.int .i64 ii] 3 rfl).cell rfl
              | succ _ => simp at hu) (by simp [Value.oneCell']) (by simp [maxLen]; omega) (by omega) (by have := HV.out.box.lt; simp; omega) ?_; intro v2 w3 hown3 hg3 hnil3; have Hg3 := Lib.hid hg3; obtain ⟨g3, cap3, rfl⟩ := ownsRow_succ hown3; have Hown3 := Lib.hid hown3; clear hown3 hg3 hnil3; have c3 := (HV.out.push_box Hg3.out).cell (i := 0) rfl; have f3 := (HV.out.push_box Hg3.out).free 0)
          obtain ⟨q1, q2, q3⟩ := HV.out.push ii Hg3.out Hown3.out
          exact ⟨q2.from _, q3, _, by rw [Hkey.out]; exact q1⟩
        · rw [if_neg hk, List.append_nil] at hkey2
          have Hkey := Lib.hid hkey2; clear hkey2
          have hk' : (kk == 2) = false := by simpa using hk
          gi_wp2
          exact ⟨(KeepsOthers.refl _).from _, KeepC.refl _ _, _, by rw [Hkey.out]; exact HV.out⟩
      case done =>
        rintro D ys V hD hys ⟨v', hV⟩ hK
        have hV2 := hV.mark hK (fun D' h' => by have := Hlts.out D' h'; omega) (by omega)
        have Hz : Hid (zs ++ metasP (ys.map Hit6.key) = metasL (l.take (j + 1))) := by show _ = _; rw [hys, Htk.out, hzs.out]
        rw [Hz.out] at hV2
        clear hV hK hys
        have HV := Lib.hid hV2; clear hV2
        gi_wp2_with fail
        refine ⟨⟨j + 1, D :: Ds, _, v', _, _, _, _, _, _, _, rfl, by omega, rfl, HV.out⟩, ?_⟩
        simp [intOf]; omega
      case stop =>
        rintro D cc pre V _ _ h _
        exact h.elim
    · have hO := HO.out
      have hz2 : zs = metasL l := by rw [hzs.out, List.take_of_length_le (by omega)]
      have hlen : zs.length ≤ 1000000 := by
        have := metasL_len l 90000 Hsz.out
        rw [hz2]
        exact Nat.le_trans this (Nat.le_trans (Nat.mul_le_mul_right 90000 (show l.length ≤ 9 by omega)) (by decide))
      have c1 : W.cell? ⟨w.heap.size, 0, none⟩ = some vv := hO.box.cell rfl
      clear hO
      gi_wp2_with fail
      refine ⟨trivial, (callsIn_wide.2 (sort_own (base := w.heap.size + 1) HO.out.own hlen)).mono ?_⟩
      rintro e W2 ⟨rfl, hown2, hg2⟩
      have hl2 := List.length_mergeSort (le := fun x y : Int => decide (x ≤ y)) zs
      have HO2 := Lib.hid (HO.out.sorted hg2 (by rw [hl2]; exact hown2))
      clear HO hown2 hg2
      have c2 : W2.cell? ⟨w.heap.size, 0, none⟩ = some vv := HO2.out.box.cell rfl
      gi_wp2_with fail
      refine ⟨trivial, (callsIn_wide.2 (compact_own (base := w.heap.size + 1) HO2.out.own (by rw [hl2]; exact hlen))).mono ?_⟩
      rintro e W3 ⟨v', rfl, hown3, hg3⟩
      have Hown3 := Lib.hid hown3; have Hg3 := Lib.hid hg3
      clear hown3 hg3
      gi_wp2_with fail
      have h := HO2.out.leave Hg3.out Hown3.out (F := Fence.wide) (n := 9) (P := Try.prog) (fn := Try.f61) (tmps := #[.slice a ll c, undef, v', .pointer (some ⟨w.heap.size, 0, none⟩), undef, u5, undef, undef, .slice a ll c, .int .i64 ll, .int .i64 j, .bool false, u12, u13, u14, u15, undef, undef, undef, undef, undef, undef, undef, undef, undef, undef, undef, undef, u28, vv, .tuple #[], vv, v']) (fun w3 => results_tmp (t := 2) rfl _ _ w3)
      rw [hz2] at h
      exact h
end Go.Proofs.Ytnpjjkeokcoedaa

