/-
  How many types and terms: exactly what the reference counts. How many terms: exactly what the reference counts; the laws' Few. What the laws' Few tells of a term. Lists of pairs in the laws of layer 9: To, Few. MatchAlls, walked in the deep way. Variants and what is more general, walked in the deep way; MatchOrders. match.Find in plain words, and the document's answer for it. Loops over an iterator that hands out what it has just made. A region that draws its order where several operations can come up. A region that draws its order, walked outside any fence, is taken into the fence that asks nothing, in a round of a loop or not. spot.Each: all places, each handed out as copies that have just been made. spot.Each as an iterator; match.Find. match.Find: the first place where a pattern matches. The law MatchFinds.
-/
import Derived.Test.YtcblpjheoclkeaaRowMatchFindsp5
import Derived.Test.YtcblpjheoclkeaaRowMatchFindsp8
import Derived.Test.YtcblpjheoclkeaaRowMatchFindsp7
import Derived.Test.YtcblpjheoclkeaaRowMatchFindsp4
import Derived.Test.YtcblpjheoclkeaaRowMatchFindsp1
import Derived.RegionTactic
import Derived.OrdersIn
import Derived.RangeFuncCalls
set_option maxRecDepth 100000
set_option maxHeartbeats 1000000
set_option linter.unusedVariables false
set_option linter.unusedSimpArgs false
namespace Go.Proofs.Ytcblpjheoclkeaa
open Go.RowKit
def TF4_3 : TI := ⟨1, false, [Value.int IntKind.i64 0], [], none, 8, 2, none, false⟩
theorem TF4_3_ok : TypOk Try.prog 3 TF4_3 := ⟨by kernel_rfl, by kernel_rfl, by kernel_rfl, by kernel_rfl, by kernel_rfl⟩
def TF4_123 : TI := ⟨2, true, [Value.slice none 0 0, Value.int IntKind.i64 0], [(0, 1, false), (1, 1, false)], none, 32, 6, none, false⟩
theorem TF4_123_ok : TypOk Try.prog 123 TF4_123 := ⟨by kernel_rfl, by kernel_rfl, by kernel_rfl, by kernel_rfl, by kernel_rfl⟩
def TF4_22 : TI := ⟨1, false, [Value.slice none 0 0], [], some 123, 24, 5, none, false⟩
theorem TF4_22_ok : TypOk Try.prog 22 TF4_22 := ⟨by kernel_rfl, by kernel_rfl, by kernel_rfl, by kernel_rfl, by kernel_rfl⟩
def TF4 : List (Nat × TI) := [(3, TF4_3), (123, TF4_123), (22, TF4_22)]
theorem TF4_ok : TabOk Try.prog TF4 := ((((TabOk.nil _).cons TF4_22_ok).cons TF4_123_ok).cons TF4_3_ok)

mutual
def fewT (most : Int) : Ty → Int → Int
  | .mk a _, d => if d ≤ 0 then most + 1 else fewTs most a (d - 1) 1
def fewTs (most : Int) : List Ty → Int → Int → Int
  | [], _, n => n
  | t :: l, d, n => if n ≤ most then fewTs most l d (n + fewT most t d) else n
end
theorem fewTs_le {most : Int} (hm : 0 ≤ most) {B : Int} (hB : 0 ≤ B) : ∀ (l : List Ty) (d n : Int), (∀ t ∈ l, 1 ≤ fewT most t d ∧ fewT most t d ≤ B) → 1 ≤ n → n ≤ most + B → 1 ≤ fewTs most l d n ∧ fewTs most l d n ≤ most + B
  | [], d, n, _, h0, h1 => by rw [fewTs]; exact ⟨h0, h1⟩
  | t :: l, d, n, h, h0, h1 => by
    rw [fewTs]
    split
    · have := h t (by simp)
      exact fewTs_le hm hB l d _ (fun u hu => h u (by simp [hu])) (by omega) (by omega)
    · exact ⟨h0, h1⟩
theorem fewT_le {most : Int} (hm : 1 ≤ most) : ∀ (k : Nat) (t : Ty) (d : Int), d ≤ k → 1 ≤ fewT most t d ∧ fewT most t d ≤ most * k + most + 1
  | 0, .mk a b, d, hd => by
    rw [fewT, if_pos (by omega)]
    have e : most * ((0 : Nat) : Int) = 0 := Int.mul_zero _
    rw [e]; omega
  | k + 1, .mk a b, d, hd => by
    rw [fewT]
    have e : most * ((k + 1 : Nat) : Int) = most * (k : Int) + most := by rw [Int.natCast_add, Int.mul_add]; simp
    have h0 : 0 ≤ most * (k : Int) := Int.mul_nonneg (by omega) (by omega)
    split
    · rw [e]; omega
    · have := fewTs_le (most := most) (by omega) (B := most * k + most + 1) (by omega) a (d - 1) 1 (fun t _ => fewT_le hm k t (d - 1) (by omega)) (by omega) (by omega)
      rw [e]; omega
set_option maxHeartbeats 1000000 in
theorem few4_d (most : Int) (h1 : 1 ≤ most) (h2 : most ≤ 1000) : ∀ (t : Ty) (d : Int), -1000 ≤ d → d ≤ 1000 → PureC Try.prog 96 [.ag (eTy t), .v (.int .i64 most), .v (.int .i64 d)] (.v (.int .i64 (fewT most t d))) := by
 intro t
 induction t using Ty.ind with
 | h a b ih =>
 intro d hd1 hd2
 refine call_of_dw 0 37 [ResultVar.tmp 6] TF4_ok (by kernel_rfl) Try.func96 rfl Try.ntmps96 rfl (by simp) ?dwords ?dbody
 case dwords => simp [wordsOk, D.ok, D.oks, rnames, eTy_ok]
 case dbody =>
  intro cx hnt hn0
  refine dw_seq ?_; refine dwk [] TF4_ok hnt fun K hK => ?_; refine hK _ _ ?_; clear hK K; refine dw_seq (dw_seq ?_)
  by_cases hd : d ≤ 0
  ·have hf : fewT most (.mk a b) d = most + 1 := by rw [fewT, if_pos hd]
   rw [hf]
   refine dwk [(10, .v (.bool true))] TF4_ok hnt fun K hK => ?_; refine And.intro (dtrue hd) ?_; refine hK _ _ ?_; clear hK K; refine dw_cond (t := true) rfl ?_; rw [if_pos rfl]; refine dw_seq ?_; refine dwk [(12, .v (.int .i64 (most + 1)))] TF4_ok hnt fun K hK => ?_; refine And.intro (dintE (IntWalk.i64_in _ (by omega))) ?_; refine hK _ _ ?_; clear hK K; refine dw_ret ?_
   exact retv (N := 0) (.inr rfl) rfl (VLe.refl _) trivial
  ·have hf : fewT most (.mk a b) d = fewTs most a (d - 1) 1 := by rw [fewT, if_neg hd]
   rw [hf]
   refine dwk [(10, .v (.bool false))] TF4_ok hnt fun K hK => ?_; refine And.intro (dfalse hd) ?_; refine hK _ _ ?_; clear hK K; refine dw_cond (t := false) rfl ?_; rw [if_neg (by simp)]; refine dw_skip ?_; refine dw_seq ?_; refine dwk [] TF4_ok hnt fun K hK => ?_; refine hK _ _ ?_; clear hK K; refine dw_seq (dw_seq ?_); refine dwk [] TF4_ok hnt fun K hK => ?_; refine hK _ _ ?_; clear hK K; refine dw_block ?_
   refine dw_loop (ι := { p : Nat × Int // fewTs most (a.drop p.1) (d - 1) p.2 = fewTs most a (d - 1) 1 ∧ (p.1 : Int) + 1 ≤ p.2 ∧ p.2 ≤ 2000000 ∧ p.1 ≤ a.length }) (fun p => [(.t 1, .v (.int .i64 most)), (.t 2, .v (.int .i64 d)), (.t 3, .p 0 0), (.t 7, .v (.int .i64 p.1.2)), (.t 8, .v (.int .i64 (p.1.1 : Int))), (.c 0 0, .sl 2 (eTys a) none), (.c 0 1, .v (.int .i64 b))]) 1 (fun p => a.length - p.1.1) ⟨(0, 1), by simp, by simp, by simp, by simp⟩ VS.toA fun p => ?_
   obtain ⟨⟨j, n⟩, hj1, hj2, hj3, hj4⟩ := p
   dsimp only at hj1 hj2 hj3 hj4 ⊢
   refine dw_seq (dw_seq ?_)
   by_cases hlt : j < a.length
   ·have hdr : a.drop j = a[j] :: a.drop (j + 1) := List.drop_eq_getElem_cons hlt
    rw [hdr, fewTs] at hj1
    by_cases hn : n ≤ most
    ·rw [if_pos hn] at hj1
     have hih := ih a[j] (List.getElem_mem hlt) (d - 1) (by omega) (by omega)
     rw [eTy_eq] at hih
     have hbd := fewT_le h1 1000 a[j] (d - 1) (by omega)
     have hbd2 : most * ((1000 : Nat) : Int) ≤ 1000000 := by
      have : most * ((1000 : Nat) : Int) = 1000 * most := by rw [Int.mul_comm]; rfl
      omega
     refine dwk [(17, .v (.bool true)), (21, .v (.bool true))] TF4_ok hnt fun K hK => ?_; refine And.intro (dtrue (by rw [eTys_len]; omega)) ?_; refine And.intro (dtrue hn) ?_; refine hK _ _ ?_; clear hK K; refine dw_cond (t := true) rfl ?_; rw [if_pos rfl]; refine dw_skip ?_; refine dw_seq (dw_block ?_); refine dwk [(29, .q [.sl 2 (eTys a[j].args) none, .v (.int .i64 a[j].base)]), (33, .v (.int .i64 (d - 1))), (35, .v (.int .i64 (n + fewT most a[j] (d - 1))))] TF4_ok hnt fun K hK => ?_
     refine And.intro (⟨by omega, by rw [eTys_len]; omega⟩) ?_; refine And.intro (VLe.of_eq (by rw [Int.toNat_natCast, eTys_getD a j hlt, eTy_eq])) ?_; refine And.intro (dintE (IntWalk.i64_in _ (by omega))) ?_; refine dcl (hih) ?_; refine And.intro (dintE (IntWalk.i64_in _ (by omega))) ?_; refine hK _ _ ?_; clear hK K; refine dwk [(24, .v (.int .i64 ((j + 1 : Nat) : Int)))] TF4_ok hnt fun K hK => ?_; refine And.intro (dintE (by rw [IntWalk.i64_in _ (by omega)]; omega)) ?_
     refine hK _ _ ?_; clear hK K
     exact ⟨⟨(j + 1, n + fewT most a[j] (d - 1)), hj1, by dsimp only; omega, by dsimp only; omega, hlt⟩, by dsimp only; omega, VS.toA⟩
    ·rw [if_neg hn] at hj1
     rw [← hj1]
     refine dwk [(17, .v (.bool true)), (21, .v (.bool false))] TF4_ok hnt fun K hK => ?_; refine And.intro (dtrue (by rw [eTys_len]; omega)) ?_; refine And.intro (dfalse hn) ?_; refine hK _ _ ?_; clear hK K; refine dw_cond (t := false) rfl ?_; rw [if_neg (by simp)]; refine dw_exit ?_; refine dw_seq ?_; refine dwk [] TF4_ok hnt fun K hK => ?_; refine hK _ _ ?_; clear hK K; refine dw_ret ?_
     exact retv (N := 0) (.inr rfl) rfl (VLe.refl _) trivial
   ·rw [List.drop_eq_nil_of_le (by omega), fewTs] at hj1
    rw [← hj1]
    refine dwk [(17, .v (.bool false))] TF4_ok hnt fun K hK => ?_; refine And.intro (dfalse (by rw [eTys_len]; omega)) ?_; refine hK _ _ ?_; clear hK K; refine dw_cond (t := false) rfl ?_; rw [if_neg (by simp)]; refine dw_exit ?_; refine dw_seq ?_; refine dwk [] TF4_ok hnt fun K hK => ?_; refine hK _ _ ?_; clear hK K; refine dw_ret ?_
    exact retv (N := 0) (.inr rfl) rfl (VLe.refl _) trivial
theorem fewTs_size {most : Int} : ∀ (l : List Ty) (d n : Int), (∀ t ∈ l, fewT most t d ≤ most → (t.size : Int) = fewT most t d) → (∀ t ∈ l, 1 ≤ fewT most t d) → 1 ≤ n → fewTs most l d n ≤ most → fewTs most l d n = n + Ty.sizes l
  | [], d, n, _, _, _, _ => by rw [fewTs]; simp [Ty.sizes]
  | t :: l, d, n, h, h1, hn, hf => by
    rw [fewTs] at hf ⊢
    split at hf
    · rename_i hm
      rw [if_pos hm]
      have h2 := h1 t (by simp)
      have h3 := fewTs_size l d _ (fun u hu => h u (by simp [hu])) (fun u hu => h1 u (by simp [hu])) (by omega) hf
      have h4 : fewT most t d ≤ most := by omega
      have h5 := h t (by simp) h4
      rw [h3, Ty.sizes]; omega
    · rename_i hm; omega
theorem fewT_size {most : Int} (hm : 1 ≤ most) : ∀ (k : Nat) (t : Ty) (d : Int), d ≤ k → fewT most t d ≤ most → (t.size : Int) = fewT most t d
  | 0, .mk a b, d, hd, h => by rw [fewT, if_pos (by omega)] at h; omega
  | k + 1, .mk a b, d, hd, h => by
    rw [fewT] at h ⊢
    split at h
    · omega
    · rename_i hp
      rw [if_neg hp]
      have := fewTs_size a (d - 1) 1 (fun t _ => fewT_size hm k t (d - 1) (by omega)) (fun t _ => (fewT_le hm k t (d - 1) (by omega)).1) (by omega) h
      rw [this, Ty.size_eq]; omega
theorem Few4_d (most : Int) (h1 : 1 ≤ most) (h2 : most ≤ 1000) (t : Ty) (d : Int) (h3 : -1000 ≤ d) (h4 : d ≤ 1000) : PureC Try.prog 60 [.ag (eTy t), .v (.int .i64 most), .v (.int .i64 d)] (.v (.bool (decide (fewT most t d ≤ most)))) := by
 have h := few4_d most h1 h2 t d h3 h4
 rw [eTy_eq] at h ⊢
 refine call_of_dw 0 13 [ResultVar.tmp 6] TF4_ok (by kernel_rfl) Try.func60 rfl Try.ntmps60 rfl (by simp) ?dwords ?dbody
 case dwords => simp [wordsOk, D.ok, D.oks, rnames, eTys_ok]
 case dbody =>
  intro cx hnt hn0
  refine dw_seq ?_; refine dwk [] TF4_ok hnt fun K hK => ?_; refine hK _ _ ?_; clear hK K; refine dw_seq ?_; refine dwk [] TF4_ok hnt fun K hK => ?_; refine dcl (h) ?_; refine hK _ _ ?_; clear hK K; refine dw_ret ?_
  exact retv (N := 0) (.inr rfl) rfl (VLe.refl _) trivial
set_option maxHeartbeats 1000000 in
theorem Size4_d : ∀ (t : Ty) (_ : t.size ≤ 1000000), PureC Try.prog 105 [.ag (eTy t)] (.v (.int .i64 (t.size : Int))) := by
 intro t
 induction t using Ty.ind with
 | h a b ih =>
 intro hsz
 have hsz2 := Ty.size_eq a b
 refine call_of_dw 0 21 [ResultVar.tmp 2] TF4_ok (by kernel_rfl) Try.func105 rfl Try.ntmps105 rfl (by simp) ?dwords ?dbody
 case dwords => simp [wordsOk, D.ok, D.oks, rnames, eTy_ok]
 case dbody =>
  intro cx hnt hn0
  refine dw_seq ?_; refine dwk [] TF4_ok hnt fun K hK => ?_; refine hK _ _ ?_; clear hK K; refine dw_seq ?_; refine dwk [] TF4_ok hnt fun K hK => ?_; refine hK _ _ ?_; clear hK K; refine dw_seq (dw_seq ?_); refine dwk [] TF4_ok hnt fun K hK => ?_; refine hK _ _ ?_; clear hK K; refine dw_block ?_
  refine dw_loop (ι := { j : Nat // j ≤ a.length }) (fun j => [(.t 1, .p 0 0), (.t 3, .v (.int .i64 ((Ty.sizes (a.take j.1) : Int) + 1))), (.t 4, .v (.int .i64 (j.1 : Int))), (.c 0 0, .sl 2 (eTys a) none), (.c 0 1, .v (.int .i64 b))]) 1 (fun j => a.length - j.1) ⟨0, Nat.zero_le _⟩ VS.toA fun j => ?_
  obtain ⟨j, hj⟩ := j
  dsimp only
  have hst := Ty.sizes_take_le a j
  have hst2 := Ty.sizes_take_le a (j + 1)
  have hla := Ty.le_sizes a
  refine dw_seq (dw_seq ?_)
  by_cases hlt : j < a.length
  ·have hih := ih a[j] (List.getElem_mem hlt) (by have := Ty.size_get (b := b) j hlt; omega)
   rw [eTy_eq] at hih
   have htk := Ty.sizes_take a j hlt
   refine dwk [(9, .v (.bool true))] TF4_ok hnt fun K hK => ?_; refine And.intro (dtrue (by rw [eTys_len]; omega)) ?_; refine hK _ _ ?_; clear hK K; refine dw_cond (t := true) rfl ?_; rw [if_pos rfl]; refine dw_skip ?_; refine dw_seq (dw_block ?_); refine dwk [(16, .q [.sl 2 (eTys a[j].args) none, .v (.int .i64 a[j].base)]), (19, .v (.int .i64 ((Ty.sizes (a.take (j + 1)) : Int) + 1)))] TF4_ok hnt fun K hK => ?_
   refine And.intro (⟨by omega, by rw [eTys_len]; omega⟩) ?_; refine And.intro (VLe.of_eq (by rw [Int.toNat_natCast, eTys_getD a j hlt, eTy_eq])) ?_; refine dcl (hih) ?_; refine And.intro (dintE (by rw [IntWalk.i64_in _ (by omega), htk]; omega)) ?_; refine hK _ _ ?_; clear hK K; refine dwk [(11, .v (.int .i64 ((j + 1 : Nat) : Int)))] TF4_ok hnt fun K hK => ?_; refine And.intro (dintE (by rw [IntWalk.i64_in _ (by omega)]; omega)) ?_
   refine hK _ _ ?_; clear hK K
   exact ⟨⟨j + 1, hlt⟩, by dsimp only; omega, VS.toA⟩
  ·skip
   refine dwk [(9, .v (.bool false))] TF4_ok hnt fun K hK => ?_; refine And.intro (dfalse (by rw [eTys_len]; omega)) ?_; refine hK _ _ ?_; clear hK K; refine dw_cond (t := false) rfl ?_; rw [if_neg (by simp)]; refine dw_exit ?_; refine dw_seq ?_
   have hsz3 : ((Ty.mk a b).size : Int) = (Ty.sizes (a.take j) : Int) + 1 := by rw [List.take_of_length_le (by omega), hsz2]; omega
   rw [hsz3]
   refine dwk [] TF4_ok hnt fun K hK => ?_; refine hK _ _ ?_; clear hK K; refine dw_ret ?_
   exact retv (N := 0) (.inr rfl) rfl (VLe.refl _) trivial
end Go.Proofs.Ytcblpjheoclkeaa

namespace Go.Proofs.Ytcblpjheoclkeaa
open Go.RowKit
def TF6_3 : TI := ⟨1, false, [Value.int IntKind.i64 0], [], none, 8, 2, none, false⟩
theorem TF6_3_ok : TypOk Try.prog 3 TF6_3 := ⟨by kernel_rfl, by kernel_rfl, by kernel_rfl, by kernel_rfl, by kernel_rfl⟩
def TF6_27 : TI := ⟨4, true, [Value.slice none 0 0, Value.int IntKind.i64 0, Value.int IntKind.i64 0, Value.slice none 0 0], [(0, 1, false), (1, 2, true), (3, 1, false)], none, 64, 6, none, false⟩
theorem TF6_27_ok : TypOk Try.prog 27 TF6_27 := ⟨by kernel_rfl, by kernel_rfl, by kernel_rfl, by kernel_rfl, by kernel_rfl⟩
def TF6_22 : TI := ⟨1, false, [Value.slice none 0 0], [], some 123, 24, 5, none, false⟩
theorem TF6_22_ok : TypOk Try.prog 22 TF6_22 := ⟨by kernel_rfl, by kernel_rfl, by kernel_rfl, by kernel_rfl, by kernel_rfl⟩
def TF6_25 : TI := ⟨1, false, [Value.slice none 0 0], [], some 27, 24, 5, none, false⟩
theorem TF6_25_ok : TypOk Try.prog 25 TF6_25 := ⟨by kernel_rfl, by kernel_rfl, by kernel_rfl, by kernel_rfl, by kernel_rfl⟩
def TF6_123 : TI := ⟨2, true, [Value.slice none 0 0, Value.int IntKind.i64 0], [(0, 1, false), (1, 1, false)], none, 32, 6, none, false⟩
theorem TF6_123_ok : TypOk Try.prog 123 TF6_123 := ⟨by kernel_rfl, by kernel_rfl, by kernel_rfl, by kernel_rfl, by kernel_rfl⟩
def TF6 : List (Nat × TI) := [(3, TF6_3), (27, TF6_27), (22, TF6_22), (25, TF6_25), (123, TF6_123)]
theorem TF6_ok : TabOk Try.prog TF6 := ((((((TabOk.nil _).cons TF6_123_ok).cons TF6_25_ok).cons TF6_22_ok).cons TF6_27_ok).cons TF6_3_ok)

def fewB1 (most d : Int) : List Ty → Int → Option Int
  | [], n => some n
  | t :: l, n => if n ≤ most then (if fewT most t d ≤ most then fewB1 most d l (n + t.size) else none) else some n
mutual
def fewM (most : Int) : Tm → Int → Int
  | .mk bs _ _ a, d => if d ≤ 0 then most + 1 else match fewB1 most d bs 1 with
    | none => most + 1
    | some n => fewMs most a (d - 1) n
def fewMs (most : Int) : List Tm → Int → Int → Int
  | [], _, n => n
  | t :: l, d, n => if n ≤ most then fewMs most l d (n + fewM most t d) else n
end
theorem fewB1_le {most d : Int} (hm : 1 ≤ most) (hd : d ≤ 1000) : ∀ (l : List Ty) (n : Int), 1 ≤ n → n ≤ 2 * most → ∀ r, fewB1 most d l n = some r → 1 ≤ r ∧ r ≤ 2 * most
  | [], n, h0, h1, r, h => by rw [fewB1] at h; cases h; exact ⟨h0, h1⟩
  | t :: l, n, h0, h1, r, h => by
    rw [fewB1] at h
    split at h
    · split at h
      · rename_i h2
        have := fewT_size hm 1000 t d hd h2
        have := (fewT_le hm 1000 t d hd).1
        exact fewB1_le hm hd l _ (by omega) (by omega) r h
      · cases h
    · cases h; exact ⟨h0, h1⟩
theorem fewMs_le {most : Int} (hm : 1 ≤ most) {B : Int} (hB : most ≤ B) : ∀ (l : List Tm) (d n : Int), (∀ t ∈ l, 1 ≤ fewM most t d ∧ fewM most t d ≤ B) → 1 ≤ n → n ≤ most + B → 1 ≤ fewMs most l d n ∧ fewMs most l d n ≤ most + B
  | [], d, n, _, h0, h1 => by rw [fewMs]; exact ⟨h0, h1⟩
  | t :: l, d, n, h, h0, h1 => by
    rw [fewMs]
    split
    · have := h t (by simp)
      exact fewMs_le hm hB l d _ (fun u hu => h u (by simp [hu])) (by omega) (by omega)
    · exact ⟨h0, h1⟩
theorem fewM_le {most : Int} (hm : 1 ≤ most) : ∀ (k : Nat) (t : Tm) (d : Int), k ≤ 1000 → d ≤ k → 1 ≤ fewM most t d ∧ fewM most t d ≤ most * k + most + 1
  | 0, .mk bs kd i a, d, hk, hd => by
    rw [fewM, if_pos (by omega)]
    have e : most * ((0 : Nat) : Int) = 0 := Int.mul_zero _
    rw [e]; omega
  | k + 1, .mk bs kd i a, d, hk, hd => by
    rw [fewM]
    have e : most * ((k + 1 : Nat) : Int) = most * (k : Int) + most := by rw [Int.natCast_add, Int.mul_add]; simp
    have h0 : 0 ≤ most * (k : Int) := Int.mul_nonneg (by omega) (by omega)
    rw [e]
    split
    · omega
    · cases hb : fewB1 most d bs 1 with
      | none => dsimp only; omega
      | some n =>
        have hn := fewB1_le hm (by omega) bs 1 (by omega) (by omega) n hb
        have := fewMs_le hm (B := most * k + most + 1) (by omega) a (d - 1) n (fun t _ => fewM_le hm k t (d - 1) (by omega) (by omega)) hn.1 (by omega)
        dsimp only
        omega
set_option maxHeartbeats 4000000 in
theorem few6_d (most : Int) (h1 : 1 ≤ most) (h2 : most ≤ 1000) : ∀ (t : Tm) (d : Int), -1000 ≤ d → d ≤ 1000 → PureC Try.prog 69 [.ag (eTm t), .v (.int .i64 most), .v (.int .i64 d)] (.v (.int .i64 (fewM most t d))) := by
 intro t
 induction t using Tm.ind with
 | h bs k i a ih =>
 intro d hd1 hd2
 obtain ⟨V, hV⟩ : ∃ V, fewM most (.mk bs k i a) d = V := ⟨_, rfl⟩
 rw [hV]
 rw [fewM] at hV
 refine call_of_dw 0 69 [ResultVar.tmp 6] TF6_ok (by kernel_rfl) Try.func69 rfl Try.ntmps69 rfl (by simp) ?dwords ?dbody
 case dwords => simp [wordsOk, D.ok, D.oks, rnames, eTm_ok]
 case dbody =>
  intro cx hnt hn0
  refine dw_seq ?_; refine dwk [] TF6_ok hnt fun K hK => ?_; refine hK _ _ ?_; clear hK K; refine dw_seq (dw_seq ?_)
  by_cases hd : d ≤ 0
  ·rw [if_pos hd] at hV
   subst hV
   refine dwk [(11, .v (.bool true))] TF6_ok hnt fun K hK => ?_; refine And.intro (dtrue hd) ?_; refine hK _ _ ?_; clear hK K; refine dw_cond (t := true) rfl ?_; rw [if_pos rfl]; refine dw_seq ?_; refine dwk [(13, .v (.int .i64 (most + 1)))] TF6_ok hnt fun K hK => ?_; refine And.intro (dintE (IntWalk.i64_in _ (by omega))) ?_; refine hK _ _ ?_; clear hK K; refine dw_ret ?_
   exact retv (N := 0) (.inr rfl) rfl (VLe.refl _) trivial
  ·rw [if_neg hd] at hV; refine dwk [(11, .v (.bool false))] TF6_ok hnt fun K hK => ?_; refine And.intro (dfalse hd) ?_; refine hK _ _ ?_; clear hK K; refine dw_cond (t := false) rfl ?_; rw [if_neg (by simp)]; refine dw_skip ?_; refine dw_seq ?_; refine dwk [] TF6_ok hnt fun K hK => ?_; refine hK _ _ ?_; clear hK K
   refine dw_cutE (ι := { n : Int // 1 ≤ n ∧ n ≤ 2 * most ∧ V = fewMs most a (d - 1) n }) (fun n => [(.t 1, .v (.int .i64 most)), (.t 2, .v (.int .i64 d)), (.t 3, .p 0 0), (.t 7, .v (.int .i64 n.1)), (.c 0 0, .sl 2 (eTys bs) none), (.c 0 1, .v (.int .i64 k)), (.c 0 2, .v (.int .i64 i)), (.c 0 3, .sl 4 (eTms a) none)]) 1 ?_ fun n => ?_
   ·refine dw_seq ?_; refine dwk [] TF6_ok hnt fun K hK => ?_; refine hK _ _ ?_; clear hK K; refine dw_block ?_
    refine dw_loop (ι := { p : Nat × Int // fewB1 most d (bs.drop p.1) p.2 = fewB1 most d bs 1 ∧ (p.1 : Int) + 1 ≤ p.2 ∧ p.2 ≤ 2 * most ∧ p.1 ≤ bs.length }) (fun p => [(.t 1, .v (.int .i64 most)), (.t 2, .v (.int .i64 d)), (.t 3, .p 0 0), (.t 7, .v (.int .i64 p.1.2)), (.t 8, .v (.int .i64 (p.1.1 : Int))), (.c 0 0, .sl 2 (eTys bs) none), (.c 0 1, .v (.int .i64 k)), (.c 0 2, .v (.int .i64 i)), (.c 0 3, .sl 4 (eTms a) none)]) 1 (fun p => bs.length - p.1.1) ⟨(0, 1), by simp, by simp, by dsimp only; omega, by simp⟩ VS.toA fun p => ?_
    obtain ⟨⟨j, n⟩, hj1, hj2, hj3, hj4⟩ := p
    dsimp only at hj1 hj2 hj3 hj4 ⊢
    refine dw_seq (dw_seq ?_)
    by_cases hlt : j < bs.length
    ·have hdr : bs.drop j = bs[j] :: bs.drop (j + 1) := List.drop_eq_getElem_cons hlt
     rw [hdr, fewB1] at hj1
     by_cases hn : n ≤ most
     ·rw [if_pos hn] at hj1
      have hF := Few4_d most h1 h2 bs[j] d hd1 hd2
      rw [eTy_eq] at hF
      have hq : (eTys bs).getD (j : Int).toNat [] = [.sl 2 (eTys bs[j].args) none, .v (.int .i64 bs[j].base)] := by rw [Int.toNat_natCast, eTys_getD bs j hlt, eTy_eq]
      have hb : (0 : Int) ≤ (j : Int) ∧ (j : Int) < ((eTys bs).length : Int) := ⟨by omega, by rw [eTys_len]; omega⟩
      refine dwk [(18, .v (.bool true)), (22, .v (.bool true))] TF6_ok hnt fun K hK => ?_; refine And.intro (dtrue (by rw [eTys_len]; omega)) ?_; refine And.intro (dtrue hn) ?_; refine hK _ _ ?_; clear hK K; refine dw_cond (t := true) rfl ?_; rw [if_pos rfl]; refine dw_skip ?_; refine dw_seq (dw_block ?_); refine dw_seq (dw_seq ?_)
      by_cases hff : fewT most bs[j] d ≤ most
      ·rw [if_pos hff] at hj1
       rw [decide_eq_true hff] at hF
       have hs1 := fewT_size h1 1000 bs[j] d (by omega) hff
       have hs2 := (fewT_le h1 1000 bs[j] d (by omega)).1
       have hS := Size4_d bs[j] (by omega)
       rw [eTy_eq] at hS
       refine dwk [(29, .q [.sl 2 (eTys bs[j].args) none, .v (.int .i64 bs[j].base)])] TF6_ok hnt fun K hK => ?_; refine And.intro (hb) ?_; refine And.intro (VLe.of_eq (by rw [hq])) ?_; refine dcl (hF) ?_; refine hK _ _ ?_; clear hK K; refine dw_cond (t := false) rfl ?_; rw [if_neg (by simp)]; refine dw_skip ?_; refine dwk [(41, .q [.sl 2 (eTys bs[j].args) none, .v (.int .i64 bs[j].base)]), (44, .v (.int .i64 (n + (bs[j].size : Int))))] TF6_ok hnt fun K hK => ?_
       refine And.intro (hb) ?_; refine And.intro (VLe.of_eq (by rw [hq])) ?_; refine dcl (hS) ?_; refine And.intro (dintE (IntWalk.i64_in _ (by omega))) ?_; refine hK _ _ ?_; clear hK K; refine dwk [(25, .v (.int .i64 ((j + 1 : Nat) : Int)))] TF6_ok hnt fun K hK => ?_; refine And.intro (dintE (by rw [IntWalk.i64_in _ (by omega)]; omega)) ?_; refine hK _ _ ?_; clear hK K
       exact ⟨⟨(j + 1, n + (bs[j].size : Int)), hj1, by dsimp only; omega, by dsimp only; omega, hlt⟩, by dsimp only; omega, VS.toA⟩
      ·rw [if_neg hff] at hj1
       rw [decide_eq_false hff] at hF
       rw [← hj1] at hV
       dsimp only at hV
       subst hV
       refine dwk [(29, .q [.sl 2 (eTys bs[j].args) none, .v (.int .i64 bs[j].base)])] TF6_ok hnt fun K hK => ?_; refine And.intro (hb) ?_; refine And.intro (VLe.of_eq (by rw [hq])) ?_; refine dcl (hF) ?_; refine hK _ _ ?_; clear hK K; refine dw_cond (t := true) rfl ?_; rw [if_pos rfl]; refine dw_seq ?_; refine dwk [(36, .v (.int .i64 (most + 1)))] TF6_ok hnt fun K hK => ?_; refine And.intro (dintE (IntWalk.i64_in _ (by omega))) ?_
       refine hK _ _ ?_; clear hK K; refine dw_ret ?_
       exact retv (N := 0) (.inr rfl) rfl (VLe.refl _) trivial
     ·rw [if_neg hn] at hj1
      rw [← hj1] at hV
      dsimp only at hV
      refine dwk [(18, .v (.bool true)), (22, .v (.bool false))] TF6_ok hnt fun K hK => ?_; refine And.intro (dtrue (by rw [eTys_len]; omega)) ?_; refine And.intro (dfalse hn) ?_; refine hK _ _ ?_; clear hK K; refine dw_cond (t := false) rfl ?_; rw [if_neg (by simp)]; refine dw_exit ?_
      exact cutE_ok (Q := RetOk TF6 [ResultVar.tmp 6] (.v (.int .i64 V)) []) ⟨n, by omega, hj3, hV.symm⟩ VS.toA
    ·rw [List.drop_eq_nil_of_le (by omega), fewB1] at hj1
     rw [← hj1] at hV
     dsimp only at hV
     refine dwk [(18, .v (.bool false))] TF6_ok hnt fun K hK => ?_; refine And.intro (dfalse (by rw [eTys_len]; omega)) ?_; refine hK _ _ ?_; clear hK K; refine dw_cond (t := false) rfl ?_; rw [if_neg (by simp)]; refine dw_exit ?_
     exact cutE_ok (Q := RetOk TF6 [ResultVar.tmp 6] (.v (.int .i64 V)) []) ⟨n, by omega, hj3, hV.symm⟩ VS.toA
   ·obtain ⟨n0, hn1, hn2, hVn⟩ := n
    dsimp only
    rw [hVn]
    refine dw_seq (dw_seq ?_); refine dwk [] TF6_ok hnt fun K hK => ?_; refine hK _ _ ?_; clear hK K; refine dw_block ?_
    refine dw_loop (ι := { p : Nat × Int // fewMs most (a.drop p.1) (d - 1) p.2 = fewMs most a (d - 1) n0 ∧ (p.1 : Int) + 1 ≤ p.2 ∧ p.2 ≤ 2000000 ∧ p.1 ≤ a.length }) (fun p => [(.t 1, .v (.int .i64 most)), (.t 2, .v (.int .i64 d)), (.t 3, .p 0 0), (.t 7, .v (.int .i64 p.1.2)), (.t 9, .v (.int .i64 (p.1.1 : Int))), (.c 0 0, .sl 2 (eTys bs) none), (.c 0 1, .v (.int .i64 k)), (.c 0 2, .v (.int .i64 i)), (.c 0 3, .sl 4 (eTms a) none)]) 1 (fun p => a.length - p.1.1) ⟨(0, n0), by simp, by dsimp only; omega, by dsimp only; omega, by simp⟩ VS.toA fun p => ?_
    obtain ⟨⟨j, n⟩, hj1, hj2, hj3, hj4⟩ := p
    dsimp only at hj1 hj2 hj3 hj4 ⊢
    refine dw_seq (dw_seq ?_)
    by_cases hlt : j < a.length
    ·have hdr : a.drop j = a[j] :: a.drop (j + 1) := List.drop_eq_getElem_cons hlt
     rw [hdr, fewMs] at hj1
     by_cases hn : n ≤ most
     ·rw [if_pos hn] at hj1
      have hih := ih a[j] (List.getElem_mem hlt) (d - 1) (by omega) (by omega)
      rw [eTm_eq] at hih
      have hbd := fewM_le h1 1000 a[j] (d - 1) (by omega) (by omega)
      have hbd2 : most * ((1000 : Nat) : Int) ≤ 1000000 := by
       have : most * ((1000 : Nat) : Int) = 1000 * most := by rw [Int.mul_comm]; rfl
       omega
      refine dwk [(49, .v (.bool true)), (53, .v (.bool true))] TF6_ok hnt fun K hK => ?_; refine And.intro (dtrue (by rw [eTms_len]; omega)) ?_; refine And.intro (dtrue hn) ?_; refine hK _ _ ?_; clear hK K; refine dw_cond (t := true) rfl ?_; rw [if_pos rfl]; refine dw_skip ?_; refine dw_seq (dw_block ?_); refine dwk [(61, .q [.sl 2 (eTys a[j].binds) none, .v (.int .i64 a[j].kind), .v (.int .i64 a[j].index), .sl 4 (eTms a[j].args) none]), (65, .v (.int .i64 (d - 1))), (67, .v (.int .i64 (n + fewM most a[j] (d - 1))))] TF6_ok hnt fun K hK => ?_
      refine And.intro (⟨by omega, by rw [eTms_len]; omega⟩) ?_; refine And.intro (VLe.of_eq (by rw [Int.toNat_natCast, eTms_getD a j hlt, eTm_eq])) ?_; refine And.intro (dintE (IntWalk.i64_in _ (by omega))) ?_; refine dcl (hih) ?_; refine And.intro (dintE (IntWalk.i64_in _ (by omega))) ?_; refine hK _ _ ?_; clear hK K; refine dwk [(56, .v (.int .i64 ((j + 1 : Nat) : Int)))] TF6_ok hnt fun K hK => ?_; refine And.intro (dintE (by rw [IntWalk.i64_in _ (by omega)]; omega)) ?_
      refine hK _ _ ?_; clear hK K
      exact ⟨⟨(j + 1, n + fewM most a[j] (d - 1)), hj1, by dsimp only; omega, by dsimp only; omega, hlt⟩, by dsimp only; omega, VS.toA⟩
     ·rw [if_neg hn] at hj1
      rw [← hj1]
      refine dwk [(49, .v (.bool true)), (53, .v (.bool false))] TF6_ok hnt fun K hK => ?_; refine And.intro (dtrue (by rw [eTms_len]; omega)) ?_; refine And.intro (dfalse hn) ?_; refine hK _ _ ?_; clear hK K; refine dw_cond (t := false) rfl ?_; rw [if_neg (by simp)]; refine dw_exit ?_; refine dw_seq ?_; refine dwk [] TF6_ok hnt fun K hK => ?_; refine hK _ _ ?_; clear hK K; refine dw_ret ?_
      exact retv (N := 0) (.inr rfl) rfl (VLe.refl _) trivial
    ·rw [List.drop_eq_nil_of_le (by omega), fewMs] at hj1
     rw [← hj1]
     refine dwk [(49, .v (.bool false))] TF6_ok hnt fun K hK => ?_; refine And.intro (dfalse (by rw [eTms_len]; omega)) ?_; refine hK _ _ ?_; clear hK K; refine dw_cond (t := false) rfl ?_; rw [if_neg (by simp)]; refine dw_exit ?_; refine dw_seq ?_; refine dwk [] TF6_ok hnt fun K hK => ?_; refine hK _ _ ?_; clear hK K; refine dw_ret ?_
     exact retv (N := 0) (.inr rfl) rfl (VLe.refl _) trivial
theorem Few6_d (most : Int) (h1 : 1 ≤ most) (h2 : most ≤ 1000) (t : Tm) (d : Int) (h3 : -1000 ≤ d) (h4 : d ≤ 1000) : PureC Try.prog 35 [.ag (eTm t), .v (.int .i64 most), .v (.int .i64 d)] (.v (.bool (decide (fewM most t d ≤ most)))) := by
 have h := few6_d most h1 h2 t d h3 h4
 rw [eTm_eq] at h ⊢
 refine call_of_dw 0 13 [ResultVar.tmp 6] TF6_ok (by kernel_rfl) Try.func35 rfl Try.ntmps35 rfl (by simp) ?dwords ?dbody
 case dwords => simp [wordsOk, D.ok, D.oks, rnames, eTys_ok, eTms_ok]
 case dbody =>
  intro cx hnt hn0
  refine dw_seq ?_; refine dwk [] TF6_ok hnt fun K hK => ?_; refine hK _ _ ?_; clear hK K; refine dw_seq ?_; refine dwk [] TF6_ok hnt fun K hK => ?_; refine dcl (h) ?_; refine hK _ _ ?_; clear hK K; refine dw_ret ?_
  exact retv (N := 0) (.inr rfl) rfl (VLe.refl _) trivial
def fewB (t : Tm) : Bool := decide (fewM 150 t 70 ≤ 150)
set_option maxHeartbeats 1000000 in
theorem lawFew_d (l : List Tm) (hl : l.length ≤ 1000000) : PureC Try.prog 6 [.sl 4 (eTms l) none] (.v (.bool (l.all fewB))) := by
 refine call_of_dw 0 16 [ResultVar.tmp 2] TF6_ok (by kernel_rfl) Try.func6 rfl Try.ntmps6 rfl (by simp) ?dwords ?dbody
 case dwords => simp [wordsOk, D.ok, D.oks, rnames, eTms_ok]
 case dbody =>
  intro cx hnt hn0
  refine dw_seq ?_; refine dwk [] TF6_ok hnt fun K hK => ?_; refine hK _ _ ?_; clear hK K; refine dw_seq (dw_seq ?_); refine dwk [] TF6_ok hnt fun K hK => ?_; refine hK _ _ ?_; clear hK K; refine dw_block ?_
  refine dw_loop (ι := { j : Nat // ∀ i (h : i < l.length), i < j → fewB l[i] = true }) (fun j => [(.t 0, .sl 4 (eTms l) none), (.t 3, .v (.int .i64 (j.1 : Int)))]) 1 (fun j => l.length - j.1) ⟨0, fun i h1 h2 => by omega⟩ VS.toA fun j => ?_
  obtain ⟨j, hj⟩ := j
  dsimp only
  refine dw_seq (dw_seq ?_)
  by_cases hlt : j < l.length
  ·have hi := Few6_d 150 (by decide) (by decide) l[j] 70 (by decide) (by decide)
   rw [eTm_eq] at hi
   have hq : (eTms l).getD (j : Int).toNat [] = [.sl 2 (eTys l[j].binds) none, .v (.int .i64 l[j].kind), .v (.int .i64 l[j].index), .sl 4 (eTms l[j].args) none] := by rw [Int.toNat_natCast, eTms_getD l j hlt, eTm_eq]
   have hb : (0 : Int) ≤ (j : Int) ∧ (j : Int) < ((eTms l).length : Int) := ⟨by omega, by rw [eTms_len]; omega⟩
   refine dwk [(7, .v (.bool true))] TF6_ok hnt fun K hK => ?_; refine And.intro (dtrue (by rw [eTms_len]; omega)) ?_; refine hK _ _ ?_; clear hK K; refine dw_cond (t := true) rfl ?_; rw [if_pos rfl]; refine dw_skip ?_; refine dw_seq (dw_block (dw_seq ?_))
   cases hf : fewB l[j] with
   | true =>
    have hf2 := hf
    unfold fewB at hf2
    rw [hf2] at hi
    refine dwk [(12, .q [.sl 2 (eTys l[j].binds) none, .v (.int .i64 l[j].kind), .v (.int .i64 l[j].index), .sl 4 (eTms l[j].args) none])] TF6_ok hnt fun K hK => ?_; refine And.intro (hb) ?_; refine And.intro (VLe.of_eq (by rw [hq])) ?_; refine dcl (hi) ?_; refine hK _ _ ?_; clear hK K; refine dw_cond (t := false) rfl ?_; rw [if_neg (by simp)]; refine dw_skip ?_; refine dwk [(9, .v (.int .i64 ((j + 1 : Nat) : Int)))] TF6_ok hnt fun K hK => ?_
    refine And.intro (dintE (by rw [IntWalk.i64_in _ (by omega)]; omega)) ?_; refine hK _ _ ?_; clear hK K
    refine ⟨⟨j + 1, fun i h1 h2 => ?_⟩, by dsimp only; omega, VS.toA⟩
    by_cases he : i = j
    ·subst he; exact hf
    ·exact hj i h1 (by omega)
   | false =>
    have hf2 := hf
    unfold fewB at hf2
    rw [hf2] at hi
    have ha : l.all fewB = false := by rw [List.all_eq_false]; exact ⟨l[j], List.getElem_mem hlt, by rw [hf]; simp⟩
    rw [ha]
    refine dwk [(12, .q [.sl 2 (eTys l[j].binds) none, .v (.int .i64 l[j].kind), .v (.int .i64 l[j].index), .sl 4 (eTms l[j].args) none])] TF6_ok hnt fun K hK => ?_; refine And.intro (hb) ?_; refine And.intro (VLe.of_eq (by rw [hq])) ?_; refine dcl (hi) ?_; refine hK _ _ ?_; clear hK K; refine dw_cond (t := true) rfl ?_; rw [if_pos rfl]; refine dw_seq ?_; refine dwk [] TF6_ok hnt fun K hK => ?_; refine hK _ _ ?_; clear hK K
    refine dw_ret ?_
    exact retv (N := 0) (.inr rfl) rfl (VLe.refl _) trivial
  ·have ha : l.all fewB = true := by
    rw [List.all_eq_true]
    intro t ht
    obtain ⟨i, hi, rfl⟩ := List.getElem_of_mem ht
    exact hj i hi (by omega)
   rw [ha]
   refine dwk [(7, .v (.bool false))] TF6_ok hnt fun K hK => ?_; refine And.intro (dfalse (by rw [eTms_len]; omega)) ?_; refine hK _ _ ?_; clear hK K; refine dw_cond (t := false) rfl ?_; rw [if_neg (by simp)]; refine dw_exit ?_; refine dw_seq ?_; refine dwk [] TF6_ok hnt fun K hK => ?_; refine hK _ _ ?_; clear hK K; refine dw_ret ?_
   exact retv (N := 0) (.inr rfl) rfl (VLe.refl _) trivial
end Go.Proofs.Ytcblpjheoclkeaa

namespace Go.Proofs.Ytcblpjheoclkeaa
open Go.RowKit

theorem fewB1_full {most d : Int} (hm : 1 ≤ most) (hd : d ≤ 1000) : ∀ (l : List Ty) (n r : Int), fewB1 most d l n = some r → r ≤ most → r = n + Ty.sizes l
  | [], n, r, h, _ => by rw [fewB1] at h; cases h; simp [Ty.sizes]
  | t :: l, n, r, h, hr => by
    rw [fewB1] at h
    split at h
    · split at h
      · have := fewB1_full hm hd l _ r h hr
        rw [this, Ty.sizes]; omega
      · cases h
    · cases h; omega
theorem fewMs_full {most : Int} : ∀ (l : List Tm) (d n : Int), (∀ t ∈ l, fewM most t d ≤ most → (t.full : Int) = fewM most t d ∧ (t.depth : Int) ≤ d) → (∀ t ∈ l, 1 ≤ fewM most t d) → 1 ≤ n → fewMs most l d n ≤ most → fewMs most l d n = n + Tm.fulls l ∧ (∀ t ∈ l, (t.depth : Int) ≤ d) ∧ n ≤ most
  | [], d, n, _, _, _, h => by rw [fewMs] at h ⊢; exact ⟨by simp [Tm.fulls], nofun, h⟩
  | t :: l, d, n, h, h1, hn, hf => by
    rw [fewMs] at hf ⊢
    split at hf
    · rename_i hm
      rw [if_pos hm]
      have h2 := h1 t (by simp)
      obtain ⟨h3, h4, h5⟩ := fewMs_full l d _ (fun u hu => h u (by simp [hu])) (fun u hu => h1 u (by simp [hu])) (by omega) hf
      obtain ⟨h6, h7⟩ := h t (by simp) (by omega)
      refine ⟨by rw [h3, Tm.fulls]; omega, fun u hu => ?_, hm⟩
      rcases List.mem_cons.1 hu with rfl | hu
      · exact h7
      · exact h4 u hu
    · rename_i hm; omega
theorem depths_max {d : Int} (hd : 0 ≤ d) : ∀ (l : List Tm), (∀ t ∈ l, (t.depth : Int) ≤ d) → (Tm.depths l : Int) ≤ d
  | [], _ => by simp [Tm.depths]; exact hd
  | t :: l, h => by
    have h1 := h t (by simp)
    have h2 := depths_max hd l fun u hu => h u (by simp [hu])
    simp only [Tm.depths]; omega
theorem fewM_full {most : Int} (hm : 1 ≤ most) : ∀ (k : Nat) (t : Tm) (d : Int), k ≤ 1000 → d ≤ k → fewM most t d ≤ most → (t.full : Int) = fewM most t d ∧ (t.depth : Int) ≤ d
  | 0, .mk bs kd i a, d, hk, hd, h => by rw [fewM, if_pos (by omega)] at h; omega
  | k + 1, .mk bs kd i a, d, hk, hd, h => by
    rw [fewM] at h ⊢
    split at h
    · omega
    · rename_i hp
      rw [if_neg hp]
      cases hb : fewB1 most d bs 1 with
      | none => rw [hb] at h; dsimp only at h; omega
      | some n =>
        rw [hb] at h
        dsimp only at h ⊢
        have hn := fewB1_le hm (by omega) bs 1 (by omega) (by omega) n hb
        obtain ⟨h3, h4, h5⟩ := fewMs_full a (d - 1) n (fun t _ => fewM_full hm k t (d - 1) (by omega) (by omega)) (fun t _ => (fewM_le hm k t (d - 1) (by omega) (by omega)).1) hn.1 h
        have h6 := fewB1_full hm (by omega) bs 1 n hb h5
        have h7 := depths_max (by omega) a h4
        rw [Tm.full_eq, Tm.depth_eq]
        constructor
        · omega
        · omega
theorem fewB_full {t : Tm} (h : fewB t = true) : t.full ≤ 150 ∧ t.depth ≤ 70 := by
  unfold fewB at h
  rw [decide_eq_true_eq] at h
  obtain ⟨h1, h2⟩ := fewM_full (by decide) 1000 t 70 (by decide) (by decide) h
  omega
end Go.Proofs.Ytcblpjheoclkeaa

namespace Go.Proofs.Ytcblpjheoclkeaa
open Go.RowKit
theorem to6_d (t : Tm) (h : t.full ≤ 900000) : PureC Try.prog 9 [.ag (eTm t)] (.ag (eTm t)) := to6D_d t h
end Go.Proofs.Ytcblpjheoclkeaa

namespace Go.Proofs.Ytcblpjheoclkeaa
open Go.RowKit
namespace Pn
theorem walkL_bd : ∀ (l : List (Tm × Tm)) (b b' : Bd), (∀ p ∈ l, PPok p) → walkL l b = some b' → BdOk b → BdOk b' ∧ b'.length ≤ b.length + 250 * l.length
  | [], b, b', _, h, hb => by rw [walkL] at h; cases h; exact ⟨hb, Nat.le_add_right _ _⟩
  | p :: l, b, b', hp, h, hb => by
    rw [walkL] at h
    split at h
    · obtain ⟨ok1, ok2, ok3, ok4, ok5⟩ := hp p (by simp)
      have h1 := walk_bd p.1 p.2 [] b hb (by simp [Ty.sizes]; omega) ok3 ok4 ok5
      have h2 := walk_len p.1 p.2 [] b
      have h3 := walkL_bd l _ b' (fun q hq => hp q (by simp [hq])) h h1
      refine ⟨h3.1, ?_⟩
      have := h3.2
      rw [List.length_cons]; omega
    · cases h
theorem mAll_ok (l : List (Tm × Tm)) (hp : ∀ p ∈ l, PPok p) : (∀ p ∈ (mAll l).1, p.2.full ≤ 80000 ∧ p.2.Fit) ∧ (mAll l).1.length ≤ 250 * l.length := by
  unfold mAll
  split
  · cases hw : walkL l [] with
    | none => exact ⟨nofun, Nat.zero_le _⟩
    | some b =>
      have h := walkL_bd l [] b hp hw bdOk_nil
      refine ⟨fun p hp => ?_, by dsimp only; rw [So.ss_len]; simpa using h.2⟩
      have hm := (So.ss_same b).mem hp
      exact ⟨h.1.full p hm, h.1.fit p hm⟩
  · exact ⟨nofun, Nat.zero_le _⟩
end Pn
theorem eTms_two (t u : Tm) : eTms [t, u] = [[.sl 2 (eTys t.binds) none, .v (.int .i64 t.kind), .v (.int .i64 t.index), .sl 4 (eTms t.args) none], [.sl 2 (eTys u.binds) none, .v (.int .i64 u.kind), .v (.int .i64 u.index), .sl 4 (eTms u.args) none]] := by rw [← eTm_eq, ← eTm_eq]; rfl
end Go.Proofs.Ytcblpjheoclkeaa

namespace Go.Proofs.Ytcblpjheoclkeaa
open Go.RowKit
def TMO_27 : TI := ⟨4, true, [Value.slice none 0 0, Value.int IntKind.i64 0, Value.int IntKind.i64 0, Value.slice none 0 0], [(0, 1, false), (1, 2, true), (3, 1, false)], none, 64, 6, none, false⟩
theorem TMO_27_ok : TypOk Try.prog 27 TMO_27 := ⟨by kernel_rfl, by kernel_rfl, by kernel_rfl, by kernel_rfl, by kernel_rfl⟩
def TMO_107 : TI := ⟨1, false, [Value.slice none 0 0], [], some 106, 24, 5, none, false⟩
theorem TMO_107_ok : TypOk Try.prog 107 TMO_107 := ⟨by kernel_rfl, by kernel_rfl, by kernel_rfl, by kernel_rfl, by kernel_rfl⟩
def TMO_106 : TI := ⟨8, true, [Value.slice none 0 0, Value.int IntKind.i64 0, Value.int IntKind.i64 0, Value.slice none 0 0, Value.slice none 0 0, Value.int IntKind.i64 0, Value.int IntKind.i64 0, Value.slice none 0 0], [(0, 4, true), (4, 4, true)], none, 128, 6, none, false⟩
theorem TMO_106_ok : TypOk Try.prog 106 TMO_106 := ⟨by kernel_rfl, by kernel_rfl, by kernel_rfl, by kernel_rfl, by kernel_rfl⟩
def TMO : List (Nat × TI) := [(27, TMO_27), (107, TMO_107), (106, TMO_106)]
theorem TMO_ok : TabOk Try.prog TMO := ((((TabOk.nil _).cons TMO_106_ok).cons TMO_107_ok).cons TMO_27_ok)

namespace Pn
end Pn
theorem rMatch_d (p t : Tm) (h : PPok (p, t)) : PureC Try.prog 17 [.ag (eTm p), .ag (eTm t)] (.tu [.sl 5 (ePairs (Pn.mAll [(p, t)]).1) none, .v (.int .i64 (Pn.mAll [(p, t)]).2)]) := by
 have hA := rAll_d [(p, t)] (by simp) (fun q hq => by rw [List.mem_singleton] at hq; subst hq; exact h)
 have h1 := ePPs_one (p, t)
 dsimp only at h1
 rw [eTm_eq, eTm_eq]
 refine calldw 0 13 [ResultVar.tmp 4, ResultVar.tmp 5] TMO_ok Try.func17 rfl Try.ntmps17 rfl fun cx hnt hn0 => ?_
 ·skip
  refine dw_seq ?_; refine dwk [] TMO_ok hnt fun K hK => ?_; refine hK _ _ ?_; clear hK K; refine dw_seq ?_; refine dwk [(9, .sl 8 (ePPs [(p, t)]) none)] TMO_ok hnt fun K hK => ?_; refine And.intro ((by rw [h1]; exact VLe.untag _ _ _)) ?_; refine dcl (hA) ?_; refine hK _ _ ?_; clear hK K; refine dw_ret ?_
  exact reta rfl
end Go.Proofs.Ytcblpjheoclkeaa

namespace Go.Proofs.Ytcblpjheoclkeaa
open Go.RowKit
def TFP_27 : TI := ⟨4, true, [Value.slice none 0 0, Value.int IntKind.i64 0, Value.int IntKind.i64 0, Value.slice none 0 0], [(0, 1, false), (1, 2, true), (3, 1, false)], none, 64, 6, none, false⟩
theorem TFP_27_ok : TypOk Try.prog 27 TFP_27 := ⟨by kernel_rfl, by kernel_rfl, by kernel_rfl, by kernel_rfl, by kernel_rfl⟩
def TFP_3 : TI := ⟨1, false, [Value.int IntKind.i64 0], [], none, 8, 2, none, false⟩
theorem TFP_3_ok : TypOk Try.prog 3 TFP_3 := ⟨by kernel_rfl, by kernel_rfl, by kernel_rfl, by kernel_rfl, by kernel_rfl⟩
def TFP_43 : TI := ⟨1, false, [Value.slice none 0 0], [], some 3, 24, 5, none, false⟩
theorem TFP_43_ok : TypOk Try.prog 43 TFP_43 := ⟨by kernel_rfl, by kernel_rfl, by kernel_rfl, by kernel_rfl, by kernel_rfl⟩
def TFP_22 : TI := ⟨1, false, [Value.slice none 0 0], [], some 123, 24, 5, none, false⟩
theorem TFP_22_ok : TypOk Try.prog 22 TFP_22 := ⟨by kernel_rfl, by kernel_rfl, by kernel_rfl, by kernel_rfl, by kernel_rfl⟩
def TFP_113 : TI := ⟨1, false, [Value.slice none 0 0], [], some 43, 24, 5, none, false⟩
theorem TFP_113_ok : TypOk Try.prog 113 TFP_113 := ⟨by kernel_rfl, by kernel_rfl, by kernel_rfl, by kernel_rfl, by kernel_rfl⟩
def TFP_123 : TI := ⟨2, true, [Value.slice none 0 0, Value.int IntKind.i64 0], [(0, 1, false), (1, 1, false)], none, 32, 6, none, false⟩
theorem TFP_123_ok : TypOk Try.prog 123 TFP_123 := ⟨by kernel_rfl, by kernel_rfl, by kernel_rfl, by kernel_rfl, by kernel_rfl⟩
def TFP : List (Nat × TI) := [(27, TFP_27), (3, TFP_3), (43, TFP_43), (22, TFP_22), (113, TFP_113), (123, TFP_123)]
theorem TFP_ok : TabOk Try.prog TFP := (((((((TabOk.nil _).cons TFP_123_ok).cons TFP_113_ok).cons TFP_22_ok).cons TFP_43_ok).cons TFP_3_ok).cons TFP_27_ok)
namespace Pn
def hit (p : Tm) (s : Spot) : Bool := decide ((mAll [(p, nb s.1)]).2 = 0)
def fnd (p t : Tm) : List Int × List (Int × Tm) × Int :=
  if p.binds ≠ [] then ([], [], 1)
  else if may p ≠ 0 then ([], [], may p)
  else match (subs t [] []).find? (hit p) with
    | some s => (s.2.2, (mAll [(p, nb s.1)]).1, 0)
    | none => ([], [], 10)
theorem subss_low {a : List Tm} (h : ∀ u ∈ a, ∀ ar p, ∀ s ∈ subs u ar p, lowB s.1 = true) (ar : List Ty) (p : List Int) (j : Nat) : ∀ s ∈ subss a ar p j, lowB s.1 = true := fun s hs => by
  obtain ⟨i, hi, hs⟩ := subss_mem ar p a j hs
  exact h _ (List.getElem_mem hi) _ _ s hs
theorem subs_low (t : Tm) : lowB t = true → ∀ (ar : List Ty) (p : List Int), ∀ s ∈ subs t ar p, lowB s.1 = true := by
  induction t using Tm.ind with
  | h bs k i a ih =>
    intro hl ar p s hs
    rw [subs_eq] at hs
    rcases List.mem_cons.1 hs with rfl | hs
    · exact hl
    · rw [lowB_eq] at hl
      simp only [Bool.and_eq_true] at hl
      exact subss_low (fun u hu => ih u hu (low_mem hl.2 u hu)) _ _ _ s hs
theorem find_none {α : Type} {f : α → Bool} {l : List α} (h : ∀ i (hi : i < l.length), f l[i] = false) : l.find? f = none := by
  rw [List.find?_eq_none]
  intro x hx
  obtain ⟨i, hi, rfl⟩ := List.getElem_of_mem hx
  rw [h i hi]; simp
theorem find_at {α : Type} {f : α → Bool} {l : List α} {j : Nat} (hj : j < l.length) (h : ∀ i (hi : i < l.length), i < j → f l[i] = false) (hf : f l[j] = true) : l.find? f = some l[j] := by
  rw [List.find?_eq_some_iff_append]
  refine ⟨hf, l.take j, l.drop (j + 1), ?_, fun x hx => ?_⟩
  · rw [← List.drop_eq_getElem_cons hj, List.take_append_drop]
  · obtain ⟨i, hi, rfl⟩ := List.getElem_of_mem hx
    rw [List.length_take] at hi
    rw [List.getElem_take, h i (by omega) (by omega)]; rfl
end Pn
set_option maxHeartbeats 4000000 in
theorem rFind_d (p t : Tm) (h1 : p.full ≤ 250 ∧ p.Fit) (h2 : t.full ≤ 10000 ∧ lowB t = true ∧ t.Fit) :
  PureC Try.prog 19 [.ag (eTm p), .ag (eTm t)] (.tu [.sl 1 (eIs (Pn.fnd p t).1) none, .sl 5 (ePairs (Pn.fnd p t).2.1) none, .v (.int .i64 (Pn.fnd p t).2.2)]) := by
 have hM := rmay12_d p (by omega) h1.2
 have hA := rall_d t [] (by simp; omega)
 unfold Pn.fnd
 by_cases hb : p.binds = []
 ·rw [if_neg (fun h => h hb)]
  have hbl : p.binds.length = 0 := by rw [hb]; rfl
  by_cases hm : Pn.may p = 0
  ·rw [hm] at hM
   rw [if_neg (fun h => h hm)]
   obtain ⟨S, hS⟩ : ∃ S, Pn.subs t [] [] = S := ⟨_, rfl⟩
   have hL : Pn.pth t [] = S.map (·.2.2) := by rw [← hS, Pn.subs_pth]
   have hSl : S.length ≤ 10000 := by have := Pn.subs_len t [] []; rw [hS] at this; have := Tm.size_le_full t; omega
   rw [hL] at hA
   obtain ⟨L, hLe⟩ : ∃ L, S.map (·.2.2) = L := ⟨_, rfl⟩
   have hLl : L.length = S.length := by rw [← hLe, List.length_map]
   have hLg : ∀ j (h : j < S.length), L[j]'(by omega) = S[j].2.2 := fun j h => by subst hLe; rw [List.getElem_map]
   rw [hLe] at hA
   have hat : ∀ s ∈ S, PureC Try.prog 58 [.ag (eTm t), .sl 1 (eIs s.2.2) none] (.tu [.ag (eTm s.1), .sl 2 (eTys s.2.1) none, .v (.bool true)]) := fun s hs => by
    rw [← hS] at hs
    have r1 := Pn.subs_rng t [] [] s hs
    have hc := rat_d s.2.2 t (by omega) (by have := r1.2.1; simp at this; omega) (fun x hx => by
     rcases r1.1 x hx with h | h
     ·cases h
     ·omega)
    rw [Pn.subs_at t [] [] t t.binds rfl rfl s hs] at hc
    exact hc
   have hma : ∀ s ∈ S, PureC Try.prog 17 [.ag (eTm p), .ag (eTm (Pn.nb s.1))] (.tu [.sl 5 (ePairs (Pn.mAll [(p, Pn.nb s.1)]).1) none, .v (.int .i64 (Pn.mAll [(p, Pn.nb s.1)]).2)]) := fun s hs => by
    rw [← hS] at hs
    have r2 := subs_part t [] [] h2.2.2 s hs
    have r3 := Pn.subs_low t h2.2.1 [] [] s hs
    refine rMatch_d p _ ⟨h1.1, h1.2, ?_, Pn.nb_low r3, Pn.nb_fit r2.2⟩
    have : (Pn.nb s.1).full ≤ s.1.full := by obtain ⟨⟨b, k, i, a⟩, _⟩ := s; show (Tm.mk [] k i a).full ≤ _; rw [Tm.full_eq, Tm.full_eq]; simp [Ty.sizes]
    have := r2.1
    dsimp only; omega
   rw [hS]
   clear hS
   have hA : PureC Try.prog 57 [.ag (eTm t), .v (.slice none 0 0)] (.sl 1 (ePaths L) none) := CallC.vle hA (.cons (VLe.refl _) (.cons (VLe.nil _) .nil)) (VLe.refl _)
   rw [eTm_eq] at hM
   rw [eTm_eq t] at hA hat
   rw [eTm_eq p] at hma
   rw [eTm_eq p, eTm_eq t]
   refine calldw 0 56 [ResultVar.tmp 4, ResultVar.tmp 5, ResultVar.tmp 6] TFP_ok Try.func19 rfl Try.ntmps19 rfl fun cx hnt hn0 => ?_
   ·skip
    refine dw_seq ?_; refine dwk [] TFP_ok hnt fun K hK => ?_; refine hK _ _ ?_; clear hK K; refine dw_seq ?_; refine dw_seq ?_; refine dwk [(17, .v (.int .i64 (↑p.binds.length))), (18, .v (.bool false))] TFP_ok hnt fun K hK => ?_; refine And.intro (dintE (by rw [eTys_len])) ?_; refine And.intro auF ?_; refine hK _ _ ?_; clear hK K; refine dw_cond (t := false) rfl ?_; rw [if_neg (by simp)]; refine dw_skip ?_
    refine dw_seq ?_; refine dwk [] TFP_ok hnt fun K hK => ?_; refine dcl (hM) ?_; refine hK _ _ ?_; clear hK K; refine dw_seq ?_; refine dw_seq ?_; refine dwk [(22, .v (.bool false))] TFP_ok hnt fun K hK => ?_; refine And.intro (bneF rfl) ?_; refine hK _ _ ?_; clear hK K; refine dw_cond (t := false) rfl ?_; rw [if_neg (by simp)]; refine dw_skip ?_; refine dw_seq ?_; refine dwk [] TFP_ok hnt fun K hK => ?_
    refine dcl (hA) ?_; refine hK _ _ ?_; clear hK K; refine dw_seq ?_; refine dw_seq ?_; refine dwk [] TFP_ok hnt fun K hK => ?_; refine hK _ _ ?_; clear hK K; refine dw_block ?_
    refine dw_loop (ι := { j : Nat // ∀ i (h : i < S.length), i < j → Pn.hit p S[i] = false }) (fun j => [(.t 2, .p 0 0), (.t 3, .p 1 0), (.t 8, .sl 1 (ePaths L) none), (.t 9, .v (.int .i64 ↑j.1)), (.c 0 0, .sl 2 (eTys p.binds) none), (.c 0 1, .v (.int .i64 p.kind)), (.c 0 2, .v (.int .i64 p.index)), (.c 0 3, .sl 4 (eTms p.args) none), (.c 1 0, .sl 2 (eTys t.binds) none), (.c 1 1, .v (.int .i64 t.kind)), (.c 1 2, .v (.int .i64 t.index)), (.c 1 3, .sl 4 (eTms t.args) none)]) 2 (fun j => S.length - j.1) (⟨0, fun i h1 h2 => by omega⟩) (VS.toA) fun j => ?_
    obtain ⟨j, hj⟩ := j
    dsimp only
    by_cases hlt : j < S.length
    ·obtain ⟨s, hs⟩ : ∃ s, S[j] = s := ⟨_, rfl⟩
     have hmem : s ∈ S := hs ▸ List.getElem_mem hlt
     have c1 := hat s hmem
     have c2 := hma s hmem
     have hlp : (ePaths L).getD (↑j : Int).toNat [] = [.sl 1 (eIs s.2.2) none] := by rw [Int.toNat_natCast, ePaths_getD L j (by omega), hLg j hlt, hs]
     have hfi := fun h => Pn.find_at (f := Pn.hit p) hlt hj h
     have enb : eTm (Pn.nb s.1) = [.sl 2 [] none, .v (.int .i64 s.1.kind), .v (.int .i64 s.1.index), .sl 4 (eTms s.1.args) none] := by rw [eTm_eq]; rfl
     rw [enb] at c2
     rw [eTm_eq] at c1
     cases hh : Pn.hit p s with
     | true =>
      rw [hs] at hfi
      rw [hfi hh]
      dsimp only
      have hz : (Pn.mAll [(p, Pn.nb s.1)]).2 = 0 := of_decide_eq_true hh
      generalize Pn.mAll [(p, Pn.nb s.1)] = R at c2 hz ⊢
      obtain ⟨l, e⟩ := R
      dsimp only at c2 hz ⊢
      subst hz
      refine dw_seq ?_; refine dw_seq ?_; refine dwk [(28, .v (.int .i64 (↑L.length))), (29, .v (.bool true))] TFP_ok hnt fun K hK => ?_; refine And.intro (dintE (by rw [ePaths_len])) ?_; refine And.intro auT ?_; refine hK _ _ ?_; clear hK K; refine dw_cond (t := true) rfl ?_; rw [if_pos rfl]; refine dw_skip ?_; refine dw_seq ?_; refine dw_block ?_; refine dw_seq ?_; refine dwkD [(36, .q [.sl 1 (eIs s.2.2) none])] TFP_ok hnt fun K hK => ?_
      refine And.intro (⟨by omega, by rw [ePaths_len]; omega⟩) ?_; refine And.intro (VLe.of_eq (by rw [hlp])) ?_; refine dcl (c1) ?_; refine hK _ _ (by kernel_rfl) ?_; clear hK K; refine dw_seq ?_; refine dwk [] TFP_ok hnt fun K hK => ?_; refine hK _ _ ?_; clear hK K; refine dw_seq ?_; refine dwk [(45, .ag [.sl 2 [] none, .v (.int .i64 s.1.kind), .v (.int .i64 s.1.index), .sl 4 (eTms s.1.args) none])] TFP_ok hnt fun K hK => ?_
      refine And.intro (auV) ?_; refine dcl (c2) ?_; refine hK _ _ ?_; clear hK K; refine dw_seq ?_; refine dwk [(50, .v (.bool true))] TFP_ok hnt fun K hK => ?_; refine And.intro (beqT rfl) ?_; refine hK _ _ ?_; clear hK K; refine dw_cond (t := true) rfl ?_; rw [if_pos rfl]; refine dw_seq ?_; refine dwk [(53, .q [.sl 1 (eIs s.2.2) none])] TFP_ok hnt fun K hK => ?_; refine And.intro (⟨by omega, by rw [ePaths_len]; omega⟩) ?_
      refine And.intro (VLe.of_eq (by rw [hlp])) ?_; refine hK _ _ ?_; clear hK K; refine dw_ret ?_
      exact reta rfl
     | false =>
      have hz : ¬ (Pn.mAll [(p, Pn.nb s.1)]).2 = 0 := of_decide_eq_false hh
      generalize Pn.mAll [(p, Pn.nb s.1)] = R at c2 hz
      obtain ⟨l, e⟩ := R
      dsimp only at c2 hz
      refine dw_seq ?_; refine dw_seq ?_; refine dwk [(28, .v (.int .i64 (↑L.length))), (29, .v (.bool true))] TFP_ok hnt fun K hK => ?_; refine And.intro (dintE (by rw [ePaths_len])) ?_; refine And.intro auT ?_; refine hK _ _ ?_; clear hK K; refine dw_cond (t := true) rfl ?_; rw [if_pos rfl]; refine dw_skip ?_; refine dw_seq ?_; refine dw_block ?_; refine dw_seq ?_; refine dwkD [(36, .q [.sl 1 (eIs s.2.2) none])] TFP_ok hnt fun K hK => ?_
      refine And.intro (⟨by omega, by rw [ePaths_len]; omega⟩) ?_; refine And.intro (VLe.of_eq (by rw [hlp])) ?_; refine dcl (c1) ?_; refine hK _ _ (by kernel_rfl) ?_; clear hK K; refine dw_seq ?_; refine dwk [] TFP_ok hnt fun K hK => ?_; refine hK _ _ ?_; clear hK K; refine dw_seq ?_; refine dwk [(45, .ag [.sl 2 [] none, .v (.int .i64 s.1.kind), .v (.int .i64 s.1.index), .sl 4 (eTms s.1.args) none])] TFP_ok hnt fun K hK => ?_
      refine And.intro (auV) ?_; refine dcl (c2) ?_; refine hK _ _ ?_; clear hK K; refine dw_seq ?_; refine dwk [(50, .v (.bool false))] TFP_ok hnt fun K hK => ?_; refine And.intro (beqF hz) ?_; refine hK _ _ ?_; clear hK K; refine dw_cond (t := false) rfl ?_; rw [if_neg (by simp)]; refine dw_skip ?_; refine dwk [(31, .v (.int .i64 (↑(j + 1))))] TFP_ok hnt fun K hK => ?_; refine And.intro auI ?_; refine hK _ _ ?_; clear hK K
      refine ⟨⟨j + 1, fun i h1 h2 => if e : i = j then by subst e; rw [hs]; exact hh else hj i h1 (by omega)⟩, by first | omega | (dsimp only; omega), VS.toA⟩
    ·rw [Pn.find_none (fun i hi => hj i hi (by omega))]
     dsimp only
     rw [show eIs [] = [] from rfl, show ePairs [] = [] from rfl]
     refine dw_seq ?_; refine dw_seq ?_; refine dwk [(28, .v (.int .i64 (↑L.length))), (29, .v (.bool false))] TFP_ok hnt fun K hK => ?_; refine And.intro (dintE (by rw [ePaths_len])) ?_; refine And.intro auF ?_; refine hK _ _ ?_; clear hK K; refine dw_cond (t := false) rfl ?_; rw [if_neg (by simp)]; refine dw_exit ?_; refine dw_seq ?_; refine dwk [] TFP_ok hnt fun K hK => ?_; refine hK _ _ ?_; clear hK K
     refine dw_ret ?_
     exact reta rfl
  ·rw [if_pos hm]
   dsimp only
   rw [show eIs [] = [] from rfl, show ePairs [] = [] from rfl]
   generalize Pn.may p = e at hM hm ⊢
   rw [eTm_eq] at hM ⊢
   rw [eTm_eq t]
   refine calldw 0 56 [ResultVar.tmp 4, ResultVar.tmp 5, ResultVar.tmp 6] TFP_ok Try.func19 rfl Try.ntmps19 rfl fun cx hnt hn0 => ?_
   ·skip
    refine dw_seq ?_; refine dwk [] TFP_ok hnt fun K hK => ?_; refine hK _ _ ?_; clear hK K; refine dw_seq ?_; refine dw_seq ?_; refine dwk [(17, .v (.int .i64 (↑p.binds.length))), (18, .v (.bool false))] TFP_ok hnt fun K hK => ?_; refine And.intro (dintE (by rw [eTys_len])) ?_; refine And.intro auF ?_; refine hK _ _ ?_; clear hK K; refine dw_cond (t := false) rfl ?_; rw [if_neg (by simp)]; refine dw_skip ?_
    refine dw_seq ?_; refine dwk [] TFP_ok hnt fun K hK => ?_; refine dcl (hM) ?_; refine hK _ _ ?_; clear hK K; refine dw_seq ?_; refine dw_seq ?_; refine dwk [(22, .v (.bool true))] TFP_ok hnt fun K hK => ?_; refine And.intro (bneT hm) ?_; refine hK _ _ ?_; clear hK K; refine dw_cond (t := true) rfl ?_; rw [if_pos rfl]; refine dw_seq ?_; refine dwk [] TFP_ok hnt fun K hK => ?_; refine hK _ _ ?_; clear hK K
    refine dw_ret ?_
    exact reta rfl
 ·rw [if_pos hb]
  have hbl : 0 < p.binds.length := by
   cases h : p.binds with
   | nil => exact absurd h hb
   | cons a l => simp
  dsimp only
  rw [show eIs [] = [] from rfl, show ePairs [] = [] from rfl]
  rw [eTm_eq p, eTm_eq t]
  refine calldw 0 56 [ResultVar.tmp 4, ResultVar.tmp 5, ResultVar.tmp 6] TFP_ok Try.func19 rfl Try.ntmps19 rfl fun cx hnt hn0 => ?_
  ·skip
   refine dw_seq ?_; refine dwk [] TFP_ok hnt fun K hK => ?_; refine hK _ _ ?_; clear hK K; refine dw_seq ?_; refine dw_seq ?_; refine dwk [(17, .v (.int .i64 (↑p.binds.length))), (18, .v (.bool true))] TFP_ok hnt fun K hK => ?_; refine And.intro (dintE (by rw [eTys_len])) ?_; refine And.intro auT ?_; refine hK _ _ ?_; clear hK K; refine dw_cond (t := true) rfl ?_; rw [if_pos rfl]; refine dw_seq ?_; refine dwk [] TFP_ok hnt fun K hK => ?_
   refine hK _ _ ?_; clear hK K; refine dw_ret ?_
   exact reta rfl
end Go.Proofs.Ytcblpjheoclkeaa

namespace Go.Proofs.Ytcblpjheoclkeaa
open Go.RowKit

def ownPostX {α : Type} (B : Nat) (Kp Kx : World → World → Prop) (I : List α → World → Prop) (Ix : Code → List α → World → Prop) (xs : List α) (W : World) : Exit → Act → World → Prop
  | .normal, _, W' => KeepsFrom B W W' ∧ Kp W W' ∧ I xs W'
  | .ret, _, W' => KeepsFrom B W W' ∧ Kx W W' ∧ Ix .ret xs W'
  | .exit id, _, W' => KeepsFrom B W W' ∧ Kx W W' ∧ Ix (.exit id) xs W'
  | .goto t, _, W' => KeepsFrom B W W' ∧ Kx W W' ∧ Ix (.goto t) xs W'
  | .panic _, _, _ => False
  | .outgrown, _, _ => False

def SeqSoftR {α : Type} (Ok : Obj → Prop) (F : Fence) (n : Nat) (P : Program) (g : Nat) (lb : Array Value) (encs : α → Array Value) (R : α → World → Prop) (Kp Kx : World → World → Prop) (S Sp : List α → Prop) (N : Nat) (w : World) : Prop :=
  ∀ (l : Nat) (J Jx : List α → World → Prop) (W : World), Below w.heap.size w W → Mild Ok W.heap.size J → Mild Ok W.heap.size Jx →
    (∀ pre x V, J pre V → R x V → pre.length < N → YieldAt F (n - 1) P l (encs x) V fun e V' => (e = .returned (.bool true) ∧ J (pre ++ [x]) V' ∧ Kp V V') ∨ (e = .returned (.bool false) ∧ Jx (pre ++ [x]) V' ∧ Kx V V')) →
    J [] W → CallsIn F n P g (#[.func (.yield l) #[] #[]] ++ lb) W fun e W' => (∃ v, e = .returned v) ∧ ((∃ xs, S xs ∧ J xs W') ∨ (∃ pre, Sp pre ∧ Jx pre W'))

theorem range_softR {Ok : Obj → Prop} (hOk : ∀ o : Obj, o.isCells = false → Ok o) {F : Fence} {n : Nat} {P : Program} {α : Type} {g : Operand} {ps : Array Tmp} {assign body : Code} {Q : Exit → Act → World → Prop} {a : Act} {w : World}
    (hro : F.round = none) (hn : 1 ≤ n) {gf : Nat} {lb : Array Value} (hg : a.eval g = .func (.func gf) #[] lb) (hF : F.fn gf) (eg : ∀ args w, (callFunc gf args).run P w = .ok (.enter gf args) w)
    {encs : α → Array Value} {R : α → World → Prop} {Kp Kx : World → World → Prop} {S Sp : List α → Prop} {N : Nat} {w0 : World} (hseq : SeqSoftR Ok F (n - 1) P gf lb encs R Kp Kx S Sp N w0)
    (hKt : ∀ {X Y Z : World}, Kp X Y → Kp Y Z → Kp X Z) (hKx : ∀ {X Y Z : World}, Kp X Y → Kx Y Z → Kx X Z) (hKy : ∀ {X Y Z : World}, Kx X Y → Kp Y Z → Kx X Z) (hKb : ∀ (W : World) (l : Nat) (o o' : Obj), w.heap.size ≤ l → W.heap[l]? = some o → o.isCells = false → o.isWalk = false → Kp W (W.putObj l o')) (hw0 : Below w0.heap.size w0 w) (hps : ∀ x, (encs x).size = ps.size)
    (I : List α → World → Prop) (Ix : Code → List α → World → Prop) (hI : Mild Ok w.heap.size I) (hIx : ∀ c, Mild Ok w.heap.size (Ix c)) (h0 : I [] w) (Ra : α → Act → World → Prop) (hRa : ∀ x a' W l (o o' : Obj), w.heap.size ≤ l → W.heap[l]? = some o → o.isCells = false → Ra x a' W → Ra x a' (W.putObj l o'))
    (hassign : ∀ (l : Nat) (pre : List α) (x : α) (W : World) (K : Act → World → Prop), I pre W → R x W → (∀ a' W', KeepsFrom w.heap.size W W' → Kp W W' → I pre W' → Ra x a' W' → K a' W') →
      assign.wpIn (F.inRound l) (n - 1 - 1) P (Exit.then K (fun _ _ _ => False)) { tmps := (ps.zip (encs x)).foldl (fun t (p, v) => t.setIfInBounds p v) a.tmps, defers := [] } W)
    (hbody : ∀ (l : Nat) (pre : List α) (x : α) (a' : Act) (W : World), I pre W → pre.length < N → Ra x a' W → body.wpIn (F.inRound l) (n - 1 - 1) P (ownPostX w.heap.size Kp Kx I Ix (pre ++ [x]) W) a' W)
    (hdone : ∀ (D : Nat) (xs : List α) (W : World), w.heap.size ≤ D → S xs → I xs W → W.heap[D]? = some (.deferred (some [])) → Q .normal { a with defers := { target := .collected D, args := #[] } :: a.defers } W)
    (hstop : ∀ (D : Nat) (c : Code) (pre : List α) (W : World), w.heap.size ≤ D → Sp pre → Ix c pre W → W.heap[D]? = some (.deferred (some [])) → c.wpIn F n P Q { a with defers := { target := .collected D, args := #[] } :: a.defers } W) :
    (Code.rangeFunc g ps assign body).wpIn F n P Q a w := by
  refine wpIn_rangeFunc fun fn hfn => ?_
  rw [hro]
  let L : LoopState → Option Code → Obj := fun st pe => .loop { state := st, pending := pe, fn, tmps := a.tmps, params := ps, assign, body, defers := w.heap.size }
  let D : Obj := .deferred (some [])
  obtain ⟨W1, hW1⟩ : ∃ W1, (w.alloc D).alloc (L .ready none) = W1 := ⟨_, rfl⟩
  have hz : W1.heap.size = w.heap.size + 2 := by rw [← hW1]; simp
  have hL : W1.heap[w.heap.size + 1]? = some (L .ready none) := by rw [← hW1]; have h := World.alloc_heap_new (w.alloc D) (L .ready none); rwa [World.size_alloc] at h
  have hD : W1.heap[w.heap.size]? = some D := by rw [← hW1]; exact (Below.heap_alloc _ _ _ (by simp)).trans (World.alloc_heap_new w D)
  refine ⟨w.heap.size + 1, [{ target := .collected w.heap.size, args := #[] }], W1, { target := .fn (.func gf) lb, args := #[.func (.yield (w.heap.size + 1)) #[] #[]] }, W1, gf,
    #[.func (.yield (w.heap.size + 1)) #[] #[]] ++ lb, W1, by rw [← hW1]; exact run_enterLoop_outer _ _ _ _ _, by simp only [resolve, hg]; simp [go_sem], ?_, by simp [invoke, go_sem, eg], fun _ => hn, ?_⟩
  · intro f' hf'; simp [Target.leads] at hf'; subst hf'; exact hF
  have up : ∀ {β : Type} {J : β → World → Prop}, Mild Ok w.heap.size J → Mild Ok W1.heap.size J := fun h => h.up (by omega)
  have m1 : ∀ (o : Obj), Mild Ok W1.heap.size (fun (_ : List α) W => W.heap[w.heap.size + 1]? = some o) := fun o => mild_block (by omega)
  have m0 : Mild Ok W1.heap.size (fun (_ : List α) W => W.heap[w.heap.size]? = some D) := mild_block (by omega)
  refine (hseq (w.heap.size + 1)
    (fun pre W => I pre W ∧ W.heap[w.heap.size + 1]? = some (L .ready none) ∧ W.heap[w.heap.size]? = some D)
    (fun pre W => ∃ c, Ix c pre W ∧ W.heap[w.heap.size + 1]? = some (L .done (some c)) ∧ W.heap[w.heap.size]? = some D) W1
    (by rw [← hW1]; exact hw0.trans ((((Below.refl _ w).alloc (Nat.le_refl _) _).alloc (by simp) _).mono hw0.size))
    ((up hI).and ((m1 _).and m0)) (fun s A B row ⟨c, h1, h2, h3⟩ hgr hr => ⟨c, up (hIx c) s A B row h1 hgr hr, m1 _ s A B row h2 hgr hr, m0 s A B row h3 hgr hr⟩)
    ?_ ⟨by rw [← hW1]; exact hI.alloc (hI.alloc h0 _) _, hL, hD⟩).mono ?_
  · -- a round
    rintro pre x V0 ⟨hi0, hl0, hd0⟩ hR0 hlen
    refine ⟨fn, _, assign, body, run_yield (P := P) (args := encs x) hl0 (hps x), roundIn_of_wpIn hfn (hassign _ pre x V0 _ hi0 hR0 fun a' V hkf hkp0 hi hra => ?_)⟩
    have hl := hkf.same _ _ (by omega) hl0 rfl
    have hd := hkf.same _ _ (Nat.le_refl _) hd0 rfl
    have hlt : w.heap.size + 1 < V.heap.size := (Array.getElem?_eq_some_iff.1 hl).1
    refine ⟨_, run_beginRound hl rfl, ?_⟩
    obtain ⟨V2, hV2⟩ : ∃ V2, V.putObj (w.heap.size + 1) (L .busy none) = V2 := ⟨_, rfl⟩
    have hl2 : V2.heap[w.heap.size + 1]? = some (L .busy none) := by rw [← hV2]; exact World.putObj_heap_same hlt
    have hd2 : V2.heap[w.heap.size]? = some D := by rw [← hV2]; exact (World.putObj_heap_other (by omega)).trans hd
    have hk2 : Kp V0 V2 := by rw [← hV2]; exact hKt hkp0 (hKb _ _ _ _ (by omega) hl rfl rfl)
    have hi2 : I pre V2 := by rw [← hV2]; exact hI.put hOk hi _ hl rfl (by omega)
    have hra2 : Ra x a' V2 := by rw [← hV2]; exact hRa _ _ _ _ _ _ (by omega) hl rfl hra
    show Code.wpIn _ _ _ _ _ _ (V.putObj (w.heap.size + 1) (L .busy none))
    rw [hV2]
    clear hV2 hl hd hi hlt
    refine wpIn_mono (hbody _ pre x a' V2 hi2 hlen hra2) ?_
    have fin : ∀ (jump : Option Code) (V3 : World), KeepsFrom w.heap.size V2 V3 → V3.heap[w.heap.size + 1]? = some (L .busy none) ∧ ∃ V4, V4 = V3.putObj (w.heap.size + 1) (L (if jump.isNone then .ready else .done) jump) ∧
        (Instr.endRound (w.heap.size + 1) jump).run P V3 = .ok (.bool jump.isNone) V4 ∧ V4.heap[w.heap.size + 1]? = some (L (if jump.isNone then .ready else .done) jump) ∧ V4.heap[w.heap.size]? = some D := fun jump V3 hk => by
      have h1 := hk.same _ _ (by omega) hl2 rfl
      exact ⟨h1, _, rfl, run_endRound (P := P) jump h1, World.putObj_heap_same (Array.getElem?_eq_some_iff.1 h1).1, (World.putObj_heap_other (by omega)).trans (hk.same _ _ (Nat.le_refl _) hd2 rfl)⟩
    have out : ∀ (c : Code) (V3 : World), KeepsFrom w.heap.size V2 V3 → Kx V2 V3 → Ix c (pre ++ [x]) V3 → ∃ r V4, (Instr.endRound (w.heap.size + 1) (some c)).run P V3 = .ok r V4 ∧ (Ending.returned r = .returned (.bool false) ∧ (∃ c, Ix c (pre ++ [x]) V4 ∧ V4.heap[w.heap.size + 1]? = some (L .done (some c)) ∧ V4.heap[w.heap.size]? = some D) ∧ Kx V0 V4) := fun c V3 hk hkx hi => by
      obtain ⟨h3, V4, rfl, hr, h4, h5⟩ := fin (some c) V3 hk
      exact ⟨_, _, hr, rfl, ⟨c, (hIx c).put hOk hi _ h3 rfl (by omega), h4, h5⟩, hKy (hKx hk2 hkx) (hKb _ _ _ _ (by omega) h3 rfl rfl)⟩
    rintro e a3 V3 hp
    cases e with
    | normal =>
      obtain ⟨hk, hkp, hi⟩ := hp
      obtain ⟨h3, V4, rfl, hr, h4, h5⟩ := fin none V3 hk
      exact ⟨_, _, hr, .inl ⟨rfl, ⟨hI.put hOk hi _ h3 rfl (by omega), h4, h5⟩, hKt (hKt hk2 hkp) (hKb _ _ _ _ (by omega) h3 rfl rfl)⟩⟩
    | ret => obtain ⟨r, V4, hr, h⟩ := out .ret V3 hp.1 hp.2.1 hp.2.2; exact ⟨r, V4, hr, .inr h⟩
    | exit id => obtain ⟨r, V4, hr, h⟩ := out (.exit id) V3 hp.1 hp.2.1 hp.2.2; exact ⟨r, V4, hr, .inr h⟩
    | goto t => obtain ⟨r, V4, hr, h⟩ := out (.goto t) V3 hp.1 hp.2.1 hp.2.2; exact ⟨r, V4, hr, .inr h⟩
    | panic ch => exact hp.elim
    | outgrown => exact hp.elim
  · -- behind the iterator
    rintro e W2 ⟨⟨v, rfl⟩, ⟨xs, hS, hi, hl, hd⟩ | ⟨pre, hSp, c, hi, hl, hd⟩⟩
    · exact ⟨none, _, run_endLoop (P := P) hl (by simp), hdone _ xs _ (Nat.le_refl _) hS (hI.put hOk hi _ hl rfl (by omega)) ((World.putObj_heap_other (by omega)).trans hd)⟩
    · exact ⟨some c, _, run_endLoop (P := P) hl (by simp), hstop _ c pre _ (Nat.le_refl _) hSp ((hIx c).put hOk hi _ hl rfl (by omega)) ((World.putObj_heap_other (by omega)).trans hd)⟩
end Go.Proofs.Ytcblpjheoclkeaa

namespace Go.Proofs.Ytcblpjheoclkeaa

section
variable {P : Program} {ops : Array Oper} {Q : Exit → Act → World → Prop} {md : Region.Mode} {S : World → Prop}

theorem wpN_pick (rs : List Nat) {n : Nat} {listed : Array Bool} {a : Act} {w : World} (hr : Region.ready md ops listed = rs) (hne : rs ≠ [])
    (h : ∀ i ∈ rs, wpOp P ops Q i (fun a' w' => (asksS ops i = true → S w') ∧ wpN P md ops Q S n (listed.setIfInBounds i true) a' w') a w) : wpN P md ops Q S (n + 1) listed a w :=
  ⟨fun h0 => absurd (hr.symm.trans h0) hne, fun i hi => wpOp_mono (fun _ _ hh => ⟨fun ha _ => hh.1 ha, hh.2⟩) (h i (by rw [hr] at hi; exact hi))⟩

theorem pick_two {p : Nat → Prop} {i j : Nat} (hi : p i) (hj : p j) : ∀ x ∈ [i, j], p x := by
  intro x hx
  simp only [List.mem_cons, List.not_mem_nil, or_false] at hx
  rcases hx with rfl | rfl
  · exact hi
  · exact hj
end
end Go.Proofs.Ytcblpjheoclkeaa

namespace Go.Proofs.Ytcblpjheoclkeaa

def WideF (F : Fence) : Prop := F = Fence.wide ∨ ∃ l, F = Fence.wide.inRound l
theorem wide_self : WideF Fence.wide := .inl rfl
theorem wide_round (l : Nat) : WideF (Fence.wide.inRound l) := .inr ⟨l, rfl⟩

def OnlyN (Q : Exit → Act → World → Prop) : Exit → Act → World → Prop
  | .normal, a, w => Q .normal a w
  | _, _, _ => False
theorem OnlyN.normal {Q : Exit → Act → World → Prop} {a : Act} {w : World} (h : Q .normal a w) : OnlyN Q .normal a w := h

theorem calls_wideF {F : Fence} (hw : WideF F) (n : Nat) {P : Program} {f : FuncId} {args : Array Value} {w : World} {R : Ending → World → Prop} (h : Calls P f args w R) : CallsIn F n P f args w R := by
  rcases hw with rfl | ⟨l, rfl⟩
  · exact callsIn_wide.2 h
  · exact CallsIn.inRound l (callsIn_wide.2 h)
theorem rows_wideF {F : Fence} (hw : WideF F) (n : Nat) {P : Program} {row : String} {args : Array Value} {w : World} {R : Value → World → Prop} (h : Rows P row args w R) : RowsIn F n P row args w R := by
  rcases hw with rfl | ⟨l, rfl⟩
  · exact fun c cs _ => let ⟨v, w', r, s⟩ := h c cs; ⟨v, w', r, stepsIn_wide.2 s⟩
  · exact fun c cs _ => let ⟨v, w', r, s⟩ := h c cs; ⟨v, w', r, stepsIn_wide.2 s⟩
theorem oper_in {F : Fence} (hw : WideF F) {n : Nat} {P : Program} {o : Oper} (ho : ∀ c, o.op ≠ .defer c) {a : Act} {w : World} {K : Act → World → Prop} {Q : Exit → Act → World → Prop} (h : o.wp P a w K (OnlyN Q)) : o.wpIn F n P a w K Q := by
  have hfn : ∀ f, F.fn f := by rcases hw with rfl | ⟨l, rfl⟩ <;> intro f <;> trivial
  have hd : F.depth = none := by rcases hw with rfl | ⟨l, rfl⟩ <;> rfl
  refine ⟨fun f _ => hfn f, ?_⟩
  rw [Oper.semAt_eq _ _ _ ho]
  unfold Oper.wp at h
  generalize (execOp a.eval o).run P w = r at *
  have hdd : F.depth.isSome = true → 1 ≤ n := fun e => by rw [hd] at e; cases e
  cases r with
  | ok x w' =>
    cases x <;> simp only [Oper.upon, Oper.uponIn] at h ⊢ <;>
      first
        | exact h
        | exact ⟨hdd, (calls_wideF hw _ h).mono (fun e w'' he => by cases e <;> first | exact he | exact he.elim | (obtain ⟨_, _, he⟩ := he; exact he.elim))⟩
        | exact ⟨hdd, rows_wideF hw _ h⟩
  | halt x w' => cases x <;> simp only [Oper.upon, Oper.uponIn] at h ⊢ <;> first | exact h.elim | exact h

def noDefer (ops : Array Oper) : Bool := ops.toList.all fun o => match o.op with | .defer _ => false | _ => true
theorem noDefer_spec {ops : Array Oper} (h : noDefer ops = true) {i : Nat} {o : Oper} (ho : ops[i]? = some o) (c : Call) : o.op ≠ .defer c := by
  intro e
  have hm : o ∈ ops.toList := by
    rw [← Array.getElem?_toList] at ho
    exact List.mem_of_getElem? ho
  have := List.all_eq_true.1 h o hm
  simp [e] at this

theorem wpOp_in {F : Fence} (hw : WideF F) {n : Nat} {P : Program} {ops : Array Oper} (hnd : noDefer ops = true) {Q : Exit → Act → World → Prop} {i : Nat} {K : Act → World → Prop} {a : Act} {w : World} (h : wpOp P ops (OnlyN Q) i K a w) : wpOpIn F n P ops Q i K a w := by
  have hfn : ∀ f, F.fn f := by rcases hw with rfl | ⟨l, rfl⟩ <;> intro f <;> trivial
  unfold wpOp at h
  unfold wpOpIn
  split
  · rename_i ho; simpa [ho] using h
  · rename_i o ho
    simp only [ho] at h
    by_cases hwant : Region.wanted o (yielded ops a.tmps) = true
    · rw [if_pos hwant] at h ⊢
      rcases h with h | ⟨_, _, _, h⟩
      · exact oper_in hw (noDefer_spec hnd ho) h
      · exact h.elim
    · rw [if_neg hwant] at h ⊢
      exact ⟨fun f _ => hfn f, h⟩

theorem wpAny_in {F : Fence} (hw : WideF F) {n : Nat} {P : Program} {md : Region.Mode} {ops : Array Oper} (hnd : noDefer ops = true) {Q : Exit → Act → World → Prop} : ∀ (fuel : Nat) (listed : Array Bool) (a : Act) (w : World), wpAny P md ops (OnlyN Q) fuel listed a w → wpAnyIn F n P md ops Q fuel listed a w
  | 0, _, _, _, h => h
  | fuel + 1, _, _, _, h => ⟨h.1, fun i hi => wpOpIn_mono (fun _ _ hh => wpAny_in hw hnd fuel _ _ _ hh) (wpOp_in hw hnd (h.2 i hi))⟩

theorem wpIn_region_need {F : Fence} {n : Nat} {P : Program} {ops : Array Oper} {Q : Exit → Act → World → Prop} {S : World → Prop} {id : Nat} {a : Act} {w : World} (hw : WideF F) (hm : P.follows .mixedOrders = true) (hnd : noDefer ops = true)
    (h : wpN P .any ops (OnlyN Q) S ops.size (Array.replicate ops.size false) a w.drew) : (Code.region id ops true).wpIn F n P Q a w :=
  wpIn_region_any hm (wpAny_in hw hnd _ _ _ _ (wpN_any _ _ _ _ h))
end Go.Proofs.Ytcblpjheoclkeaa

namespace Go.Proofs.Ytcblpjheoclkeaa
open Go.RowKit Go.Shelf
attribute [local go_sem] Oper.semAt_some

def RF (F : Nat → Prop) (w : World) (v : Value) (d : D) : Prop := Rel m00 (cellI F w) w v d
theorem RF.keep {F F' : Nat → Prop} {w w' : World} {v : Value} {d : D} (h : RF F w v d) (hF : ∀ k, F k → F' k) (hk : Keep F w w') : RF F' w' v d :=
  Rel.mono h (Mp.le.refl _) (fun b o v hi hv => hk b o v hi.1 hv) (fun b o hi => ⟨hF b hi.1, by obtain ⟨v, hv⟩ := hi.2; exact ⟨v, hk b o v hi.1 hv⟩⟩)
theorem RF.bel {F : Nat → Prop} {w w' : World} {v : Value} {d : D} (h : RF F w v d) (hb : Below w.heap.size w w') : RF F w' v d := h.keep (fun _ h => h) ((Keep.refl _ _).below hb)
theorem rel_cell {m : Mp} {Im : Nat → Nat → Prop} {w : World} {x : Value} {d : D} (h : Rel m Im w x d) : Rel m (fun b o => Im b o ∧ ∃ v, w.cell? ⟨b, o, none⟩ = some v) w x d := by
  induction h with
  | v x => exact .v x
  | p k off b h => exact .p k off b h
  | o k b h => exact .o k b h
  | mo k b h => exact .mo k b h
  | q bl off X l h hr ih => exact .q bl off X l (fun i hl => ⟨(h i hl).1, (h i hl).2, _, (h i hl).1⟩) ih
  | sl a c bl off n X l g h1 ha hc hn ho hr hg ih => exact .sl a c bl off n X l g h1 ha (fun i j hl hj => ⟨(hc i j hl hj).1, (hc i j hl hj).2, _, (hc i j hl hj).1⟩) hn ho ih hg
  | cl a n l h ih => exact .cl a n l ih
  | ps a c g len ha hc h => exact .ps a c g len ha hc h
  | pt a c g len n lo h => exact .pt a c g len n lo h
  | pr g len n i j b h => exact .pr g len n i j b h
  | ag cs l hn hr ih => exact .ag cs l hn ih
  | tu cs l hn hr ih => exact .tu cs l hn ih
  | fn f cs l hn hr ih => exact .fn f cs l hn ih
theorem calls_rf {P : Program} {f : FuncId} {ds : List D} {V : D} (h : PureC P f ds V) {F : Nat → Prop} {w : World} {vs : List Value} (hv : RelL m00 (cellI F w) w vs ds) :
    Calls P f vs.toArray w fun e w' => ∃ v, e = .returned v ∧ Below w.heap.size w w' ∧ RF (fun k => F k ∨ w.heap.size ≤ k) w' v V := by
  refine (calls_of_pure h cellI_ok hv).mono ?_
  rintro e w' ⟨v, Im', rfl, hb, hr, hi⟩
  exact ⟨v, rfl, hb, (rel_cell hr).mono (Mp.le.refl _) (KeepI.refl _ _) (fun b o h => ⟨(hi b o h.1).imp (fun h => h.1) id, h.2⟩)⟩
def RX (X : Nat → Nat → Prop) (w : World) (v : Value) (d : D) : Prop := Rel m00 (fun b o => X b o ∧ ∃ v, w.cell? ⟨b, o, none⟩ = some v) w v d
theorem RX.keep {X X' : Nat → Nat → Prop} {w w' : World} {v : Value} {d : D} (h : RX X w v d) (hX : ∀ b o, X b o → X' b o) (hk : ∀ b o v, X b o → w.cell? ⟨b, o, none⟩ = some v → w'.cell? ⟨b, o, none⟩ = some v) : RX X' w' v d :=
  Rel.mono h (Mp.le.refl _) (fun b o v hi hv => hk b o v hi.1 hv) (fun b o hi => ⟨hX b o hi.1, by obtain ⟨v, hv⟩ := hi.2; exact ⟨v, hk b o v hi.1 hv⟩⟩)
theorem RX.of {m : Mp} {Im X : Nat → Nat → Prop} {w : World} {v : Value} {d : D} (h : Rel m Im w v d) (hd : d.ok (fun _ => false) (fun _ => false) = true) (hX : ∀ b o, Im b o → X b o) : RX X w v d := by
  have hc := Rel.cut (f := fun _ => false) (g := fun _ => false) h hd
  have hmc : m.cut (fun _ => false) (fun _ => false) = m00 := by simp [Mp.cut, m00]
  rw [hmc] at hc
  exact (rel_cell hc).mono (Mp.le.refl _) (KeepI.refl _ _) (fun b o h => ⟨hX b o h.1, h.2⟩)
theorem calls_rx {P : Program} {f : FuncId} {ds : List D} {V : D} (h : PureC P f ds V) {X : Nat → Nat → Prop} {w : World} {vs : List Value} (hv : RelL m00 (fun b o => X b o ∧ ∃ v, w.cell? ⟨b, o, none⟩ = some v) w vs ds) :
    Calls P f vs.toArray w fun e w' => ∃ v, e = .returned v ∧ Below w.heap.size w w' ∧ RX (fun b o => X b o ∨ w.heap.size ≤ b) w' v V := by
  refine (calls_of_pure h (fun b o h => h.2) hv).mono ?_
  rintro e w' ⟨v, Im', rfl, hb, hr, hi⟩
  exact ⟨v, rfl, hb, (rel_cell hr).mono (Mp.le.refl _) (KeepI.refl _ _) (fun b o h => ⟨(hi b o h.1).imp (fun h => h.1) id, h.2⟩)⟩
theorem rx_arg {Y : Nat → Nat → Prop} {w : World} {b k i : Value} {bl off n c : Nat} {t : Tm} (h : RX Y w (.agg #[b, k, i, .slice (some ⟨bl, off, none⟩) n c]) (.ag (eTm t))) (j : Nat) (hj : j < t.args.length) {v0 v1 v2 v3 : Value}
    (c0 : w.cell? ⟨bl, off + j * 4, none⟩ = some v0) (c1 : w.cell? ⟨bl, off + j * 4 + 1, none⟩ = some v1) (c2 : w.cell? ⟨bl, off + j * 4 + 2, none⟩ = some v2) (c3 : w.cell? ⟨bl, off + j * 4 + 3, none⟩ = some v3) : RX Y w (.agg #[v0, v1, v2, v3]) (.ag (eTm t.args[j])) := by
  obtain ⟨cs, he, hcs⟩ := rel_ag.1 h
  rw [eTm_eq] at hcs
  match cs, hcs, he with
  | [a1, a2, a3, a4], hcs, he =>
    have h4 := hcs.2.2.2.1
    have he' : [b, k, i, Value.slice (some ⟨bl, off, none⟩) n c] = [a1, a2, a3, a4] := by
      have := congrArg (fun v => match v with | .agg a => a.toList | _ => []) he
      simpa using this
    simp only [List.cons.injEq, and_true] at he'
    obtain ⟨_, _, _, h4e⟩ := he'
    subst h4e
    obtain ⟨a, c', bl', off', X, e0, hm, ha, hc, hn, ho, hr, hg⟩ := rel_sl h4
    injection e0 with e1 e2 e3
    have hjl : j < (eTms t.args).length := by rw [eTms_len]; exact hj
    have ha2 := ha (by omega)
    rw [← e1] at ha2
    injection ha2 with ha2
    injection ha2 with q1 q2 q3
    subst q1; subst q2
    have hget : (eTms t.args)[j] = eTm t.args[j] := by
      have := eTms_getD t.args j hj
      rw [List.getD_eq_getElem?_getD, List.getElem?_eq_getElem hjl] at this
      rw [eTm_eq]; rw [eTm_eq] at this; exact this
    have hx : ∀ d (hd : d < 4) v, w.cell? ⟨bl, off + j * 4 + d, none⟩ = some v → X j d = v := fun d hd v hv => by
      have := (hc j d hjl hd).1
      rw [hv] at this; cases this; rfl
    have h0 := hx 0 (by omega) v0 c0
    have h1 := hx 1 (by omega) v1 c1
    have h2 := hx 2 (by omega) v2 c2
    have h3 := hx 3 (by omega) v3 c3
    refine rel_ag.2 ⟨[v0, v1, v2, v3], rfl, relL_iff.2 ⟨by rw [eTm_len]; rfl, fun d hd => ?_⟩⟩
    rw [eTm_len] at hd
    have hd4 : d < ((eTms t.args)[j]).length := by rw [hget, eTm_len]; exact hd
    have hrr := hr j hjl d hd4
    simp only [hget] at hrr
    have : [v0, v1, v2, v3].getD d undef = X j d := by
      match d, hd with
      | 0, _ => exact h0.symm
      | 1, _ => exact h1.symm
      | 2, _ => exact h2.symm
      | 3, _ => exact h3.symm
    rw [this]
    exact hrr
theorem oper_append {P : Program} {w w' : World} {o : Oper} {a : Act} {K : Act → World → Prop} {Q : Exit → Act → World → Prop} (s x : Operand) (ta tb : TypeId) (v' : Value)
    (ho : o.op = .call { callee := .builtin .append, args := #[s, x], argTypes := #[ta, tb] }) (hr : (Builtin.append_ #[ta, tb] o.type #[a.eval s, a.eval x]).run P w = .ok v' w') (h : K (a.put o.dst v') w') : Oper.wp P o a w K Q := by
  unfold Oper.wp execOp
  simp only [ho, resolve, invoke, builtin, Sem.run_bind, Sem.run_pure, Result.andThen_ok, List.map_toArray, List.map_cons, List.map_nil, hr]
  exact h
theorem app_rf {F : Nat → Prop} {w : World} {x y : Value} {l : List Int} {i : Int} (hx : RF F w x (.cl 1 (eIs l))) (hy : RF F w y (.sl 1 (eIs [i]) none)) (hl : l.length ≤ 900000) (ty : TypeId) :
    ∃ v w', (Builtin.append_ #[43, 43] ty #[x, y]).run Try.prog w = .ok v w' ∧ Below w.heap.size w w' ∧ RF (fun k => F k ∨ w.heap.size ≤ k) w' v (.sl 1 (eIs (l ++ [i])) none) := by
  let cx : Cx := { w0 := w, C := fun _ => False, Im0 := cellI F w, m0 := m00, nt := 0, n0 := 0, h0 := (fun k b hk => by cases hk), h0o := (fun k b hk => by cases hk) }
  have hm : MemOk cx (fun _ => True) m00 (cellI F w) w := {
    off := Off.refl _ _, im := cellI_ok, imb := fun b o h => .inl h, im0 := fun b o h => h
    own := fun k b hk => by cases hk
    lt := fun k b hk => by cases hk
    free := fun k b o hk => by cases hk
    nim := fun k b o hk => by cases hk
    inj := fun k k' b hk => by cases hk
    row := fun g R hg => by cases hg
    k0 := KeepI.refl _ _
    rown := fun g R b hg => by cases hg
    m0r := fun g R hg => by cases hg
    rIm := fun g R b o hg => by cases hg
    rblk := fun g R b k hg => by cases hg
    rinj := fun g g' R R' b hg => by cases hg
    fr := fun k _ => ⟨rfl, rfl, rfl⟩
    m0 := fun k b hk => by cases hk
    m0o := fun k b hk => by cases hk
    oown := fun k b hk => by cases hk
    olt := fun k b hk => by cases hk
    onim := fun k b o hk => by cases hk
    oinj := fun k k' b hk => by cases hk
    oblk := fun k k' b hk => by cases hk
    orow := fun k g R b hk => by cases hk
    dis := fun k b hk => by cases hk }
  have hst : St cx (fun _ => True) m00 (cellI F w) w { tmps := #[], defers := [] } [] := {
    mem := hm, df := rfl, nt := rfl
    tm := fun x d h => by cases h
    ce := fun k off d h => by cases h
    ro := fun g d h => by cases h
    jk := fun d h => by cases h
    ok := fun k d h => by cases h }
  obtain ⟨te, hte, h1, h2⟩ : ∃ te, tget TFP 3 = some te ∧ te.sz = 1 ∧ te.bys ≤ 1000 := ⟨_, rfl, rfl, by decide⟩
  obtain ⟨ti, hti, h3⟩ : ∃ ti, tget TFP 43 = some ti ∧ ti.el = some 3 := ⟨_, rfl, rfl⟩
  have hcl : (eIs [i]).length = 1 := by rw [eIs_len]; rfl
  obtain ⟨v, w', m', Im', q1, _, _, _, q5, q6⟩ := app_clip (P := Try.prog) TFP_ok hst (nm := 0) trivial hti h3 hte (by omega) h2 (x := x) (y := y) (l := eIs l) (l2 := eIs [i]) (e := .sl 1 (eIs [i]) none) (by rw [h1]; exact hx) hy (by rw [h1]; rfl) (by rw [hcl]; decide) (by rw [hcl, eIs_len]; omega) ty
  rw [h1] at q5
  rw [← eIs_append] at q5
  have q7 : Rel m' Im' w' v (.sl 1 (eIs (l ++ [i])) none) := q5.un1
  have hc := (Rel.cut (f := fun _ => false) (g := fun _ => false) q7 (by simp [D.ok]))
  have hmc : m'.cut (fun _ => false) (fun _ => false) = m00 := by simp [Mp.cut, m00]
  rw [hmc] at hc
  have ho := q6.mem.off
  refine ⟨v, w', q1, ⟨ho.os, ho.tape, ho.output, ho.size, fun b hb => ho.block b hb (fun h => h)⟩, ?_⟩
  refine (rel_cell hc).mono (Mp.le.refl _) (KeepI.refl _ _) (fun b o h => ⟨?_, h.2⟩)
  rcases q6.mem.imb b o h.1 with h | h | h
  · exact .inl h.1
  · exact .inr h
  · exact h.elim
theorem rf_ints {F : Nat → Prop} {w : World} {v : Value} {l : List Int} (h : RF F w v (.sl 1 (eIs l) none)) : ∃ a c, v = .slice a l.length c := by
  obtain ⟨a, c, _, _, _, h, _⟩ := rel_sl h
  exact ⟨a, c, by rw [h, eIs_len]⟩
namespace Pn
theorem subss_app (ar : List Ty) (p : List Int) : ∀ (l r : List Tm) (j : Nat), subss (l ++ r) ar p j = subss l ar p j ++ subss r ar p (j + l.length)
  | [], r, j => by simp [subss]
  | t :: l, r, j => by rw [List.cons_append, subss, subss, subss_app ar p l r (j + 1), List.append_assoc, List.length_cons, show j + 1 + l.length = j + (l.length + 1) by omega]
theorem subss_take (ar : List Ty) (p : List Int) (a : List Tm) (j : Nat) (h : j < a.length) : subss (a.take (j + 1)) ar p 0 = subss (a.take j) ar p 0 ++ subs a[j] ar (p ++ [(j : Int)]) := by
  rw [List.take_succ_eq_append_getElem h, subss_app, List.length_take, Nat.min_eq_left (by omega), Nat.zero_add]; simp [subss]
theorem subss_pre (ar : List Ty) (p : List Int) (a : List Tm) (j : Nat) : subss (a.take j) ar p 0 <+: subss a ar p 0 := by
  conv => rhs; rw [← List.take_append_drop j a, subss_app]
  exact List.prefix_append _ _
theorem subss_in (ar : List Ty) (p : List Int) (a : List Tm) (j : Nat) (h : j < a.length) (s : Spot) (hs : s ∈ subs a[j] ar (p ++ [(j : Int)])) : s ∈ subss a ar p 0 :=
  (subss_pre ar p a (j + 1)).subset (by rw [subss_take ar p a j h]; exact List.mem_append_right _ hs)
theorem subss_len (ar : List Ty) (p : List Int) : ∀ (l : List Tm) (j : Nat), (subss l ar p j).length = Tm.sizes l
  | [], _ => by simp [subss, Tm.sizes]
  | t :: l, j => by rw [subss, List.length_append, subs_len, subss_len ar p l]; simp [Tm.sizes]
end Pn
theorem rf_one {F : Nat → Prop} {w : World} {B : Nat} {i : Int} (hb : Blk w B #[.int .i64 i] 3) (hF : F B) : RF F w (.slice (some ⟨B, 0, none⟩) 1 1) (.sl 1 (eIs [i]) none) := by
  have hc : w.cell? ⟨B, 0, none⟩ = some (.int .i64 i) := hb.cell rfl
  refine .sl (some ⟨B, 0, none⟩) 1 B 0 1 (fun _ _ => .int .i64 i) (eIs [i]) none ⟨by rw [eIs_len]; exact (by decide : 1 ≤ maxLen), by rw [eIs_len]; exact Nat.le_refl 1⟩ (fun _ => rfl) (fun a b ha hb' => ?_) (fun a ha => ?_) (fun _ _ _ _ => rfl) (fun a ha b hb' => ?_) (fun _ e => by cases e)
  · have h1 : a = 0 := by rw [eIs_len] at ha; simp at ha; omega
    have h2 : b = 0 := by omega
    subst h1; subst h2
    exact ⟨hc, hF, _, hc⟩
  · have h1 : a = 0 := by rw [eIs_len] at ha; simp at ha; omega
    subst h1; rfl
  · have h1 : a = 0 := by rw [eIs_len] at ha; simp at ha; omega
    subst h1
    have h2 : b = 0 := by change b < 1 at hb'; omega
    subst h2
    exact .v _
structure HitS where
  s : Pn.Spot
  va : Option Addr
  vc : Nat
  pb : Option Addr
  cb : Nat
  pa : Option Addr
  ca : Nat
def HitS.path (x : HitS) : Value := .slice x.va x.s.2.2.length x.vc
def HitS.term (x : HitS) : Value := .agg #[.slice x.pb x.s.1.binds.length x.cb, .int .i64 x.s.1.kind, .int .i64 x.s.1.index, .slice x.pa x.s.1.args.length x.ca]
def HitS.enc (x : HitS) : Array Value := #[x.path, x.term]
def HitS.R (F : Nat → Prop) (Y : Nat → Nat → Prop) (Q : Pn.Spot → Prop) (x : HitS) (V : World) : Prop := Q x.s ∧ RF F V x.path (.sl 1 (eIs x.s.2.2) none) ∧ RX Y V x.term (.ag (eTm x.s.1))
def NoCell (o : Obj) : Prop := o.isCells = false
abbrev AllC : Nat → TypeId → Prop := fun _ _ => True
abbrev FromC (B : Nat) : Nat → TypeId → Prop := fun k _ => B ≤ k
theorem KeepC.lower {G G' : Nat → TypeId → Prop} {A B : World} (h : KeepC G A B) (hg : ∀ k t, G' k t → G k t) : KeepC G' A B := ⟨h.size, fun k cs t fr hk hc => h.cells k cs t fr (hg k t hk) hc⟩
theorem KeepC.of_below {A B : World} (h : Below A.heap.size A B) : KeepC AllC A B := ⟨h.size, fun k cs t fr _ hc => (h.block k (Array.getElem?_eq_some_iff.1 hc).1).trans hc⟩
theorem Mild.below {β : Type} {Ok : Obj → Prop} {B : Nat} {J : β → World → Prop} (h : Mild Ok B J) {s : β} {W W' : World} (hs : J s W) (hb : Below W.heap.size W W') : J s W' :=
  h s W W' none hs ⟨hb.os, hb.tape, hb.output, hb.size, fun k hk _ => hb.block k hk⟩ (fun r e => by cases e)
def DownS (B0 : Nat) (J Jx : List HitS → World → Prop) (pre : List HitS) (l : List Pn.Spot) (W : World) (e : Ending) (W' : World) : Prop :=
  (e = .returned (.bool true) ∧ KeepC AllC W W' ∧ ∃ xs, xs.map HitS.s = l ∧ J (pre ++ xs) W') ∨ (e = .returned (.bool false) ∧ KeepC (FromC B0) W W' ∧ ∃ xs, xs.map HitS.s <+: l ∧ Jx (pre ++ xs) W')
set_option maxRecDepth 100000 in
set_option maxHeartbeats 1600000 in
theorem sdown_k (F : Nat → Prop) (Y : Nat → Nat → Prop) (Q0 : Pn.Spot → Prop) (l N B0 : Nat) (hF : ∀ k, B0 ≤ k → F k) (hYB : ∀ k o, B0 ≤ k → Y k o) (J Jx : List HitS → World → Prop) {B1 : Nat} (hJ : Mild NoCell B1 J)
    (hY : ∀ m pre x W, J pre W → x.R F Y Q0 W → pre.length < N → YieldAt Fence.wide m Try.prog l (HitS.enc x) W fun e W' =>
      (e = .returned (.bool true) ∧ J (pre ++ [x]) W' ∧ KeepC AllC W W') ∨ (e = .returned (.bool false) ∧ Jx (pre ++ [x]) W' ∧ KeepC (FromC B0) W W')) :
    ∀ t : Tm, t.full ≤ 80000 → t.Fit → ∀ {b k i a : Value} {F1 : Nat → Prop} (ar : List Ty) (path : List Int) (va : Option Addr) (vc : Nat) (n : Nat) (pre : List HitS) (W : World), (∀ s ∈ Pn.subs t ar path, Q0 s) → IsTm F1 W b k i a t → RX Y W (.agg #[b, k, i, a]) (.ag (eTm t)) → RF F W (.slice va path.length vc) (.sl 1 (eIs path) none) → B0 ≤ W.heap.size → J pre W → pre.length + t.size ≤ N → path.length + t.depth ≤ 80000 →
      CallsIn Fence.wide n Try.prog 94 #[.agg #[b, k, i, a], .slice va path.length vc, .func (.yield l) #[] #[]] W (DownS B0 J Jx pre (Pn.subs t ar path) W) := Tm.ind fun binds k0 i0 args ih => by
  intro hz hfit b k i a F1 ar path va vc nn pre W hQs ht hyt hp hB0 hJ0 hN hd
  have Hih := Lib.hid ih; clear ih
  have Hfit := Lib.hid hfit; clear hfit
  have HQs := Lib.hid hQs; clear hQs
  have Hyt := Lib.hid hyt; clear hyt
  have HYB := Lib.hid hYB; clear hYB
  have Hz := Lib.hid hz; clear hz
  have HN := Lib.hid hN; clear hN
  have Hd := Lib.hid hd; clear hd
  have HF := Lib.hid hF; clear hF
  have HJ := Lib.hid hJ; clear hJ
  have HY := Lib.hid hY; clear hY
  have HJ0 := Lib.hid hJ0; clear hJ0
  have Hp := Lib.hid hp; clear hp
  have Ht := Lib.hid ht
  obtain ⟨pa, pc, qa, qc, rfl, rfl, rfl, rfl⟩ := ht.shape
  clear ht
  simp only [Tm.binds, Tm.kind, Tm.index, Tm.args] at Ht Hyt ⊢
  have hdd : ∀ k : Nat, (Fence.wide.depth.isSome = true → 1 ≤ k) := fun k h => by cases h
  obtain ⟨n1, hn1⟩ : ∃ x, path.length = x := ⟨_, rfl⟩
  obtain ⟨n2, hn2⟩ : ∃ x, binds.length = x := ⟨_, rfl⟩
  obtain ⟨n3, hn3⟩ : ∃ x, args.length = x := ⟨_, rfl⟩
  rw [hn1] at Hp ⊢
  rw [hn2, hn3] at Ht Hyt ⊢
  have Hn1 := Lib.hid hn1; have Hn2 := Lib.hid hn2; have Hn3 := Lib.hid hn3
  clear hn1 hn2 hn3
  obtain ⟨W1, hW1⟩ : ∃ W1, W.alloc (.cells #[.slice pa n2 pc, .int .i64 k0, .int .i64 i0, .slice qa n3 qc] 34) = W1 := ⟨_, rfl⟩
  have b1 : Below W.heap.size W W1 := by rw [← hW1]; exact (Below.refl _ _).alloc (Nat.le_refl _) _
  have y1 : Blk W1 W.heap.size #[.slice pa n2 pc, .int .i64 k0, .int .i64 i0, .slice qa n3 qc] 34 := by rw [← hW1]; exact Blk.new _ _ _ rfl
  refine callsIn_of_wp Try.func94 rfl trivial ?_ rfl
  simp only [Try.ntmps94, List.size_toArray, List.length_cons, List.length_nil, Nat.reduceAdd, Nat.reduceSub, Array.replicate_succ, Array.replicate_zero, List.push_toArray, List.append_toArray, List.nil_append, List.cons_append]
  gi_wp2_with fail
  try rw [hW1]
  clear hW1
  have c0 : W1.drew.cell? ⟨W.heap.size, 0, none⟩ = some (.slice pa n2 pc) := y1.drew.cell rfl
  have c1 : W1.drew.cell? ⟨W.heap.size, 1, none⟩ = some (.int .i64 k0) := y1.drew.cell rfl
  have c2 : W1.drew.cell? ⟨W.heap.size, 2, none⟩ = some (.int .i64 i0) := y1.drew.cell rfl
  have c3 : W1.drew.cell? ⟨W.heap.size, 3, none⟩ = some (.slice qa n3 qc) := y1.drew.cell rfl
  obtain ⟨QQ, hQQ⟩ : ∃ QQ : Exit → Act → World → Prop, QQ = (fun e a' W4 => e = .normal ∧ ∃ X : HitS, X.s = (.mk binds k0 i0 args, ar ++ binds, path) ∧ ∃ bb : Bool, a' = { tmps := #[.agg #[.slice pa n2 pc, .int .i64 k0, .int .i64 i0, .slice qa n3 qc], .slice va n1 vc, .func (.yield l) #[] #[], .pointer (some ⟨W.heap.size, 0, none⟩), undef, undef, .bool false, undef, undef, .func (.yield l) #[] #[], .slice va n1 vc, X.path, .agg #[.slice pa n2 pc, .int .i64 k0, .int .i64 i0, .slice qa n3 qc], X.term, .bool bb, .bool (!bb), undef, undef, undef, undef, undef, undef, undef, undef, undef, undef, undef, undef, undef, undef, undef, undef, undef, undef], defers := [] } ∧
      ((bb = true ∧ J (pre ++ [X]) W4 ∧ KeepC AllC W1 W4) ∨ (bb = false ∧ KeepC (FromC B0) W1 W4 ∧ Jx (pre ++ [X]) W4))) := ⟨_, rfl⟩
  have HQ := Lib.hid hQQ; clear hQQ
  refine wpIn_mono (Q := QQ) ?_ ?_
  · have hYY : ∀ W3 : World, Below W1.heap.size W1 W3 → ∀ v1 tb tk ti ta, RF F W3 v1 (.sl 1 (eIs path) none) → RX Y W3 (.agg #[tb, tk, ti, ta]) (.ag (eTm (.mk binds k0 i0 args))) → ∃ X : HitS, X.s = (.mk binds k0 i0 args, ar ++ binds, path) ∧ X.path = v1 ∧ X.term = .agg #[tb, tk, ti, ta] ∧ YieldAt Fence.wide (nn - 1) Try.prog l #[v1, .agg #[tb, tk, ti, ta]] W3 fun e W' =>
      (e = .returned (.bool true) ∧ J (pre ++ [X]) W' ∧ KeepC AllC W3 W') ∨ (e = .returned (.bool false) ∧ Jx (pre ++ [X]) W' ∧ KeepC (FromC B0) W3 W') := by
      intro W3 b3 v1 tb tk ti ta h1 h2
      obtain ⟨a1, c1, rfl⟩ := rf_ints h1
      obtain ⟨_, _, _, _, hag, hist⟩ := agTm h2
      obtain ⟨pb, cb, pa, ca, rfl, rfl, rfl, rfl⟩ := hist.shape
      cases hag
      exact ⟨⟨(.mk binds k0 i0 args, ar ++ binds, path), a1, c1, pb, cb, pa, ca⟩, rfl, rfl, rfl, HY.out (nn - 1) pre ⟨(.mk binds k0 i0 args, ar ++ binds, path), a1, c1, pb, cb, pa, ca⟩ W3 (HJ.out.below (HJ.out.below HJ0.out b1) b3) ⟨HQs.out _ (by rw [Pn.subs_eq]; exact List.mem_cons_self ..), h1, h2⟩ (by have := HN.out; have := Tm.size_pos (.mk binds k0 i0 args); omega)⟩
    have HYY := Lib.hid hYY; clear hYY
    refine wpIn_region_any (by kernel_rfl) ?_
    change wpAnyIn _ _ _ _ _ _ _ _ _ (World.drew _)
    refine wpAnyIn_take (i := 0) (v := .func (.yield l) #[] #[]) rfl rfl (by kernel_rfl) (by kernel_rfl) (by kernel_rfl) (fun _ _ _ h => by rw [HQ.out] at h; cases h.1) ⟨Or.inl ⟨by rfl, by intro w; go_simp⟩, fun _ => rfl⟩ ?_
    try simp only [Act.put, List.setIfInBounds_toArray, List.set_cons_zero, List.set_cons_succ]
    refine wpAnyIn_take (i := 1) (v := .slice va n1 vc) rfl rfl (by kernel_rfl) (by kernel_rfl) (by kernel_rfl) (fun _ _ _ h => by rw [HQ.out] at h; cases h.1) ⟨Or.inl ⟨by rfl, by intro w; go_simp⟩, fun _ => rfl⟩ ?_
    try simp only [Act.put, List.setIfInBounds_toArray, List.set_cons_zero, List.set_cons_succ]
    refine wpAnyIn_ready (rs := [2, 3]) (by kernel_rfl) (by simp) ?_
    refine AllReadyIn.cons rfl (fun K hK => ?_) (AllReadyIn.cons rfl (fun K hK => ?_) AllReadyIn.nil)
    · go_simp
      refine ⟨trivial, hdd _, callsIn_wide.2 ((calls_rf (clone_d path (by have := Hn1.out; have := Hd.out; omega)) (F := F) (vs := [.slice va n1 vc]) ⟨Hp.out.bel (b1.trans ((Below.refl _ _).drew)), trivial⟩).mono ?_)⟩
      rintro e W2 ⟨v1, rfl, hb2, hv1⟩
      have b2 : Below W1.heap.size W1 W2 := (Below.refl _ _).drew.trans hb2
      have y2 := y1.below b2
      clear hb2
      refine hK _ _ ?_
      clear hK K
      have c0 : W2.cell? ⟨W.heap.size, 0, none⟩ = some (.slice pa n2 pc) := y2.cell rfl
      have c1 : W2.cell? ⟨W.heap.size, 1, none⟩ = some (.int .i64 k0) := y2.cell rfl
      have c2 : W2.cell? ⟨W.heap.size, 2, none⟩ = some (.int .i64 i0) := y2.cell rfl
      have c3 : W2.cell? ⟨W.heap.size, 3, none⟩ = some (.slice qa n3 qc) := y2.cell rfl
      refine wpAnyIn_ready (rs := [3]) (by kernel_rfl) (by simp) ?_
      refine AllReadyIn.cons rfl (fun K hK => ?_) AllReadyIn.nil
      go_simp
      refine hK _ _ ?_
      clear hK K
      refine wpAnyIn_ready (rs := [4]) (by kernel_rfl) (by simp) ?_
      refine AllReadyIn.cons rfl (fun K hK => ?_) AllReadyIn.nil
      go_simp
      refine ⟨trivial, hdd _, callsIn_wide.2 ((calls_rx (copy_d (.mk binds k0 i0 args) Hz.out Hfit.out) (X := Y) (vs := [.agg #[.slice pa n2 pc, .int .i64 k0, .int .i64 i0, .slice qa n3 qc]]) ⟨Hyt.out.keep (fun _ _ h => h) (fun b o v _ hv => ((b1.trans (b2.mono b1.size)).cell (p := ⟨b, o, none⟩) (Keep.lt hv)).trans hv), trivial⟩).mono ?_)⟩
      rintro e W3 ⟨vc3, rfl, hb3, hc⟩
      obtain ⟨tb, tk, ti, ta, rfl, -⟩ := agTm hc
      have b3 : Below W1.heap.size W1 W3 := b2.trans (hb3.mono b2.size)
      refine hK _ _ ?_
      clear hK K
      obtain ⟨X, hX1, hX2, hX3, fn, tmps, assign, body, hy, hR⟩ := HYY.out W3 b3 v1 tb tk ti ta ((hv1.bel hb3).keep (fun k h => h.elim id fun h => HF.out k (by have h' : W1.heap.size ≤ k := h; have := b1.size; omega)) (Keep.refl _ _)) (hc.keep (fun b o h => h.elim id fun h => HYB.out b o (by have h' : W2.heap.size ≤ b := h; have := b1.size; have := b2.size; omega)) (fun _ _ _ _ h => h))
      have HX := Lib.hid (And.intro hX1 (And.intro hX2 hX3)); clear hX1 hX2 hX3
      refine wpAnyIn_ready (rs := [5]) (by kernel_rfl) (by simp) ?_
      refine AllReadyIn.cons rfl (fun K hK => ?_) AllReadyIn.nil
      go_simp
      refine ⟨hdd _, hR.mono ?_⟩
      rintro e W4 (⟨rfl, hJ4, hk4⟩ | ⟨rfl, hx4, hk4⟩)
      · have HJ4 := Lib.hid hJ4; clear hJ4
        refine hK _ _ ?_
        clear hK K
        refine wpAnyIn_ready (rs := [6]) (by kernel_rfl) (by simp) ?_
        refine AllReadyIn.cons rfl (fun K hK => ?_) AllReadyIn.nil
        go_simp
        refine hK _ _ ?_
        clear hK K
        refine wpAnyIn_done (by kernel_rfl) ?_ _
        rw [HQ.out]
        exact ⟨rfl, X, HX.out.1, true, by rw [HX.out.2.1, HX.out.2.2]; rfl, .inl ⟨rfl, HJ4.out, (KeepC.of_below (b3.mono (Nat.le_refl _))).trans hk4⟩⟩
      · have Hx4 := Lib.hid hx4; clear hx4
        refine hK _ _ ?_
        clear hK K
        refine wpAnyIn_ready (rs := [6]) (by kernel_rfl) (by simp) ?_
        refine AllReadyIn.cons rfl (fun K hK => ?_) AllReadyIn.nil
        go_simp
        refine hK _ _ ?_
        clear hK K
        refine wpAnyIn_done (by kernel_rfl) ?_ _
        rw [HQ.out]
        exact ⟨rfl, X, HX.out.1, false, by rw [HX.out.2.1, HX.out.2.2]; rfl, .inr ⟨rfl, ((KeepC.of_below (b3.mono (Nat.le_refl _))).lower (fun _ _ _ => trivial)).trans hk4, Hx4.out⟩⟩
    · go_simp
      refine hK _ _ ?_
      clear hK K
      refine wpAnyIn_ready (rs := [2]) (by kernel_rfl) (by simp) ?_
      refine AllReadyIn.cons rfl (fun K hK => ?_) AllReadyIn.nil
      go_simp
      refine ⟨trivial, hdd _, callsIn_wide.2 ((calls_rf (clone_d path (by have := Hn1.out; have := Hd.out; omega)) (F := F) (vs := [.slice va n1 vc]) ⟨Hp.out.bel (b1.trans ((Below.refl _ _).drew)), trivial⟩).mono ?_)⟩
      rintro e W2 ⟨v1, rfl, hb2, hv1⟩
      have b2 : Below W1.heap.size W1 W2 := (Below.refl _ _).drew.trans hb2
      have y2 := y1.below b2
      clear hb2
      refine hK _ _ ?_
      clear hK K
      refine wpAnyIn_ready (rs := [4]) (by kernel_rfl) (by simp) ?_
      refine AllReadyIn.cons rfl (fun K hK => ?_) AllReadyIn.nil
      go_simp
      refine ⟨trivial, hdd _, callsIn_wide.2 ((calls_rx (copy_d (.mk binds k0 i0 args) Hz.out Hfit.out) (X := Y) (vs := [.agg #[.slice pa n2 pc, .int .i64 k0, .int .i64 i0, .slice qa n3 qc]]) ⟨Hyt.out.keep (fun _ _ h => h) (fun b o v _ hv => ((b1.trans (b2.mono b1.size)).cell (p := ⟨b, o, none⟩) (Keep.lt hv)).trans hv), trivial⟩).mono ?_)⟩
      rintro e W3 ⟨vc3, rfl, hb3, hc⟩
      obtain ⟨tb, tk, ti, ta, rfl, -⟩ := agTm hc
      have b3 : Below W1.heap.size W1 W3 := b2.trans (hb3.mono b2.size)
      refine hK _ _ ?_
      clear hK K
      obtain ⟨X, hX1, hX2, hX3, fn, tmps, assign, body, hy, hR⟩ := HYY.out W3 b3 v1 tb tk ti ta ((hv1.bel hb3).keep (fun k h => h.elim id fun h => HF.out k (by have h' : W1.heap.size ≤ k := h; have := b1.size; omega)) (Keep.refl _ _)) (hc.keep (fun b o h => h.elim id fun h => HYB.out b o (by have h' : W2.heap.size ≤ b := h; have := b1.size; have := b2.size; omega)) (fun _ _ _ _ h => h))
      have HX := Lib.hid (And.intro hX1 (And.intro hX2 hX3)); clear hX1 hX2 hX3
      refine wpAnyIn_ready (rs := [5]) (by kernel_rfl) (by simp) ?_
      refine AllReadyIn.cons rfl (fun K hK => ?_) AllReadyIn.nil
      go_simp
      refine ⟨hdd _, hR.mono ?_⟩
      rintro e W4 (⟨rfl, hJ4, hk4⟩ | ⟨rfl, hx4, hk4⟩)
      · have HJ4 := Lib.hid hJ4; clear hJ4
        refine hK _ _ ?_
        clear hK K
        refine wpAnyIn_ready (rs := [6]) (by kernel_rfl) (by simp) ?_
        refine AllReadyIn.cons rfl (fun K hK => ?_) AllReadyIn.nil
        go_simp
        refine hK _ _ ?_
        clear hK K
        refine wpAnyIn_done (by kernel_rfl) ?_ _
        rw [HQ.out]
        exact ⟨rfl, X, HX.out.1, true, by rw [HX.out.2.1, HX.out.2.2]; rfl, .inl ⟨rfl, HJ4.out, (KeepC.of_below (b3.mono (Nat.le_refl _))).trans hk4⟩⟩
      · have Hx4 := Lib.hid hx4; clear hx4
        refine hK _ _ ?_
        clear hK K
        refine wpAnyIn_ready (rs := [6]) (by kernel_rfl) (by simp) ?_
        refine AllReadyIn.cons rfl (fun K hK => ?_) AllReadyIn.nil
        go_simp
        refine hK _ _ ?_
        clear hK K
        refine wpAnyIn_done (by kernel_rfl) ?_ _
        rw [HQ.out]
        exact ⟨rfl, X, HX.out.1, false, by rw [HX.out.2.1, HX.out.2.2]; rfl, .inr ⟨rfl, ((KeepC.of_below (b3.mono (Nat.le_refl _))).lower (fun _ _ _ => trivial)).trans hk4, Hx4.out⟩⟩
  · rintro e a' W4 hq
    rw [HQ.out] at hq
    obtain ⟨rfl, X, hX, bb, rfl, hq⟩ := hq
    have HX := Lib.hid hX; clear hX HQ
    have hn3b : n3 ≤ 9000000 := by have := fulls_len args; have := Hn3.out; have h := Hz.out; rw [Tm.full_eq] at h; omega
    rcases hq with ⟨rfl, hJ4, hk4⟩ | ⟨rfl, hk4, hx4⟩
    rotate_left
    · have Hx4 := Lib.hid hx4; clear hx4
      gi_wp2_with fail
      go_ret
      exact .inr ⟨rfl, ((KeepC.of_below b1).lower (fun _ _ _ => trivial)).trans hk4, [X], ⟨Pn.subss args (ar ++ binds) path 0, by rw [Pn.subs_eq, List.map_cons, HX.out]; rfl⟩, Hx4.out⟩
    have HJ4 := Lib.hid hJ4; clear hJ4
    simp only [Bool.not_true]
    have y4 : Blk W4 W.heap.size _ _ := hk4.blk y1 trivial
    have c0 : W4.cell? ⟨W.heap.size, 0, none⟩ = some (.slice pa n2 pc) := y4.cell rfl
    have c1 : W4.cell? ⟨W.heap.size, 1, none⟩ = some (.int .i64 k0) := y4.cell rfl
    have c2 : W4.cell? ⟨W.heap.size, 2, none⟩ = some (.int .i64 i0) := y4.cell rfl
    have c3 : W4.cell? ⟨W.heap.size, 3, none⟩ = some (.slice qa n3 qc) := y4.cell rfl
    gi_wp2_with fail
    clear c0 c1 c2 c3 y4
    have hk0 : KeepC AllC W W4 := (KeepC.of_below b1).trans hk4
    obtain ⟨_, _, _, hsl⟩ := Ht.out.inv
    simp only [Tm.args] at hsl
    obtain ⟨hn, hm, bl, off, PA, A, PN, PC, N', C, Kd, Ix, ha, h1, h2, h3, h4, h5⟩ := sl_cells6 hsl
    clear hn
    rw [Hn3.out] at hm ha
    simp only [Hn3.out] at h1 h2 h3 h4
    clear hsl hk4
    gi_loopw [7, 8, 19] (fun _ _ i wr => ∃ (k : Nat) (xs : List HitS), i = .int .i64 k ∧ k ≤ n3 ∧ Hid (xs.map HitS.s = Pn.subss (args.take k) (ar ++ binds) path 0) ∧ J (pre ++ [X] ++ xs) wr ∧ KeepC AllC W wr) (fun _ _ i _ => n3 - (intOf i).toNat)
    case atStart => exact ⟨0, [], rfl, by omega, by simp [Hid, Pn.subss], by simpa using HJ4.out, hk0⟩
    case round =>
      clear hk0
      obtain ⟨k, xs, rfl, hk, hxs, hJr, hkr⟩ := hrel
      have Hkr := Lib.hid hkr
      have HJr := Lib.hid hJr; clear hJr
      have hsz := hkr.size
      by_cases hlt : k < n3
      · obtain ⟨rfl, hF1⟩ := ha (by omega)
        have hKp : Keep F1 W wr := hkr.keep' (Keep.refl _ _) (fun _ _ _ _ => trivial)
        have e1 := hKp _ _ _ hF1 (h1 k hlt)
        have e2 := hKp _ _ _ hF1 (h2 k hlt)
        have e3 := hKp _ _ _ hF1 (h3 k hlt)
        have e4 := hKp _ _ _ hF1 (h4 k hlt)
        gi_wp2_with fail
        obtain ⟨V, hV⟩ : ∃ V, wr.alloc (.cells #[.slice (PA k) (PN k) (PC k), .int .i64 (Kd k), .int .i64 (Ix k), .slice (A k) (N' k) (C k)] 34) = V := ⟨_, rfl⟩
        have bV : Below wr.heap.size wr V := by rw [← hV]; exact (Below.refl _ _).alloc (Nat.le_refl _) _
        have yV : Blk V wr.heap.size #[.slice (PA k) (PN k) (PC k), .int .i64 (Kd k), .int .i64 (Ix k), .slice (A k) (N' k) (C k)] 34 := by rw [← hV]; exact Blk.new _ _ _ rfl
        try rw [hV]
        have Hye : Hid (RX Y wr (.agg #[.slice (PA k) (PN k) (PC k), .int .i64 (Kd k), .int .i64 (Ix k), .slice (A k) (N' k) (C k)]) (.ag (eTm (args[k]'(by have := Hn3.out; omega))))) := rx_arg (t := .mk binds k0 i0 args) (Hyt.out.keep (fun _ _ h => h) (fun b o v _ hv => (hkr.keep' (F := fun _ => True) (Keep.refl _ _) (fun _ _ _ _ => trivial)) b o v trivial hv)) k (by have := Hn3.out; show k < args.length; omega) e1 e2 e3 e4
        clear hV e1 e2 e3 e4
        have hka : k < args.length := by have := Hn3.out; omega
        obtain ⟨sub, hsub⟩ : ∃ s, Pn.subs args[k] (ar ++ binds) (path ++ [(k : Int)]) = s := ⟨_, rfl⟩
        obtain ⟨QQ2, hQQ2⟩ : ∃ QQ2 : Exit → Act → World → Prop, QQ2 = (fun e a' W6 => e = .normal ∧ ∃ p26 p28 p29, ∃ bb : Bool, a' = { tmps := #[.agg #[.slice pa n2 pc, .int .i64 k0, .int .i64 i0, .slice (some ⟨bl, off, none⟩) n3 qc], .slice va n1 vc, .func (.yield l) #[] #[], .pointer (some ⟨W.heap.size, 0, none⟩), undef, undef, u6, .int .i64 ↑k, .pointer (some ⟨wr.heap.size, 0, none⟩), .func (.yield l) #[] #[], .slice va n1 vc, X.path, .agg #[.slice pa n2 pc, .int .i64 k0, .int .i64 i0, .slice (some ⟨bl, off, none⟩) n3 qc], X.term, .bool true, .bool false, .pointer (some ⟨W.heap.size, 3, none⟩), .slice (some ⟨bl, off, none⟩) n3 qc, .int .i64 ↑n3, .int .i64 ↑k, .bool true, .int .i64 ↑k, .pointer (some ⟨bl, off + k * 4, none⟩), .agg #[.slice (PA k) (PN k) (PC k), .int .i64 (Kd k), .int .i64 (Ix k), .slice (A k) (N' k) (C k)], .agg #[.slice (PA k) (PN k) (PC k), .int .i64 (Kd k), .int .i64 (Ix k), .slice (A k) (N' k) (C k)], .slice va n1 vc, p26, .int .i64 ↑k, p28, p29, .func (.yield l) #[] #[], .bool bb, .bool (!bb), u33], defers := [] } ∧
          ((bb = true ∧ KeepC AllC V W6 ∧ ∃ ys, ys.map HitS.s = sub ∧ J (pre ++ [X] ++ xs ++ ys) W6) ∨ (bb = false ∧ KeepC (FromC B0) V W6 ∧ ∃ ys, ys.map HitS.s <+: sub ∧ Jx (pre ++ [X] ++ xs ++ ys) W6))) := ⟨_, rfl⟩
        have HQ2 := Lib.hid hQQ2; clear hQQ2
        have bW : KeepC AllC W V := Hkr.out.trans (KeepC.of_below bV)
        have hDN : ∀ W5, Below V.heap.size V W5 → ∀ a5 n5 c5, (path ++ [(k : Int)]).length = n5 → RF F W5 (.slice a5 n5 c5) (.sl 1 (eIs (path ++ [(k : Int)])) none) → Calls Try.prog 94 #[.agg #[.slice (PA k) (PN k) (PC k), .int .i64 (Kd k), .int .i64 (Ix k), .slice (A k) (N' k) (C k)],   .slice a5 n5 c5, .func (.yield l) #[] #[]] W5 (DownS B0 J Jx (pre ++ [X] ++ xs) sub W5) := by
          intro W5 b5 a5 n5 c5 hn5 h5v
          subst hn5
          rw [← hsub]
          have hl : xs.length = Tm.sizes (args.take k) := by
            have := congrArg List.length hxs.out
            rw [List.length_map, Pn.subss_len] at this; exact this
          have q1 := Tm.sizes_take args k hka
          have q2 := Tm.sizes_take_le args (k + 1)
          have q3 := HN.out
          have q4 := Hd.out
          have q5 := Tm.full_mem (List.getElem_mem hka)
          have q6 := Hz.out
          have q7 := Tm.depth_mem (List.getElem_mem hka)
          rw [Tm.size_eq] at q3
          rw [Tm.depth_eq] at q4
          rw [Tm.full_eq] at q6
          refine callsIn_wide.1 (Hih.out args[k] (List.getElem_mem hka) (by omega) ((Tm.fit_iff.1 Hfit.out).2.2 _ (List.getElem_mem hka)) (ar ++ binds) (path ++ [(k : Int)]) a5 c5 0 (pre ++ [X] ++ xs) W5 (fun s hs => HQs.out s (by rw [Pn.subs_eq]; exact List.mem_cons_of_mem _ (Pn.subss_in _ _ _ k hka s hs))) ((h5 k hka).keep ((bW.keep' (Keep.refl _ _) (fun _ _ _ _ => trivial)).below b5)) (Hye.out.keep (fun _ _ h => h) (fun b o v _ hv => ((bV.trans (b5.mono bV.size)).cell (p := ⟨b, o, none⟩) (Keep.lt hv)).trans hv)) h5v (by have := bW.size; have := b5.size; omega) (HJ.out.below (HJ.out.below HJr.out bV) b5) (by simp; omega) (by simp; omega))
        have HDN := Lib.hid hDN; clear hDN
        refine wpIn_mono (Q := QQ2) ?_ ?_
        · skip
          refine wpIn_region_need (S := fun w' => w'.cell? ⟨wr.heap.size, 0, none⟩ = some (.slice (PA k) (PN k) (PC k)) ∧ w'.cell? ⟨wr.heap.size, 1, none⟩ = some (.int .i64 (Kd k)) ∧ w'.cell? ⟨wr.heap.size, 2, none⟩ = some (.int .i64 (Ix k)) ∧ w'.cell? ⟨wr.heap.size, 3, none⟩ = some (.slice (A k) (N' k) (C k))) (wide_self) (by kernel_rfl) (by kernel_rfl) ?_
          have hS : (V.drew).cell? ⟨wr.heap.size, 0, none⟩ = some (.slice (PA k) (PN k) (PC k)) ∧ (V.drew).cell? ⟨wr.heap.size, 1, none⟩ = some (.int .i64 (Kd k)) ∧ (V.drew).cell? ⟨wr.heap.size, 2, none⟩ = some (.int .i64 (Ix k)) ∧ (V.drew).cell? ⟨wr.heap.size, 3, none⟩ = some (.slice (A k) (N' k) (C k)) := ⟨yV.drew.cell rfl, yV.drew.cell rfl, yV.drew.cell rfl, yV.drew.cell rfl⟩
          refine wpN_take (i := 0) (v := ?v1) rfl (by kernel_rfl) (fun _ _ _ h => h) hS (Or.inl ⟨by rfl, ?hy1⟩) ?hr1
          case hy1 => (intro wS hSw; (try dsimp only at hSw); go_simp; (try with_reducible rfl))
          try simp only [Act.put, List.setIfInBounds_toArray, List.set_cons_zero, List.set_cons_succ, List.getElem_toArray, List.getElem_cons_zero, List.getElem_cons_succ]
          refine wpN_take (i := 1) (v := ?v2) rfl (by kernel_rfl) (fun _ _ _ h => h) hS (Or.inl ⟨by rfl, ?hy2⟩) ?hr2
          case hy2 => (intro wS hSw; (try dsimp only at hSw); go_simp; (try with_reducible rfl))
          try simp only [Act.put, List.setIfInBounds_toArray, List.set_cons_zero, List.set_cons_succ, List.getElem_toArray, List.getElem_cons_zero, List.getElem_cons_succ]
          refine wpN_take (i := 3) (v := ?v3) rfl (by kernel_rfl) (fun _ _ _ h => h) hS (Or.inl ⟨by rfl, ?hy3⟩) ?hr3
          case hy3 => (intro wS hSw; (try dsimp only at hSw); go_simp; (try with_reducible rfl))
          try simp only [Act.put, List.setIfInBounds_toArray, List.set_cons_zero, List.set_cons_succ, List.getElem_toArray, List.getElem_cons_zero, List.getElem_cons_succ]
          refine wpN_take (i := 6) (v := ?v4) rfl (by kernel_rfl) (fun _ _ _ h => h) hS (Or.inl ⟨by rfl, ?hy4⟩) ?hr4
          case hy4 => (intro wS hSw; (try dsimp only at hSw); go_simp; (try with_reducible rfl))
          try simp only [Act.put, List.setIfInBounds_toArray, List.set_cons_zero, List.set_cons_succ, List.getElem_toArray, List.getElem_cons_zero, List.getElem_cons_succ]
          refine wpN_pick [2, 4] (by kernel_rfl) (by simp) (pick_two ?_ ?_)
          · refine wpOp_step (i := 2) rfl (fun K hK => ?_)
            have hK := Lib.hid hK
            try simp only [Act.put, List.setIfInBounds_toArray, List.set_cons_zero, List.set_cons_succ, List.getElem_toArray, List.getElem_cons_zero, List.getElem_cons_succ]
            go_simp
            refine (calls_rf (clip_d path) (F := F) (vs := [.slice va n1 vc]) ⟨Hp.out.keep (fun _ h => h) ((bW.keep' (Keep.refl _ _) (fun _ _ _ _ => trivial)).below ((Below.refl V.heap.size V).drew)), trivial⟩).mono ?_
            rintro e W2 ⟨v2, rfl, hb2, hv2⟩
            have b2 : Below V.heap.size V W2 := (Below.refl _ _).drew.trans hb2
            have hS : (W2).cell? ⟨wr.heap.size, 0, none⟩ = some (.slice (PA k) (PN k) (PC k)) ∧ (W2).cell? ⟨wr.heap.size, 1, none⟩ = some (.int .i64 (Kd k)) ∧ (W2).cell? ⟨wr.heap.size, 2, none⟩ = some (.int .i64 (Ix k)) ∧ (W2).cell? ⟨wr.heap.size, 3, none⟩ = some (.slice (A k) (N' k) (C k)) := ⟨(yV.below b2).cell rfl, (yV.below b2).cell rfl, (yV.below b2).cell rfl, (yV.below b2).cell rfl⟩
            refine hK.out _ _ ⟨fun _ => hS, ?_⟩
            try simp only [Act.put, List.setIfInBounds_toArray, List.set_cons_zero, List.set_cons_succ, List.getElem_toArray, List.getElem_cons_zero, List.getElem_cons_succ]
            refine wpN_step (i := 4) (by kernel_rfl) rfl (fun K hK => ?_)
            go_simp
            obtain ⟨W3, hW3⟩ : ∃ W3, W2.alloc (.cells #[.int .i64 (k : Int)] 3) = W3 := ⟨_, rfl⟩
            have b23 : Below W2.heap.size W2 W3 := by rw [← hW3]; exact (Below.refl _ _).alloc (Nat.le_refl _) _
            have b3 : Below V.heap.size V W3 := b2.trans (b23.mono b2.size)
            have y3 : Blk W3 W2.heap.size #[.int .i64 (k : Int)] 3 := by rw [← hW3]; exact Blk.new _ _ _ rfl
            try rw [hW3]
            have hS : (W3).cell? ⟨wr.heap.size, 0, none⟩ = some (.slice (PA k) (PN k) (PC k)) ∧ (W3).cell? ⟨wr.heap.size, 1, none⟩ = some (.int .i64 (Kd k)) ∧ (W3).cell? ⟨wr.heap.size, 2, none⟩ = some (.int .i64 (Ix k)) ∧ (W3).cell? ⟨wr.heap.size, 3, none⟩ = some (.slice (A k) (N' k) (C k)) := ⟨(yV.below b3).cell rfl, (yV.below b3).cell rfl, (yV.below b3).cell rfl, (yV.below b3).cell rfl⟩
            refine hK.out _ _ (fun _ => hS) ?_
            clear hK K
            try simp only [Act.put, List.setIfInBounds_toArray, List.set_cons_zero, List.set_cons_succ, List.getElem_toArray, List.getElem_cons_zero, List.getElem_cons_succ]
            have hv3 := hv2.bel b23
            have hi3 : RF (fun q => F q ∨ V.drew.heap.size ≤ q) W3 (.slice (some ⟨W2.heap.size, 0, none⟩) 1 1) (.sl 1 (eIs [(k : Int)]) none) := rf_one y3 (.inr (by have := b2.size; exact this))
            obtain ⟨v3, W5, happ, hb5, hv5⟩ := app_rf hv3 hi3 (by have := Hn1.out; have := Hd.out; omega) 43
            have b5 : Below V.heap.size V W5 := b3.trans (hb5.mono b3.size)
            obtain ⟨a5, c5, hv3e⟩ := rf_ints hv5
            obtain ⟨n5, hn5⟩ : ∃ x, (path ++ [(k : Int)]).length = x := ⟨_, rfl⟩
            have Hn5 := Lib.hid hn5
            rw [hn5] at hv3e
            subst hv3e
            clear hn5
            have Hv5 : Hid (RF F W5 (.slice a5 n5 c5) (.sl 1 (eIs (path ++ [(k : Int)])) none)) := hv5.keep (fun q h => by
              rcases h with (h | h) | h
              · exact h
              · exact HF.out q (by have h' : V.heap.size ≤ q := h; have := bW.size; omega)
              · exact HF.out q (by have := bW.size; have := b3.size; omega)) (Keep.refl _ _)
            clear hv5 hv3 hi3 hv2
            refine wpN_step (i := 5) (by kernel_rfl) rfl (fun K hK => ?_)
            rw [if_pos (by rfl)]
            refine oper_append (.tmp 26) (.tmp 28) 43 43 _ rfl happ ?_
            clear happ
            have hS : (W5).cell? ⟨wr.heap.size, 0, none⟩ = some (.slice (PA k) (PN k) (PC k)) ∧ (W5).cell? ⟨wr.heap.size, 1, none⟩ = some (.int .i64 (Kd k)) ∧ (W5).cell? ⟨wr.heap.size, 2, none⟩ = some (.int .i64 (Ix k)) ∧ (W5).cell? ⟨wr.heap.size, 3, none⟩ = some (.slice (A k) (N' k) (C k)) := ⟨(yV.below b5).cell rfl, (yV.below b5).cell rfl, (yV.below b5).cell rfl, (yV.below b5).cell rfl⟩
            refine hK.out _ _ (fun _ => hS) ?_
            clear hK K
            try simp only [Act.put, List.setIfInBounds_toArray, List.set_cons_zero, List.set_cons_succ, List.getElem_toArray, List.getElem_cons_zero, List.getElem_cons_succ]
            refine wpN_step (i := 7) (by kernel_rfl) rfl (fun K hK => ?_)
            go_simp
            refine (HDN.out W5 b5 a5 n5 c5 Hn5.out Hv5.out).mono ?_
            rintro e W6 (⟨rfl, hk6, ys, hys, hJ6⟩ | ⟨rfl, hk6, ys, hys, hx6⟩)
            · have HJ6 := Lib.hid hJ6; have Hys := Lib.hid hys; have Hk6 := Lib.hid hk6
              clear hJ6 hys hk6
              have y6 := Hk6.out.blk (yV.below b5) trivial
              have hS : (W6).cell? ⟨wr.heap.size, 0, none⟩ = some (.slice (PA k) (PN k) (PC k)) ∧ (W6).cell? ⟨wr.heap.size, 1, none⟩ = some (.int .i64 (Kd k)) ∧ (W6).cell? ⟨wr.heap.size, 2, none⟩ = some (.int .i64 (Ix k)) ∧ (W6).cell? ⟨wr.heap.size, 3, none⟩ = some (.slice (A k) (N' k) (C k)) := ⟨y6.cell rfl, y6.cell rfl, y6.cell rfl, y6.cell rfl⟩
              refine hK.out _ _ (fun _ => hS) ?_
              clear hK K
              try simp only [Act.put, List.setIfInBounds_toArray, List.set_cons_zero, List.set_cons_succ, List.getElem_toArray, List.getElem_cons_zero, List.getElem_cons_succ]
              refine wpN_step (i := 8) (by kernel_rfl) rfl (fun K hK => ?_)
              go_simp
              refine hK.out _ _ (fun _ => hS) ?_
              clear hK K
              try simp only [Act.put, List.setIfInBounds_toArray, List.set_cons_zero, List.set_cons_succ, List.getElem_toArray, List.getElem_cons_zero, List.getElem_cons_succ]
              refine wpN_done (by kernel_rfl) ?_
              refine OnlyN.normal ?_
              rw [HQ2.out]
              exact ⟨rfl, _, _, _, true, rfl, .inl ⟨rfl, (KeepC.of_below b5).trans Hk6.out, ys, Hys.out, HJ6.out⟩⟩
            · have HJ6 := Lib.hid hx6; have Hys := Lib.hid hys; have Hk6 := Lib.hid hk6
              clear hx6 hys hk6
              have y6 := Hk6.out.blk (yV.below b5) (by have := bW.size; have := Hkr.out.size; show B0 ≤ wr.heap.size; omega)
              have hS : (W6).cell? ⟨wr.heap.size, 0, none⟩ = some (.slice (PA k) (PN k) (PC k)) ∧ (W6).cell? ⟨wr.heap.size, 1, none⟩ = some (.int .i64 (Kd k)) ∧ (W6).cell? ⟨wr.heap.size, 2, none⟩ = some (.int .i64 (Ix k)) ∧ (W6).cell? ⟨wr.heap.size, 3, none⟩ = some (.slice (A k) (N' k) (C k)) := ⟨y6.cell rfl, y6.cell rfl, y6.cell rfl, y6.cell rfl⟩
              refine hK.out _ _ (fun _ => hS) ?_
              clear hK K
              try simp only [Act.put, List.setIfInBounds_toArray, List.set_cons_zero, List.set_cons_succ, List.getElem_toArray, List.getElem_cons_zero, List.getElem_cons_succ]
              refine wpN_step (i := 8) (by kernel_rfl) rfl (fun K hK => ?_)
              go_simp
              refine hK.out _ _ (fun _ => hS) ?_
              clear hK K
              try simp only [Act.put, List.setIfInBounds_toArray, List.set_cons_zero, List.set_cons_succ, List.getElem_toArray, List.getElem_cons_zero, List.getElem_cons_succ]
              refine wpN_done (by kernel_rfl) ?_
              refine OnlyN.normal ?_
              rw [HQ2.out]
              exact ⟨rfl, _, _, _, false, rfl, .inr ⟨rfl, ((KeepC.of_below b5).lower (fun _ _ _ => trivial)).trans Hk6.out, ys, Hys.out, HJ6.out⟩⟩
          · refine wpOp_step (i := 4) rfl (fun K hK => ?_)
            have hK := Lib.hid hK
            try simp only [Act.put, List.setIfInBounds_toArray, List.set_cons_zero, List.set_cons_succ, List.getElem_toArray, List.getElem_cons_zero, List.getElem_cons_succ]
            go_simp
            obtain ⟨W1', hW1'⟩ : ∃ W3, (V.alloc (.cells #[.int .i64 (k : Int)] 3)).drew = W3 := ⟨_, rfl⟩
            have b1' : Below V.heap.size V W1' := by rw [← hW1']; exact ((Below.refl _ _).alloc (Nat.le_refl _) _).drew
            have y1' : Blk W1' V.heap.size #[.int .i64 (k : Int)] 3 := by rw [← hW1']; exact (Blk.new _ _ _ rfl).drew
            try rw [hW1']
            have hS : (W1').cell? ⟨wr.heap.size, 0, none⟩ = some (.slice (PA k) (PN k) (PC k)) ∧ (W1').cell? ⟨wr.heap.size, 1, none⟩ = some (.int .i64 (Kd k)) ∧ (W1').cell? ⟨wr.heap.size, 2, none⟩ = some (.int .i64 (Ix k)) ∧ (W1').cell? ⟨wr.heap.size, 3, none⟩ = some (.slice (A k) (N' k) (C k)) := ⟨(yV.below b1').cell rfl, (yV.below b1').cell rfl, (yV.below b1').cell rfl, (yV.below b1').cell rfl⟩
            refine hK.out _ _ ⟨fun _ => hS, ?_⟩
            try simp only [Act.put, List.setIfInBounds_toArray, List.set_cons_zero, List.set_cons_succ, List.getElem_toArray, List.getElem_cons_zero, List.getElem_cons_succ]
            refine wpN_step (i := 2) (by kernel_rfl) rfl (fun K hK => ?_)
            go_simp
            refine (calls_rf (clip_d path) (F := F) (vs := [.slice va n1 vc]) ⟨Hp.out.keep (fun _ h => h) ((bW.keep' (Keep.refl _ _) (fun _ _ _ _ => trivial)).below b1'), trivial⟩).mono ?_
            rintro e W2 ⟨v2, rfl, hb2, hv2⟩
            have b3 : Below V.heap.size V W2 := b1'.trans (hb2.mono b1'.size)
            have hS : (W2).cell? ⟨wr.heap.size, 0, none⟩ = some (.slice (PA k) (PN k) (PC k)) ∧ (W2).cell? ⟨wr.heap.size, 1, none⟩ = some (.int .i64 (Kd k)) ∧ (W2).cell? ⟨wr.heap.size, 2, none⟩ = some (.int .i64 (Ix k)) ∧ (W2).cell? ⟨wr.heap.size, 3, none⟩ = some (.slice (A k) (N' k) (C k)) := ⟨(yV.below b3).cell rfl, (yV.below b3).cell rfl, (yV.below b3).cell rfl, (yV.below b3).cell rfl⟩
            refine hK.out _ _ (fun _ => hS) ?_
            clear hK K
            try simp only [Act.put, List.setIfInBounds_toArray, List.set_cons_zero, List.set_cons_succ, List.getElem_toArray, List.getElem_cons_zero, List.getElem_cons_succ]
            obtain ⟨W3, hW3⟩ : ∃ W3, W2 = W3 := ⟨_, rfl⟩
            rw [hW3] at b3 hv2 hb2 ⊢
            have hv3 : RF (fun q => F q ∨ V.drew.heap.size ≤ q) W3 v2 (.cl 1 (eIs path)) := hv2.keep (fun q h => h.imp id fun h => by have h' : W1'.heap.size ≤ q := h; have := b1'.size; exact Nat.le_trans this h') (Keep.refl _ _)
            have hi3 : RF (fun q => F q ∨ V.drew.heap.size ≤ q) W3 (.slice (some ⟨V.heap.size, 0, none⟩) 1 1) (.sl 1 (eIs [(k : Int)]) none) := rf_one (y1'.below hb2) (.inr (Nat.le_refl _))
            obtain ⟨v3, W5, happ, hb5, hv5⟩ := app_rf hv3 hi3 (by have := Hn1.out; have := Hd.out; omega) 43
            have b5 : Below V.heap.size V W5 := b3.trans (hb5.mono b3.size)
            obtain ⟨a5, c5, hv3e⟩ := rf_ints hv5
            obtain ⟨n5, hn5⟩ : ∃ x, (path ++ [(k : Int)]).length = x := ⟨_, rfl⟩
            have Hn5 := Lib.hid hn5
            rw [hn5] at hv3e
            subst hv3e
            clear hn5
            have Hv5 : Hid (RF F W5 (.slice a5 n5 c5) (.sl 1 (eIs (path ++ [(k : Int)])) none)) := hv5.keep (fun q h => by
              rcases h with (h | h) | h
              · exact h
              · exact HF.out q (by have h' : V.heap.size ≤ q := h; have := bW.size; omega)
              · exact HF.out q (by have := bW.size; have := b3.size; omega)) (Keep.refl _ _)
            clear hv5 hv3 hi3 hv2
            refine wpN_step (i := 5) (by kernel_rfl) rfl (fun K hK => ?_)
            rw [if_pos (by rfl)]
            refine oper_append (.tmp 26) (.tmp 28) 43 43 _ rfl happ ?_
            clear happ
            have hS : (W5).cell? ⟨wr.heap.size, 0, none⟩ = some (.slice (PA k) (PN k) (PC k)) ∧ (W5).cell? ⟨wr.heap.size, 1, none⟩ = some (.int .i64 (Kd k)) ∧ (W5).cell? ⟨wr.heap.size, 2, none⟩ = some (.int .i64 (Ix k)) ∧ (W5).cell? ⟨wr.heap.size, 3, none⟩ = some (.slice (A k) (N' k) (C k)) := ⟨(yV.below b5).cell rfl, (yV.below b5).cell rfl, (yV.below b5).cell rfl, (yV.below b5).cell rfl⟩
            refine hK.out _ _ (fun _ => hS) ?_
            clear hK K
            try simp only [Act.put, List.setIfInBounds_toArray, List.set_cons_zero, List.set_cons_succ, List.getElem_toArray, List.getElem_cons_zero, List.getElem_cons_succ]
            refine wpN_step (i := 7) (by kernel_rfl) rfl (fun K hK => ?_)
            go_simp
            refine (HDN.out W5 b5 a5 n5 c5 Hn5.out Hv5.out).mono ?_
            rintro e W6 (⟨rfl, hk6, ys, hys, hJ6⟩ | ⟨rfl, hk6, ys, hys, hx6⟩)
            · have HJ6 := Lib.hid hJ6; have Hys := Lib.hid hys; have Hk6 := Lib.hid hk6
              clear hJ6 hys hk6
              have y6 := Hk6.out.blk (yV.below b5) trivial
              have hS : (W6).cell? ⟨wr.heap.size, 0, none⟩ = some (.slice (PA k) (PN k) (PC k)) ∧ (W6).cell? ⟨wr.heap.size, 1, none⟩ = some (.int .i64 (Kd k)) ∧ (W6).cell? ⟨wr.heap.size, 2, none⟩ = some (.int .i64 (Ix k)) ∧ (W6).cell? ⟨wr.heap.size, 3, none⟩ = some (.slice (A k) (N' k) (C k)) := ⟨y6.cell rfl, y6.cell rfl, y6.cell rfl, y6.cell rfl⟩
              refine hK.out _ _ (fun _ => hS) ?_
              clear hK K
              try simp only [Act.put, List.setIfInBounds_toArray, List.set_cons_zero, List.set_cons_succ, List.getElem_toArray, List.getElem_cons_zero, List.getElem_cons_succ]
              refine wpN_step (i := 8) (by kernel_rfl) rfl (fun K hK => ?_)
              go_simp
              refine hK.out _ _ (fun _ => hS) ?_
              clear hK K
              try simp only [Act.put, List.setIfInBounds_toArray, List.set_cons_zero, List.set_cons_succ, List.getElem_toArray, List.getElem_cons_zero, List.getElem_cons_succ]
              refine wpN_done (by kernel_rfl) ?_
              refine OnlyN.normal ?_
              rw [HQ2.out]
              exact ⟨rfl, _, _, _, true, rfl, .inl ⟨rfl, (KeepC.of_below b5).trans Hk6.out, ys, Hys.out, HJ6.out⟩⟩
            · have HJ6 := Lib.hid hx6; have Hys := Lib.hid hys; have Hk6 := Lib.hid hk6
              clear hx6 hys hk6
              have y6 := Hk6.out.blk (yV.below b5) (by have := bW.size; have := Hkr.out.size; show B0 ≤ wr.heap.size; omega)
              have hS : (W6).cell? ⟨wr.heap.size, 0, none⟩ = some (.slice (PA k) (PN k) (PC k)) ∧ (W6).cell? ⟨wr.heap.size, 1, none⟩ = some (.int .i64 (Kd k)) ∧ (W6).cell? ⟨wr.heap.size, 2, none⟩ = some (.int .i64 (Ix k)) ∧ (W6).cell? ⟨wr.heap.size, 3, none⟩ = some (.slice (A k) (N' k) (C k)) := ⟨y6.cell rfl, y6.cell rfl, y6.cell rfl, y6.cell rfl⟩
              refine hK.out _ _ (fun _ => hS) ?_
              clear hK K
              try simp only [Act.put, List.setIfInBounds_toArray, List.set_cons_zero, List.set_cons_succ, List.getElem_toArray, List.getElem_cons_zero, List.getElem_cons_succ]
              refine wpN_step (i := 8) (by kernel_rfl) rfl (fun K hK => ?_)
              go_simp
              refine hK.out _ _ (fun _ => hS) ?_
              clear hK K
              try simp only [Act.put, List.setIfInBounds_toArray, List.set_cons_zero, List.set_cons_succ, List.getElem_toArray, List.getElem_cons_zero, List.getElem_cons_succ]
              refine wpN_done (by kernel_rfl) ?_
              refine OnlyN.normal ?_
              rw [HQ2.out]
              exact ⟨rfl, _, _, _, false, rfl, .inr ⟨rfl, ((KeepC.of_below b5).lower (fun _ _ _ => trivial)).trans Hk6.out, ys, Hys.out, HJ6.out⟩⟩
        · rintro e a' W6 hq
          rw [HQ2.out] at hq
          obtain ⟨rfl, p26, p28, p29, bb, rfl, hq⟩ := hq
          clear HQ2 HDN
          rcases hq with ⟨rfl, hk6, ys, hys, hJ6⟩ | ⟨rfl, hk6, ys, hys, hx6⟩
          · have HJ6 := Lib.hid hJ6; have Hys := Lib.hid hys; have Hk6 := Lib.hid hk6
            clear hJ6 hys hk6
            simp only [Bool.not_true]
            gi_wp2_with fail
            go_roundw
            case rel => exact ⟨k + 1, xs ++ ys, by go_num, by omega, by show _ = _; rw [List.map_append, hxs.out, Hys.out, Pn.subss_take _ _ _ _ hka, hsub], by rw [← List.append_assoc]; exact HJ6.out, bW.trans Hk6.out⟩
            case measure => simp [intOf]; omega
          · have Hx6 := Lib.hid hx6; have Hys := Lib.hid hys; have Hk6 := Lib.hid hk6
            clear hx6 hys hk6
            gi_wp2_with fail
            go_ret
            refine .inr ⟨rfl, (bW.lower (fun _ _ _ => trivial)).trans Hk6.out, X :: (xs ++ ys), ?_, by simpa using Hx6.out⟩
            obtain ⟨r, hr⟩ := Hys.out
            obtain ⟨q, hq⟩ := Pn.subss_pre (ar ++ binds) path args (k + 1)
            refine ⟨r ++ q, ?_⟩
            rw [Pn.subs_eq, List.map_cons, List.map_append, HX.out, List.cons_append, ← hq, Pn.subss_take _ _ _ _ hka, hsub, ← hr, ← hxs.out]
            simp
      · gi_wp2_with fail
        go_ret
        refine .inl ⟨rfl, Hkr.out, X :: xs, ?_, by simpa using HJr.out⟩
        have h := hxs.out
        rw [List.take_of_length_le (by have := Hn3.out; omega)] at h
        rw [Pn.subs_eq, List.map_cons, HX.out, h]
end Go.Proofs.Ytcblpjheoclkeaa

namespace Go.Proofs.Ytcblpjheoclkeaa
open Go.RowKit Go.Shelf
attribute [local go_sem] Oper.semAt_some

def TBD_34 : TI := ⟨4, true, [Value.slice none 0 0, Value.int IntKind.i64 0, Value.int IntKind.i64 0, Value.slice none 0 0], [(0, 1, false), (1, 2, true), (3, 1, false)], none, 64, 6, none, false⟩
theorem TBD_34_ok : TypOk Try.prog 34 TBD_34 := ⟨by kernel_rfl, by kernel_rfl, by kernel_rfl, by kernel_rfl, by kernel_rfl⟩
def TBD_30 : TI := ⟨1, false, [Value.slice none 0 0], [], some 83, 24, 5, none, false⟩
theorem TBD_30_ok : TypOk Try.prog 30 TBD_30 := ⟨by kernel_rfl, by kernel_rfl, by kernel_rfl, by kernel_rfl, by kernel_rfl⟩
def TBD_83 : TI := ⟨2, true, [Value.slice none 0 0, Value.int IntKind.i64 0], [(0, 1, false), (1, 1, false)], none, 32, 6, none, false⟩
theorem TBD_83_ok : TypOk Try.prog 83 TBD_83 := ⟨by kernel_rfl, by kernel_rfl, by kernel_rfl, by kernel_rfl, by kernel_rfl⟩
def TBD : List (Nat × TI) := [(34, TBD_34), (30, TBD_30), (83, TBD_83)]
theorem TBD_ok : TabOk Try.prog TBD := ((((TabOk.nil _).cons TBD_83_ok).cons TBD_30_ok).cons TBD_34_ok)
theorem body_d (t : Tm) (hsz : t.full ≤ 80000) (hfit : t.Fit) : PureC Try.prog 55 [.ag (eTm t)] (.ag (eTm (Pn.nb t))) := by
 have h := copy_d t hsz hfit
 rw [eTm_eq] at h ⊢
 rw [show eTm (Pn.nb t) = [.sl 2 [] none, .v (.int .i64 t.kind), .v (.int .i64 t.index), .sl 4 (eTms t.args) none] by rw [eTm_eq]; rfl]
 refine calldw 0 8 [ResultVar.cell 2 34] TBD_ok Try.func55 rfl Try.ntmps55 rfl fun cx hnt hn0 => ?_
 ·skip
  refine dw_seq ?_; refine dwk [] TBD_ok hnt fun K hK => ?_; refine hK _ _ ?_; clear hK K; refine dw_seq ?_; refine dwk [] TBD_ok hnt fun K hK => ?_; refine dcl (h) ?_; refine hK _ _ ?_; clear hK K; refine dw_seq ?_; refine dwk [] TBD_ok hnt fun K hK => ?_; refine hK _ _ ?_; clear hK K; refine dw_seq ?_; refine dwk [] TBD_ok hnt fun K hK => ?_; refine hK _ _ ?_; clear hK K; refine dw_ret ?_
  exact reta rfl
theorem seach_k (b k i a : Value) (n : Nat) (w : World) (hs : ∃ p m c, b = .slice p m c) (hk : ∃ x, k = .int .i64 x) (hi : ∃ x, i = .int .i64 x) (ha : ∃ p m c, a = .slice p m c) :
    CallsIn Fence.wide n Try.prog 54 #[.agg #[b, k, i, a]] w fun e w' => e = .returned (.func (.func 93) #[] #[.pointer (some ⟨w.heap.size, 0, none⟩)]) ∧ w' = w.alloc (.cells #[b, k, i, a] 34) := by
  obtain ⟨pb, mb, cb, rfl⟩ := hs
  obtain ⟨kx, rfl⟩ := hk
  obtain ⟨ix, rfl⟩ := hi
  obtain ⟨pa, ma, ca, rfl⟩ := ha
  refine callsIn_of_wp Try.func54 rfl trivial ?_ rfl
  simp only [Try.ntmps54, List.size_toArray, List.length_cons, List.length_nil, Nat.reduceAdd, Nat.reduceSub, Array.replicate_succ, Array.replicate_zero, List.push_toArray, List.append_toArray, List.nil_append, List.cons_append]
  gi_wp2_with fail
  go_ret
  exact ⟨rfl, rfl⟩
theorem rf_nil (F : Nat → Prop) (w : World) (n : Nat) : RF F w (.slice none 0 0) (.sl n [] none) :=
  .sl none 0 0 0 n (fun _ _ => undef) [] none ⟨Nat.zero_le _, Nat.le_refl _⟩ (fun h => absurd h (by simp)) (fun i j h => absurd h (by simp)) (fun i h => absurd h (by simp)) (fun i j h => absurd h (by simp)) (fun i h => absurd h (by simp)) (fun r e => by cases e)
theorem seach1_k (F : Nat → Prop) (Y : Nat → Nat → Prop) (Q0 : Pn.Spot → Prop) (l B0 : Nat) (hF : ∀ k, B0 ≤ k → F k) (hYB : ∀ k o, B0 ≤ k → Y k o) (J Jx : List HitS → World → Prop) {B1 : Nat} (hJ : Mild NoCell B1 J)
    {b k i a : Value} {t : Tm} (hz : t.full ≤ 40000) (hfit : t.Fit) (n : Nat) (W : World)
    (hY : ∀ pre x V, J pre V → x.R F Y Q0 V → pre.length < t.size → YieldAt Fence.wide (n - 1) Try.prog l (HitS.enc x) V fun e W' =>
      (e = .returned (.bool true) ∧ J (pre ++ [x]) W' ∧ KeepC AllC V W') ∨ (e = .returned (.bool false) ∧ Jx (pre ++ [x]) W' ∧ KeepC (FromC B0) V W'))
    (hQs : ∀ s ∈ Pn.subs t [] [], Q0 s) {F1 : Nat → Prop} (ht : IsTm F1 W b k i a t) (hyt : RX Y W (.agg #[b, k, i, a]) (.ag (eTm t))) (hB0 : B0 ≤ W.heap.size) (Bt : Nat) (c0 : W.cell? ⟨Bt, 0, none⟩ = some b) (c1 : W.cell? ⟨Bt, 1, none⟩ = some k) (c2 : W.cell? ⟨Bt, 2, none⟩ = some i) (c3 : W.cell? ⟨Bt, 3, none⟩ = some a) (h0 : J [] W) :
    CallsIn Fence.wide n Try.prog 93 #[.func (.yield l) #[] #[], .pointer (some ⟨Bt, 0, none⟩)] W fun e W' => (∃ v, e = .returned v) ∧
      ((∃ ys, ys.map HitS.s = Pn.subs t [] [] ∧ J ys W') ∨ (∃ pre, pre.map HitS.s <+: Pn.subs t [] [] ∧ Jx pre W')) := by
  have hdd : ∀ k : Nat, (Fence.wide.depth.isSome = true → 1 ≤ k) := fun k h => by cases h
  have hf := Tm.size_le_full t
  have hdp := Tm.depth_le_size t
  have hp := Lib.hid (sdown_k F Y Q0 l t.size B0 hF hYB J Jx hJ (fun m pre x V hj hr hl => yield_any rfl m (hY pre x V hj hr hl)) t (by omega) hfit [] [] none 0 (n - 1) [] W hQs ht hyt (rf_nil F W 1) hB0 h0 (by simp) (by simp; omega))
  clear hY
  obtain ⟨pa, pc, qa, qc, rfl, rfl, rfl, rfl⟩ := ht.shape
  refine callsIn_of_wp Try.func93 rfl trivial ?_ rfl
  simp only [Try.ntmps93, List.size_toArray, List.length_cons, List.length_nil, Nat.reduceAdd, Nat.reduceSub, Array.replicate_succ, Array.replicate_zero, List.push_toArray, List.append_toArray, List.nil_append, List.cons_append]
  gi_wp2_with fail
  refine ⟨trivial, hdd _, hp.out.mono ?_⟩
  rintro e W1 (⟨rfl, hk, ys, hys, hJ1⟩ | ⟨rfl, hk, ys, hys, hx⟩)
  · have A1 := Lib.hid hys; clear hys
    gi_wp2_with fail
    go_end0
    exact ⟨⟨_, rfl⟩, .inl ⟨ys, A1.out, by simpa using hJ1⟩⟩
  · have A1 := Lib.hid hys; clear hys
    gi_wp2_with fail
    go_end0
    exact ⟨⟨_, rfl⟩, .inr ⟨ys, A1.out, by simpa using hx⟩⟩
theorem seach_soft (F : Nat → Prop) (Y : Nat → Nat → Prop) (Q0 : Pn.Spot → Prop) (B0 : Nat) (hF : ∀ k, B0 ≤ k → F k) (hYB : ∀ k o, B0 ≤ k → Y k o) {b k i a : Value} {t : Tm} (hz : t.full ≤ 40000) (hfit : t.Fit) (n : Nat) (w : World) (hQs : ∀ s ∈ Pn.subs t [] [], Q0 s) {F1 : Nat → Prop} (ht : IsTm F1 w b k i a t) (hyt : RX Y w (.agg #[b, k, i, a]) (.ag (eTm t))) (hB0 : B0 ≤ w.heap.size) (Bt : Nat) (hB : Blk w Bt #[b, k, i, a] 34) :
    SeqSoftR NoCell Fence.wide n Try.prog 93 #[.pointer (some ⟨Bt, 0, none⟩)] HitS.enc (HitS.R F Y Q0) (KeepC AllC) (KeepC (FromC B0)) (fun ys => ys.map HitS.s = Pn.subs t [] []) (fun p => p.map HitS.s <+: Pn.subs t [] []) t.size w :=
  fun l J Jx W hW hJ _ hY h0 => by
    have hB' := hB.below hW
    exact seach1_k F Y Q0 l B0 hF hYB J Jx hJ hz hfit n W hY hQs (ht.bel hW) (hyt.keep (fun _ _ h => h) (fun b o v _ hv => (hW.cell (p := ⟨b, o, none⟩) (Keep.lt hv)).trans hv)) (Nat.le_trans hB0 hW.size) Bt (hB'.cell rfl) (hB'.cell rfl) (hB'.cell rfl) (hB'.cell rfl) h0

/-! match.Find -/
theorem cell_soft {W W' : World} {row : Option Nat} (hg : W.grownBy W' row) (hr : ∀ r, row = some r → ∃ o : Obj, W.heap[r]? = some o ∧ NoCell o) {p : Addr} {v : Value} (h : W.cell? p = some v) : W'.cell? p = some v :=
  cell_kept h hg fun r e => hr r e
theorem blk_soft {W W' : World} {row : Option Nat} (hg : W.grownBy W' row) (hr : ∀ r, row = some r → ∃ o : Obj, W.heap[r]? = some o ∧ NoCell o) {n : Nat} {cs : Array Value} {T : TypeId} (h : Blk W n cs T) : Blk W' n cs T :=
  h.grown hg fun e => by
    obtain ⟨o, ho, h'⟩ := hr _ e
    have hb : W.heap[n]? = _ := h
    rw [hb] at ho; cases ho
    simp [NoCell, Obj.isCells] at h'
end Go.Proofs.Ytcblpjheoclkeaa

namespace Go.Proofs.Ytcblpjheoclkeaa
open Go.RowKit Go.Shelf
attribute [local go_sem] Oper.semAt_some

def FindPost (X : Nat → Nat → Prop) (w : World) (r : List Int × List (Int × Tm) × Int) (e : Ending) (w' : World) : Prop :=
  ∃ v1 v2, e = .returned (.tuple #[v1, v2, .int .i64 r.2.2]) ∧ Below w.heap.size w w' ∧ RX (fun b o => X b o ∨ w.heap.size ≤ b) w' v1 (.sl 1 (eIs r.1) none) ∧ RX (fun b o => X b o ∨ w.heap.size ≤ b) w' v2 (.sl 5 (ePairs r.2.1) none)
theorem rx_nil (X : Nat → Nat → Prop) (w : World) (n : Nat) : RX X w (.slice none 0 0) (.sl n [] none) :=
  .sl none 0 0 0 n (fun _ _ => undef) [] none ⟨Nat.zero_le _, Nat.le_refl _⟩ (fun h => absurd h (by simp)) (fun i j h => absurd h (by simp)) (fun i h => absurd h (by simp)) (fun i j h => absurd h (by simp)) (fun i h => absurd h (by simp)) (fun r e => by cases e)
theorem rx_v {X : Nat → Nat → Prop} {w : World} {v x : Value} (h : RX X w v (.v x)) : v = x := rel_v.1 h
set_option maxRecDepth 100000 in
set_option maxHeartbeats 2000000 in
theorem find_k {X : Nat → Nat → Prop} {w : World} {F1 F2 : Nat → Prop} {pb pk pi pa tb tk ti ta : Value} {p t : Tm} (hp : IsTm F1 w pb pk pi pa p) (ht : IsTm F2 w tb tk ti ta t) (hxp : RX X w (.agg #[pb, pk, pi, pa]) (.ag (eTm p))) (hxt : RX X w (.agg #[tb, tk, ti, ta]) (.ag (eTm t)))
    (hX : ∀ b o, X b o → b < w.heap.size) (h1 : p.full ≤ 250 ∧ p.Fit) (h2 : t.full ≤ 10000 ∧ lowB t = true ∧ t.Fit) :
    Calls Try.prog 18 #[.agg #[pb, pk, pi, pa], .agg #[tb, tk, ti, ta]] w (FindPost X w (Pn.fnd p t)) := by
  refine (callsIn_wide (n := 9)).1 ?_
  have Hxp := Lib.hid hxp; clear hxp
  have Hxt := Lib.hid hxt; clear hxt
  have Ht := Lib.hid (ht.weaken (F' := fun _ => True) fun _ _ _ => trivial)
  have hpl : p.binds.length ≤ 9000000 := by have := Ty.le_sizes p.binds; have := h1.1; obtain ⟨b, k, i, a⟩ := p; rw [Tm.full_eq] at this; simp only [Tm.binds] at *; omega
  have H1 := Lib.hid h1; clear h1
  have H2 := Lib.hid h2; clear h2
  have HX := Lib.hid hX; clear hX
  obtain ⟨p1, p2, p3, p4, rfl, rfl, rfl, rfl⟩ := hp.shape
  obtain ⟨t1, t2, t3, t4, rfl, rfl, rfl, rfl⟩ := ht.shape
  clear ht hp
  obtain ⟨x1, hx1⟩ : ∃ x, p.binds.length = x := ⟨_, rfl⟩
  obtain ⟨x2, hx2⟩ : ∃ x, p.args.length = x := ⟨_, rfl⟩
  obtain ⟨x3, hx3⟩ : ∃ x, p.kind = x := ⟨_, rfl⟩
  obtain ⟨x4, hx4⟩ : ∃ x, p.index = x := ⟨_, rfl⟩
  rw [hx1, hx2, hx3, hx4] at Hxp ⊢
  rw [hx1] at hpl
  have Hx1 := Lib.hid hx1
  clear hx1 hx2 hx3 hx4
  obtain ⟨z1, hz1⟩ : ∃ x, t.binds.length = x := ⟨_, rfl⟩
  obtain ⟨z2, hz2⟩ : ∃ x, t.args.length = x := ⟨_, rfl⟩
  obtain ⟨z3, hz3⟩ : ∃ x, t.kind = x := ⟨_, rfl⟩
  obtain ⟨z4, hz4⟩ : ∃ x, t.index = x := ⟨_, rfl⟩
  rw [hz1, hz2, hz3, hz4] at Ht Hxt ⊢
  clear hz1 hz2 hz3 hz4
  obtain ⟨r, hr⟩ : ∃ r, Pn.fnd p t = r := ⟨_, rfl⟩
  rw [hr]
  have Hr := Lib.hid hr; clear hr
  refine callsIn_of_wp_marks Try.func18 rfl trivial ?_ rfl
  simp only [Try.ntmps18, List.size_toArray, List.length_cons, List.length_nil, Nat.reduceAdd, Nat.reduceSub, Array.replicate_succ, Array.replicate_zero, List.push_toArray, List.append_toArray, List.nil_append, List.cons_append]
  by_cases hb : (0 : Int) < (x1 : Int)
  · have Hre : r = ([], [], 1) := by
      rw [← Hr.out, Pn.fnd, if_pos]
      intro h
      have := Hx1.out
      rw [h] at this
      simp at this; omega
    gi_wp2_with fail
    refine ⟨.tuple #[.slice none 0 0, .slice none 0 0, .int .i64 1], by simp [results, Try.results18, go_sem], ?_⟩
    subst Hre
    exact ⟨_, _, rfl, (((((Below.refl _ w).alloc (Nat.le_refl _) _).alloc (by simp) _).alloc (by simp; omega) _).alloc (by simp; omega) _).alloc (by simp; omega) _, rx_nil _ _ _, rx_nil _ _ _⟩
  · obtain ⟨w5, hw5⟩ : ∃ w5, ((((w.alloc (.cells #[.slice p1 x1 p2, .int .i64 x3, .int .i64 x4, .slice p3 x2 p4] 34)).alloc (.cells #[.slice t1 z1 t2, .int .i64 z3, .int .i64 z4, .slice t3 z2 t4] 34)).alloc (.cells #[.slice none 0 0] 43)).alloc (.cells #[.slice none 0 0] 47)).alloc (.cells #[.int .i64 0] 35) = w5 := ⟨_, rfl⟩
    have B5 : Below w.heap.size w w5 := by rw [← hw5]; exact (((((Below.refl _ w).alloc (Nat.le_refl _) _).alloc (by simp) _).alloc (by simp; omega) _).alloc (by simp; omega) _).alloc (by simp; omega) _
    have hs5 : w5.heap.size = w.heap.size + 5 := by rw [← hw5]; simp
    have y0 : Blk w5 w.heap.size #[.slice p1 x1 p2, .int .i64 x3, .int .i64 x4, .slice p3 x2 p4] 34 := by rw [← hw5]; exact ((((Blk.new _ _ _ rfl).alloc _).alloc _).alloc _).alloc _
    have y1 : Blk w5 (w.heap.size + 1) #[.slice t1 z1 t2, .int .i64 z3, .int .i64 z4, .slice t3 z2 t4] 34 := by rw [← hw5]; exact (((Blk.new _ _ _ (by simp)).alloc _).alloc _).alloc _
    have y4 : Blk w5 (w.heap.size + 1 + 1) #[.slice none 0 0] 43 := by rw [← hw5]; exact ((Blk.new _ _ _ (by simp)).alloc _).alloc _
    have y5 : Blk w5 (w.heap.size + 1 + 1 + 1) #[.slice none 0 0] 47 := by rw [← hw5]; exact (Blk.new _ _ _ (by simp)).alloc _
    have y6 : Blk w5 (w.heap.size + 1 + 1 + 1 + 1) #[.int .i64 0] 35 := by rw [← hw5]; exact Blk.new _ _ _ (by simp)
    have c0 : w5.cell? ⟨w.heap.size, 0, none⟩ = some (.slice p1 x1 p2) := y0.cell rfl
    have c1 : w5.cell? ⟨w.heap.size, 1, none⟩ = some (.int .i64 x3) := y0.cell rfl
    have c2 : w5.cell? ⟨w.heap.size, 2, none⟩ = some (.int .i64 x4) := y0.cell rfl
    have c3 : w5.cell? ⟨w.heap.size, 3, none⟩ = some (.slice p3 x2 p4) := y0.cell rfl
    gi_wp2_with fail
    try rw [hw5]
    clear hw5 c0 c1 c2 c3
    refine ⟨trivial, callsIn_wide.2 ((calls_rx (mmay_d p (by have := H1.out.1; omega) H1.out.2) (vs := [.agg #[.slice p1 x1 p2, .int .i64 x3, .int .i64 x4, .slice p3 x2 p4]]) ⟨Hxp.out.keep (fun _ _ h => h) (fun b o v hx hv => (B5.cell (p := ⟨b, o, none⟩) (HX.out b o hx)).trans hv), trivial⟩).mono ?_)⟩
    rintro e w6 ⟨v, rfl, hb6, hv⟩
    have := rx_v hv
    subst this
    clear hv
    have B6 := B5.trans (hb6.mono (by omega))
    have hs6 := hb6.size
    have y0 := y0.below hb6
    have y1 := y1.below hb6
    have y4 := y4.below hb6
    have y5 := y5.below hb6
    have y6 := y6.below hb6
    obtain ⟨e0, he0⟩ : ∃ e0, Pn.may p = e0 := ⟨_, rfl⟩
    rw [he0]
    have He0 := Lib.hid he0
    clear he0 hb6
    by_cases hm : e0 = 0
    · subst hm
      have c0 : w6.cell? ⟨w.heap.size + 1, 0, none⟩ = some (.slice t1 z1 t2) := y1.cell rfl
      have c1 : w6.cell? ⟨w.heap.size + 1, 1, none⟩ = some (.int .i64 z3) := y1.cell rfl
      have c2 : w6.cell? ⟨w.heap.size + 1, 2, none⟩ = some (.int .i64 z4) := y1.cell rfl
      have c3 : w6.cell? ⟨w.heap.size + 1, 3, none⟩ = some (.slice t3 z2 t4) := y1.cell rfl
      gi_wp2_with fail
      refine ⟨trivial, (seach_k _ _ _ _ _ _ ⟨_, _, _, rfl⟩ ⟨_, rfl⟩ ⟨_, rfl⟩ ⟨_, _, _, rfl⟩).mono ?_⟩
      rintro e w7 ⟨rfl, hw7⟩
      have b7 : Below w6.heap.size w6 w7 := by rw [hw7]; exact (Below.refl _ _).alloc (Nat.le_refl _) _
      have y7 : Blk w7 w6.heap.size #[.slice t1 z1 t2, .int .i64 z3, .int .i64 z4, .slice t3 z2 t4] 34 := by rw [hw7]; exact Blk.new _ _ _ rfl
      have hs7 : w6.heap.size < w7.heap.size := by rw [hw7]; simp
      clear hw7 c0 c1 c2 c3
      have B7 := B6.trans (b7.mono B6.size)
      have y0 := y0.below b7
      have y4 := y4.below b7
      have y5 := y5.below b7
      have y6 := y6.below b7
      clear y1
      have hHit : ∀ s ∈ Pn.subs t [] [], PureC Try.prog 16 [.ag (eTm p), .ag (eTm (Pn.nb s.1))] (.tu [.sl 5 (ePairs (Pn.mAll [(p, Pn.nb s.1)]).1) none, .v (.int .i64 (Pn.mAll [(p, Pn.nb s.1)]).2)]) ∧ s.1.full ≤ 10000 ∧ s.1.Fit := fun s hs => by
        have r2 := subs_part t [] [] H2.out.2.2 s hs
        have r3 := Pn.subs_low t H2.out.2.1 [] [] s hs
        have r4 := H2.out.1
        have r5 := r2.1
        refine ⟨mMatch_d p _ ⟨H1.out.1, H1.out.2, ?_, Pn.nb_low r3, Pn.nb_fit r2.2⟩, by omega, r2.2⟩
        have : (Pn.nb s.1).full ≤ s.1.full := by obtain ⟨⟨b, k, i, a⟩, _⟩ := s; show (Tm.mk [] k i a).full ≤ _; rw [Tm.full_eq, Tm.full_eq]; simp [Ty.sizes]
        dsimp only; omega
      have HHit := Lib.hid hHit; clear hHit
      gi_wp2_with fail
      refine range_softR (Ok := NoCell) (fun o h => h) rfl (by omega) (gf := 93) (lb := #[.pointer (some ⟨w6.heap.size, 0, none⟩)]) rfl trivial (enters_of Try.func93 (by kernel_rfl) rfl)
        (seach_soft (fun k => w7.heap.size ≤ k) (fun b o => X b o ∨ w7.heap.size ≤ b) (fun s => s ∈ Pn.subs t [] []) w7.heap.size (fun k h => h) (fun k o h => .inr h) (by have := H2.out.1; omega) H2.out.2.2 (9 - 1) w7 (fun s h => h) (Ht.out.bel B7) (Hxt.out.keep (fun _ _ h => .inl h) (fun b o v _ hv => (B7.cell (p := ⟨b, o, none⟩) (Keep.lt hv)).trans hv)) (Nat.le_refl _) w6.heap.size y7)
        (fun h h' => h.trans h') (fun h h' => (h.lower (fun _ _ _ => trivial)).trans h') (fun h h' => h.trans (h'.lower (fun _ _ _ => trivial))) (fun W l o o' _ hl ho _ => KeepC.putObj _ W l o o' hl ho) (Below.refl _ _) (fun _ => rfl)
        (fun pre W => Hid (∀ x ∈ pre, Pn.hit p x.s = false) ∧ Below w7.heap.size w7 W)
        (fun c pre W => c = .ret ∧ ∃ v1 v2, Hid (∃ pre' x, pre = pre' ++ [x] ∧ (∀ y ∈ pre', Pn.hit p y.s = false) ∧ Pn.hit p x.s = true ∧ RX (fun b o => X b o ∨ w7.heap.size ≤ b) W v1 (.sl 1 (eIs x.s.2.2) none) ∧ RX (fun b o => X b o ∨ w7.heap.size ≤ b) W v2 (.sl 5 (ePairs (Pn.mAll [(p, Pn.nb x.s.1)]).1) none)) ∧
          Blk W (w.heap.size + 1 + 1) #[v1] 43 ∧ Blk W (w.heap.size + 1 + 1 + 1) #[v2] 47 ∧ Blk W (w.heap.size + 1 + 1 + 1 + 1) #[.int .i64 0] 35 ∧ Below w.heap.size w W)
        (fun s W W' row hs hg hr => ⟨hs.1, hs.2.grown hg hs.2.size (fun k e => (hr k e).1)⟩)
        (fun c s W W' row hs hg hr => by
          obtain ⟨rfl, v1, v2, hh, q1, q2, q3, q4⟩ := hs
          obtain ⟨pre', x, e1, e2, e3, e4, e5⟩ := hh.out
          have hr' : ∀ r, row = some r → ∃ o : Obj, W.heap[r]? = some o ∧ NoCell o := fun r e => (hr r e).2
          refine ⟨rfl, v1, v2, ⟨pre', x, e1, e2, e3, e4.keep (fun _ _ h => h) (fun b o v _ hv => cell_soft hg hr' hv), e5.keep (fun _ _ h => h) (fun b o v _ hv => cell_soft hg hr' hv)⟩, blk_soft hg hr' q1, blk_soft hg hr' q2, blk_soft hg hr' q3, q4.grown hg q4.size (fun k e => by have := (hr k e).1; omega)⟩)
        ⟨fun x hx => (by cases hx), Below.refl _ _⟩
        (fun x a' W => ∃ Bx, w7.heap.size ≤ Bx ∧ Blk W Bx #[.slice x.pb x.s.1.binds.length x.cb, .int .i64 x.s.1.kind, .int .i64 x.s.1.index, .slice x.pa x.s.1.args.length x.ca] 34 ∧ HitS.R (fun k => w7.heap.size ≤ k) (fun b o => X b o ∨ w7.heap.size ≤ b) (fun s => s ∈ Pn.subs t [] []) x W ∧ a' = { tmps := #[.agg #[.slice p1 x1 p2, .int .i64 x3, .int .i64 x4, .slice p3 x2 p4], .agg #[.slice t1 z1 t2, .int .i64 z3, .int .i64 z4, .slice t3 z2 t4], .pointer (some ⟨w.heap.size, 0, none⟩), .pointer (some ⟨w.heap.size + 1, 0, none⟩), .pointer (some ⟨w.heap.size + 1 + 1, 0, none⟩), .pointer (some ⟨w.heap.size + 1 + 1 + 1, 0, none⟩), .pointer (some ⟨w.heap.size + 1 + 1 + 1 + 1, 0, none⟩), .int .i64 0, x.path, .pointer (some ⟨Bx, 0, none⟩), undef, undef, .pointer (some ⟨w.heap.size, 0, none⟩), .slice p1 x1 p2, .int .i64 ↑x1, .bool false, .agg #[.slice p1 x1 p2, .int .i64 x3, .int .i64 x4, .slice p3 x2 p4], .int .i64 0, .int .i64 0, .bool false, undef, .agg #[.slice t1 z1 t2, .int .i64 z3, .int .i64 z4, .slice t3 z2 t4], .func (.func 93) #[] #[.pointer (some ⟨w6.heap.size, 0, none⟩)], x.path, x.term, undef, undef, undef, undef, undef, undef, undef, undef, undef, undef, undef], defers := [] })
        (fun x a' W l o o' hl ho hoc => by
          rintro ⟨Bx, h1, h2, h3, h4⟩
          have hg : W.grownBy (W.putObj l o') (some l) := grownBy_putObj' W l o'
          have hr' : ∀ r, some l = some r → ∃ o : Obj, W.heap[r]? = some o ∧ NoCell o := fun r e => by cases e; exact ⟨o, ho, hoc⟩
          have hk : Keep (fun k => w7.heap.size ≤ k) W (W.putObj l o') := fun k o v _ hv => cell_soft hg hr' hv
          exact ⟨Bx, h1, blk_soft hg hr' h2, ⟨h3.1, h3.2.1.keep (fun _ h => h) hk, h3.2.2.keep (fun _ _ h => h) (fun b o v _ hv => cell_soft hg hr' hv)⟩, h4⟩) ?assign ?body ?done ?stop
      case assign =>
        rintro l pre x W K ⟨hp, hB⟩ hR hK
        have HK := Lib.hid hK; clear hK
        have HR := Lib.hid hR; clear hR
        have Hp := Lib.hid hp; clear hp
        simp only [HitS.enc, HitS.term]
        gi_wp2
        have ba : Below W.heap.size W (W.alloc (.cells #[.slice x.pb x.s.1.binds.length x.cb, .int .i64 x.s.1.kind, .int .i64 x.s.1.index, .slice x.pa x.s.1.args.length x.ca] 34)) := (Below.refl _ _).alloc (Nat.le_refl _) _
        exact HK.out _ _ ((KeepsOthers.alloc _ _).from _) ((KeepC.refl _ W).alloc _) ⟨Hp.out, hB.alloc hB.size _⟩ ⟨W.heap.size, hB.size, Blk.new _ _ _ rfl, ⟨HR.out.1, HR.out.2.1.bel ba, HR.out.2.2.keep (fun _ _ h => h) (fun b o v _ hv => (ba.cell (p := ⟨b, o, none⟩) (Keep.lt hv)).trans hv)⟩, rfl⟩
      case body =>
        rintro l pre x a' W ⟨hp, hB⟩ hlt ⟨Bx, hBx, bX, hR, rfl⟩
        have HR := Lib.hid hR; clear hR
        have Hp := Lib.hid hp.out; clear hp
        simp only [HitS.path]
        have Y0 := y0.below hB
        have Y4 := y4.below hB
        have Y5 := y5.below hB
        have Y6 := y6.below hB
        gi_wp2_with fail
        refine wpIn_region_need (S := fun w' => w'.cell? ⟨w.heap.size, 0, none⟩ = some (.slice p1 x1 p2) ∧ w'.cell? ⟨w.heap.size, 1, none⟩ = some (.int .i64 x3) ∧ w'.cell? ⟨w.heap.size, 2, none⟩ = some (.int .i64 x4) ∧ w'.cell? ⟨w.heap.size, 3, none⟩ = some (.slice p3 x2 p4) ∧ w'.cell? ⟨Bx, 0, none⟩ = some (.slice x.pb x.s.1.binds.length x.cb) ∧ w'.cell? ⟨Bx, 1, none⟩ = some (.int .i64 x.s.1.kind) ∧ w'.cell? ⟨Bx, 2, none⟩ = some (.int .i64 x.s.1.index) ∧ w'.cell? ⟨Bx, 3, none⟩ = some (.slice x.pa x.s.1.args.length x.ca)) ((wide_round l)) (by kernel_rfl) (by kernel_rfl) ?_
        have hS : (W.drew).cell? ⟨w.heap.size, 0, none⟩ = some (.slice p1 x1 p2) ∧ (W.drew).cell? ⟨w.heap.size, 1, none⟩ = some (.int .i64 x3) ∧ (W.drew).cell? ⟨w.heap.size, 2, none⟩ = some (.int .i64 x4) ∧ (W.drew).cell? ⟨w.heap.size, 3, none⟩ = some (.slice p3 x2 p4) ∧ (W.drew).cell? ⟨Bx, 0, none⟩ = some (.slice x.pb x.s.1.binds.length x.cb) ∧ (W.drew).cell? ⟨Bx, 1, none⟩ = some (.int .i64 x.s.1.kind) ∧ (W.drew).cell? ⟨Bx, 2, none⟩ = some (.int .i64 x.s.1.index) ∧ (W.drew).cell? ⟨Bx, 3, none⟩ = some (.slice x.pa x.s.1.args.length x.ca) := ⟨Y0.drew.cell rfl, Y0.drew.cell rfl, Y0.drew.cell rfl, Y0.drew.cell rfl, bX.drew.cell rfl, bX.drew.cell rfl, bX.drew.cell rfl, bX.drew.cell rfl⟩
        refine wpN_take (i := 0) (v := ?v1) rfl (by kernel_rfl) (fun _ _ _ h => h) hS (Or.inl ⟨by rfl, ?hy1⟩) ?hr1
        case hy1 => (intro wS hSw; (try dsimp only at hSw); go_simp; (try with_reducible rfl))
        try simp only [Act.put, List.setIfInBounds_toArray, List.set_cons_zero, List.set_cons_succ, List.getElem_toArray, List.getElem_cons_zero, List.getElem_cons_succ]
        refine wpN_take (i := 1) (v := ?v2) rfl (by kernel_rfl) (fun _ _ _ h => h) hS (Or.inl ⟨by rfl, ?hy2⟩) ?hr2
        case hy2 => (intro wS hSw; (try dsimp only at hSw); go_simp; (try with_reducible rfl))
        try simp only [Act.put, List.setIfInBounds_toArray, List.set_cons_zero, List.set_cons_succ, List.getElem_toArray, List.getElem_cons_zero, List.getElem_cons_succ]
        refine wpN_step (i := 2) (by kernel_rfl) rfl (fun K hK => ?_)
        go_simp
        refine (calls_rx (body_d x.s.1 (by have := (HHit.out _ HR.out.1).2.1; omega) (HHit.out _ HR.out.1).2.2) (X := (fun b o => X b o ∨ w7.heap.size ≤ b)) (vs := [.agg #[.slice x.pb x.s.1.binds.length x.cb, .int .i64 x.s.1.kind, .int .i64 x.s.1.index, .slice x.pa x.s.1.args.length x.ca]]) ⟨HR.out.2.2.keep (w' := W.drew) (fun _ _ h => h) (fun b o v _ hv => hv), trivial⟩).mono ?_
        rintro e W2 ⟨vn, rfl, hb2, hN⟩
        obtain ⟨nb', nk, ni, na, rfl, -⟩ := agTm hN
        have b2 : Below W.heap.size W W2 := (Below.refl _ _).drew.trans hb2
        have hS : (W2).cell? ⟨w.heap.size, 0, none⟩ = some (.slice p1 x1 p2) ∧ (W2).cell? ⟨w.heap.size, 1, none⟩ = some (.int .i64 x3) ∧ (W2).cell? ⟨w.heap.size, 2, none⟩ = some (.int .i64 x4) ∧ (W2).cell? ⟨w.heap.size, 3, none⟩ = some (.slice p3 x2 p4) ∧ (W2).cell? ⟨Bx, 0, none⟩ = some (.slice x.pb x.s.1.binds.length x.cb) ∧ (W2).cell? ⟨Bx, 1, none⟩ = some (.int .i64 x.s.1.kind) ∧ (W2).cell? ⟨Bx, 2, none⟩ = some (.int .i64 x.s.1.index) ∧ (W2).cell? ⟨Bx, 3, none⟩ = some (.slice x.pa x.s.1.args.length x.ca) := ⟨(Y0.below b2).cell rfl, (Y0.below b2).cell rfl, (Y0.below b2).cell rfl, (Y0.below b2).cell rfl, (bX.below b2).cell rfl, (bX.below b2).cell rfl, (bX.below b2).cell rfl, (bX.below b2).cell rfl⟩
        refine hK.out _ _ (fun _ => hS) ?_
        clear hK K
        try simp only [Act.put, List.setIfInBounds_toArray, List.set_cons_zero, List.set_cons_succ, List.getElem_toArray, List.getElem_cons_zero, List.getElem_cons_succ]
        refine wpN_step (i := 3) (by kernel_rfl) rfl (fun K hK => ?_)
        go_simp
        have hxp2 : RX (fun b o => X b o ∨ w7.heap.size ≤ b) W2 (.agg #[.slice p1 x1 p2, .int .i64 x3, .int .i64 x4, .slice p3 x2 p4]) (.ag (eTm p)) := Hxp.out.keep (fun _ _ h => .inl h) (fun b o v hx hv => by
          have h0 := HX.out b o hx
          have h1 := (B7.cell (p := ⟨b, o, none⟩) h0).trans hv
          have h2 := (hB.cell (p := ⟨b, o, none⟩) (by show b < w7.heap.size; have := B7.size; omega)).trans h1
          exact (b2.cell (p := ⟨b, o, none⟩) (by show b < W.heap.size; have := B7.size; have := hB.size; omega)).trans h2)
        have hxn2 : RX (fun b o => X b o ∨ w7.heap.size ≤ b) W2 (.agg #[nb', nk, ni, na]) (.ag (eTm (Pn.nb x.s.1))) := hN.keep (fun b o h => h.elim id fun h => .inr (by have h' : W.heap.size ≤ b := h; have := hB.size; omega)) (fun _ _ _ _ h => h)
        refine (calls_rx (HHit.out _ HR.out.1).1 (vs := [.agg #[.slice p1 x1 p2, .int .i64 x3, .int .i64 x4, .slice p3 x2 p4], .agg #[nb', nk, ni, na]]) ⟨hxp2, hxn2, trivial⟩).mono ?_
        rintro e W3 ⟨v, rfl, hb3, hv⟩
        have b3 : Below W.heap.size W W3 := b2.trans (hb3.mono b2.size)
        clear hxp2 hxn2 hN hb2
        obtain ⟨cs, rfl, hcs⟩ := rel_tu.1 hv
        obtain ⟨v2, v3, rfl⟩ : ∃ v2 v3, cs = [v2, v3] := by
          match cs, hcs with
          | [a, b], _ => exact ⟨a, b, rfl⟩
        have hv3 := rel_v.1 hcs.2.1
        subst hv3
        obtain ⟨a2, k2, _, _, _, hv2e, _⟩ := rel_sl hcs.1
        obtain ⟨n2, hn2⟩ : ∃ n, (ePairs (Pn.mAll [(p, Pn.nb x.s.1)]).1).length = n := ⟨_, rfl⟩
        rw [hn2] at hv2e
        clear hn2
        subst hv2e
        have Hv2 : Hid (RX (fun b o => X b o ∨ w7.heap.size ≤ b) W3 (.slice a2 n2 k2) (.sl 5 (ePairs (Pn.mAll [(p, Pn.nb x.s.1)]).1) none)) := RX.keep hcs.1 (fun b o h => by
          rcases h with h | h
          · exact h
          · exact .inr (by have := b2.size; have := hB.size; omega)) (fun _ _ _ _ h => h)
        have hhit : Pn.hit p x.s = decide ((Pn.mAll [(p, Pn.nb x.s.1)]).2 = 0) := rfl
        obtain ⟨e3, he3⟩ : ∃ e3, (Pn.mAll [(p, Pn.nb x.s.1)]).2 = e3 := ⟨_, rfl⟩
        rw [he3] at hhit ⊢
        have Hhit := Lib.hid hhit
        clear hv hcs he3 hhit hb3
        have hS : (W3).cell? ⟨w.heap.size, 0, none⟩ = some (.slice p1 x1 p2) ∧ (W3).cell? ⟨w.heap.size, 1, none⟩ = some (.int .i64 x3) ∧ (W3).cell? ⟨w.heap.size, 2, none⟩ = some (.int .i64 x4) ∧ (W3).cell? ⟨w.heap.size, 3, none⟩ = some (.slice p3 x2 p4) ∧ (W3).cell? ⟨Bx, 0, none⟩ = some (.slice x.pb x.s.1.binds.length x.cb) ∧ (W3).cell? ⟨Bx, 1, none⟩ = some (.int .i64 x.s.1.kind) ∧ (W3).cell? ⟨Bx, 2, none⟩ = some (.int .i64 x.s.1.index) ∧ (W3).cell? ⟨Bx, 3, none⟩ = some (.slice x.pa x.s.1.args.length x.ca) := ⟨(Y0.below b3).cell rfl, (Y0.below b3).cell rfl, (Y0.below b3).cell rfl, (Y0.below b3).cell rfl, (bX.below b3).cell rfl, (bX.below b3).cell rfl, (bX.below b3).cell rfl, (bX.below b3).cell rfl⟩
        refine hK.out _ _ (fun _ => hS) ?_
        clear hK K
        try simp only [Act.put, List.setIfInBounds_toArray, List.set_cons_zero, List.set_cons_succ, List.getElem_toArray, List.getElem_cons_zero, List.getElem_cons_succ]
        refine wpN_pure (i := 4) (v := ?v3) rfl (by kernel_rfl) (fun _ _ _ h => h) (Or.inl ⟨by rfl, ?hy3⟩) ?hr3
        case hy3 => (intro wS hSw; go_simp; (try with_reducible rfl))
        try simp only [Act.put, List.setIfInBounds_toArray, List.set_cons_zero, List.set_cons_succ, List.getElem_toArray, List.getElem_cons_zero, List.getElem_cons_succ]
        refine wpN_pure (i := 5) (v := ?v4) rfl (by kernel_rfl) (fun _ _ _ h => h) (Or.inl ⟨by rfl, ?hy4⟩) ?hr4
        case hy4 => (intro wS hSw; go_simp; (try with_reducible rfl))
        try simp only [Act.put, List.setIfInBounds_toArray, List.set_cons_zero, List.set_cons_succ, List.getElem_toArray, List.getElem_cons_zero, List.getElem_cons_succ]
        refine wpN_pure (i := 6) (v := ?v5) rfl (by kernel_rfl) (fun _ _ _ h => h) (Or.inl ⟨by rfl, ?hy5⟩) ?hr5
        case hy5 => (intro wS hSw; go_simp; (try with_reducible rfl))
        try simp only [Act.put, List.setIfInBounds_toArray, List.set_cons_zero, List.set_cons_succ, List.getElem_toArray, List.getElem_cons_zero, List.getElem_cons_succ]
        refine wpN_pure (i := 7) (v := ?v6) rfl (by kernel_rfl) (fun _ _ _ h => h) (Or.inl ⟨by rfl, ?hy6⟩) ?hr6
        case hy6 => (intro wS hSw; go_simp; (try with_reducible rfl))
        try simp only [Act.put, List.setIfInBounds_toArray, List.set_cons_zero, List.set_cons_succ, List.getElem_toArray, List.getElem_cons_zero, List.getElem_cons_succ]
        refine wpN_pure (i := 8) (v := ?v7) rfl (by kernel_rfl) (fun _ _ _ h => h) (Or.inl ⟨by rfl, ?hy7⟩) ?hr7
        case hy7 => (intro wS hSw; go_simp; (try with_reducible rfl))
        try simp only [Act.put, List.setIfInBounds_toArray, List.set_cons_zero, List.set_cons_succ, List.getElem_toArray, List.getElem_cons_zero, List.getElem_cons_succ]
        refine wpN_done (by kernel_rfl) ?_
        refine OnlyN.normal ?_
        have Y4 := Y4.below b3
        have Y5 := Y5.below b3
        have Y6 := Y6.below b3
        have hkf : KeepsFrom w7.heap.size W W3 := ⟨b3.size, fun k o _ ho _ => (b3.block k (Array.getElem?_eq_some_iff.1 ho).1).trans ho⟩
        have Hkf := Lib.hid hkf; clear hkf
        by_cases h3 : e3 = 0
        · subst h3
          have c4 : W3.cell? ⟨w.heap.size + 1 + 1, 0, none⟩ = some (.slice none 0 0) := Y4.cell rfl
          have c5 : W3.cell? ⟨w.heap.size + 1 + 1 + 1, 0, none⟩ = some (.slice none 0 0) := Y5.cell rfl
          have c6 : W3.cell? ⟨w.heap.size + 1 + 1 + 1 + 1, 0, none⟩ = some (.int .i64 0) := Y6.cell rfl
          have f4 := Y4.free 0
          have f5 := Y5.free 0
          have f6 := Y6.free 0
          gi_wp2_with fail
          obtain ⟨W5, hW5⟩ : ∃ W5, ((W3.setCell ⟨w.heap.size + 1 + 1, 0, none⟩ (.slice x.va x.s.2.2.length x.vc)).setCell ⟨w.heap.size + 1 + 1 + 1, 0, none⟩ (.slice a2 n2 k2)).setCell ⟨w.heap.size + 1 + 1 + 1 + 1, 0, none⟩ (.int .i64 0) = W5 := ⟨_, rfl⟩
          have K5 : Keep (fun b => b < w.heap.size ∨ w7.heap.size ≤ b) W3 W5 := by rw [← hW5]; exact (((Keep.refl _ _).setCell ⟨w.heap.size + 1 + 1, 0, none⟩ _ (by simp <;> omega)).setCell ⟨w.heap.size + 1 + 1 + 1, 0, none⟩ _ (by simp <;> omega)).setCell ⟨w.heap.size + 1 + 1 + 1 + 1, 0, none⟩ _ (by simp <;> omega)
          have Z4 : Blk W5 (w.heap.size + 1 + 1) #[.slice x.va x.s.2.2.length x.vc] 43 := by rw [← hW5]; exact ((Y4.set 0 _).far ⟨w.heap.size + 1 + 1 + 1, 0, none⟩ _ (by simp <;> omega)).far ⟨w.heap.size + 1 + 1 + 1 + 1, 0, none⟩ _ (by simp <;> omega)
          have Z5 : Blk W5 (w.heap.size + 1 + 1 + 1) #[.slice a2 n2 k2] 47 := by rw [← hW5]; exact ((Y5.far ⟨w.heap.size + 1 + 1, 0, none⟩ _ (by simp <;> omega)).set 0 _).far ⟨w.heap.size + 1 + 1 + 1 + 1, 0, none⟩ _ (by simp <;> omega)
          have Z6 : Blk W5 (w.heap.size + 1 + 1 + 1 + 1) #[.int .i64 0] 35 := by rw [← hW5]; exact ((Y6.far ⟨w.heap.size + 1 + 1, 0, none⟩ _ (by simp <;> omega)).far ⟨w.heap.size + 1 + 1 + 1, 0, none⟩ _ (by simp <;> omega)).set 0 _
          have kf : KeepsFrom w7.heap.size W3 W5 := by rw [← hW5]; exact (((KeepsOthers.setCell W3 _ _).trans (KeepsOthers.setCell _ _ _)).trans (KeepsOthers.setCell _ _ _)).from _
          have kc : KeepC (FromC w7.heap.size) W3 W5 := by rw [← hW5]; exact (((KeepC.refl _ W3).setCell _ _ (by simp [FromC] <;> omega)).setCell _ _ (by simp [FromC] <;> omega)).setCell _ _ (by simp [FromC] <;> omega)
          have hbW : Below w.heap.size w W3 := (B7.trans (hB.mono B7.size)).trans (b3.mono (by have := B7.size; have := hB.size; omega))
          have bW5 : Below w.heap.size w W5 := by rw [← hW5]; exact ((hbW.setCell (by simp <;> omega) _).setCell (by simp <;> omega) _).setCell (by simp <;> omega) _
          try rw [hW5]
          have hpath : RX (fun b o => X b o ∨ w7.heap.size ≤ b) W5 (.slice x.va x.s.2.2.length x.vc) (.sl 1 (eIs x.s.2.2) none) := RX.keep (X := fun b _ => w7.heap.size ≤ b) HR.out.2.1 (fun b o h => .inr h) (fun b o v hb hv => K5 b o v (.inr hb) ((b3.cell (p := ⟨b, o, none⟩) (Keep.lt hv)).trans hv))
          have hsub : RX (fun b o => X b o ∨ w7.heap.size ≤ b) W5 (.slice a2 n2 k2) (.sl 5 (ePairs (Pn.mAll [(p, Pn.nb x.s.1)]).1) none) := Hv2.out.keep (fun b o h => h) (fun b o v hb hv => K5 b o v (hb.imp (HX.out b o) id) hv)
          exact ⟨⟨Nat.le_trans Hkf.out.size kf.size, fun k o hk ho hc => kf.same k o hk (Hkf.out.same k o hk ho hc) hc⟩, ((KeepC.of_below b3).lower (fun _ _ _ => trivial)).trans kc, rfl, _, _, ⟨pre, x, rfl, Hp.out, by rw [Hhit.out]; rfl, hpath, hsub⟩, Z4, Z5, Z6, bW5⟩
        · have H3 : Hid (¬ e3 = 0) := h3
          gi_wp2_with fail
          refine ⟨Hkf.out, KeepC.of_below b3, fun y hy => ?_, hB.trans (b3.mono hB.size)⟩
          rcases List.mem_append.1 hy with hy | hy
          · exact Hp.out y hy
          · rw [List.mem_singleton] at hy
            subst hy
            rw [Hhit.out]
            exact decide_eq_false H3.out
      case done =>
        rintro Dd ys W hD hys ⟨hp, hB⟩ hK
        have Hys := Lib.hid hys; clear hys
        have Hp := Lib.hid hp.out; clear hp
        have Y4 := y4.below hB
        have Y5 := y5.below hB
        have Y6 := y6.below hB
        have c4 : W.cell? ⟨w.heap.size + 1 + 1, 0, none⟩ = some (.slice none 0 0) := Y4.cell rfl
        have c5 : W.cell? ⟨w.heap.size + 1 + 1 + 1, 0, none⟩ = some (.slice none 0 0) := Y5.cell rfl
        have c6 : W.cell? ⟨w.heap.size + 1 + 1 + 1 + 1, 0, none⟩ = some (.int .i64 0) := Y6.cell rfl
        have f4 := Y4.free 0
        have f5 := Y5.free 0
        have f6 := Y6.free 0
        gi_wp2_with fail
        obtain ⟨W5, hW5⟩ : ∃ W5, ((W.setCell ⟨w.heap.size + 1 + 1, 0, none⟩ (.slice none 0 0)).setCell ⟨w.heap.size + 1 + 1 + 1, 0, none⟩ (.slice none 0 0)).setCell ⟨w.heap.size + 1 + 1 + 1 + 1, 0, none⟩ (.int .i64 10) = W5 := ⟨_, rfl⟩
        have Z4 : Blk W5 (w.heap.size + 1 + 1) #[.slice none 0 0] 43 := by rw [← hW5]; exact ((Y4.set 0 _).far ⟨w.heap.size + 1 + 1 + 1, 0, none⟩ _ (by simp <;> omega)).far ⟨w.heap.size + 1 + 1 + 1 + 1, 0, none⟩ _ (by simp <;> omega)
        have Z5 : Blk W5 (w.heap.size + 1 + 1 + 1) #[.slice none 0 0] 47 := by rw [← hW5]; exact ((Y5.far ⟨w.heap.size + 1 + 1, 0, none⟩ _ (by simp <;> omega)).set 0 _).far ⟨w.heap.size + 1 + 1 + 1 + 1, 0, none⟩ _ (by simp <;> omega)
        have Z6 : Blk W5 (w.heap.size + 1 + 1 + 1 + 1) #[.int .i64 10] 35 := by rw [← hW5]; exact ((Y6.far ⟨w.heap.size + 1 + 1, 0, none⟩ _ (by simp <;> omega)).far ⟨w.heap.size + 1 + 1 + 1, 0, none⟩ _ (by simp <;> omega)).set 0 _
        have hK' : W5.heap[Dd]? = some (.deferred (some [])) := by rw [← hW5]; exact (((KeepsOthers.setCell W _ _).trans (KeepsOthers.setCell _ _ _)).trans (KeepsOthers.setCell _ _ _)).same Dd _ hK rfl
        have bW5 : Below w.heap.size w W5 := by rw [← hW5]; exact (((B7.trans (hB.mono B7.size)).setCell (by simp <;> omega) _).setCell (by simp <;> omega) _).setCell (by simp <;> omega) _
        try rw [hW5]
        refine ⟨by simp, .inl ⟨_, _, rfl, run_takeDeferred hK', ?_⟩⟩
        have g4 := cell_kept (Z4.cell (i := 0) (v := .slice none 0 0) rfl) (grownBy_putObj' _ Dd (.deferred none)) (fun r e => by cases e; exact ⟨_, hK', rfl⟩)
        have g5 := cell_kept (Z5.cell (i := 0) (v := .slice none 0 0) rfl) (grownBy_putObj' _ Dd (.deferred none)) (fun r e => by cases e; exact ⟨_, hK', rfl⟩)
        have g6 := cell_kept (Z6.cell (i := 0) (v := .int .i64 10) rfl) (grownBy_putObj' _ Dd (.deferred none)) (fun r e => by cases e; exact ⟨_, hK', rfl⟩)
        have Hre : r = ([], [], 10) := by
          rw [← Hr.out, Pn.fnd, if_neg (fun h => ?_), if_neg (fun h => h He0.out), Pn.find_none]
          · intro i hi
            rw [← Hys.out] at hi
            rw [List.length_map] at hi
            simp only [← Hys.out, List.getElem_map]
            exact Hp.out _ (List.getElem_mem hi)
          · have := Hx1.out
            cases hq : p.binds with
            | nil => exact h hq
            | cons a l => rw [hq] at this; simp at this; omega
        subst Hre
        refine ⟨.tuple #[.slice none 0 0, .slice none 0 0, .int .i64 10], by simp [results, Try.results18, go_sem, g4, g5, g6], ?_⟩
        exact ⟨_, _, rfl, bW5.trans (belowK_b (w := w) (Nat.le_refl _) _ Dd _ _ (by have := B7.size; omega) hK' rfl rfl), rx_nil _ _ _, rx_nil _ _ _⟩
      case stop =>
        rintro Dd c pre W hD hpre ⟨rfl, v1, v2, hh, q1, q2, q3, hB⟩ hK
        have Hh := Lib.hid hh.out; clear hh
        have Hpre := Lib.hid hpre; clear hpre
        gi_wp2_with fail
        refine ⟨by simp, .inl ⟨_, _, rfl, run_takeDeferred hK, ?_⟩⟩
        have hg : W.grownBy (W.putObj Dd (.deferred none)) (some Dd) := grownBy_putObj' _ Dd (.deferred none)
        have hr' : ∀ r, some Dd = some r → ∃ o : Obj, W.heap[r]? = some o ∧ NoCell o := fun r e => by cases e; exact ⟨_, hK, rfl⟩
        have g4 := cell_soft hg hr' (q1.cell (i := 0) (v := v1) rfl)
        have g5 := cell_soft hg hr' (q2.cell (i := 0) (v := v2) rfl)
        have g6 := cell_soft hg hr' (q3.cell (i := 0) (v := .int .i64 0) rfl)
        obtain ⟨pre', x, e1, e2, e3, e4, e5⟩ := Hh.out
        have Hre : r = (x.s.2.2, (Pn.mAll [(p, Pn.nb x.s.1)]).1, 0) := by
          have hfi : (Pn.subs t [] []).find? (Pn.hit p) = some x.s := by
            obtain ⟨q, hq⟩ := Hpre.out
            rw [← hq, e1, List.map_append, List.map_cons, List.map_nil, List.append_assoc, List.find?_append, List.find?_eq_none.2, Option.none_or]
            · simp [e3]
            · intro s hs
              obtain ⟨y, hy, rfl⟩ := List.mem_map.1 hs
              rw [e2 y hy]; simp
          rw [← Hr.out, Pn.fnd, if_neg (fun h => ?_), if_neg (fun h => h He0.out), hfi]
          have := Hx1.out
          cases hq : p.binds with
          | nil => exact h hq
          | cons a l => rw [hq] at this; simp at this; omega
        subst Hre
        refine ⟨.tuple #[v1, v2, .int .i64 0], by simp [results, Try.results18, go_sem, g4, g5, g6], ?_⟩
        have hXX : ∀ b o, (X b o ∨ w7.heap.size ≤ b) → X b o ∨ w.heap.size ≤ b := fun b o h => h.imp id fun h => by have := B7.size; omega
        exact ⟨_, _, rfl, hB.trans (belowK_b (w := w) (Nat.le_refl _) _ Dd _ _ (by have := B7.size; omega) hK rfl rfl), e4.keep hXX (fun b o v _ hv => cell_soft hg hr' hv), e5.keep hXX (fun b o v _ hv => cell_soft hg hr' hv)⟩
    · have Hm : Hid (¬ e0 = 0) := hm
      have c4 : w6.cell? ⟨w.heap.size + 1 + 1, 0, none⟩ = some (.slice none 0 0) := y4.cell rfl
      have c5 : w6.cell? ⟨w.heap.size + 1 + 1 + 1, 0, none⟩ = some (.slice none 0 0) := y5.cell rfl
      have c6 : w6.cell? ⟨w.heap.size + 1 + 1 + 1 + 1, 0, none⟩ = some (.int .i64 0) := y6.cell rfl
      have f4 := y4.free 0
      have f5 := y5.free 0
      have f6 := y6.free 0
      gi_wp2_with fail
      have q4 := (((y4.set 0 (.slice none 0 0)).far ⟨w.heap.size + 1 + 1 + 1, 0, none⟩ (.slice none 0 0) (by simp <;> omega)).far ⟨w.heap.size + 1 + 1 + 1 + 1, 0, none⟩ (.int .i64 e0) (by simp <;> omega)).cell (i := 0) (v := .slice none 0 0) rfl
      have q5 := (((y5.far ⟨w.heap.size + 1 + 1, 0, none⟩ (.slice none 0 0) (by simp <;> omega)).set 0 (.slice none 0 0)).far ⟨w.heap.size + 1 + 1 + 1 + 1, 0, none⟩ (.int .i64 e0) (by simp <;> omega)).cell (i := 0) (v := .slice none 0 0) rfl
      have q6 := (((y6.far ⟨w.heap.size + 1 + 1, 0, none⟩ (.slice none 0 0) (by simp <;> omega)).far ⟨w.heap.size + 1 + 1 + 1, 0, none⟩ (.slice none 0 0) (by simp <;> omega)).set 0 (.int .i64 e0)).cell (i := 0) (v := .int .i64 e0) rfl
      refine ⟨.tuple #[.slice none 0 0, .slice none 0 0, .int .i64 e0], by simp [results, Try.results18, go_sem, q4, q5, q6], ?_⟩
      have Hre : r = ([], [], e0) := by
        rw [← Hr.out, Pn.fnd, if_neg, He0.out, if_pos Hm.out]
        intro h
        have := Hx1.out
        cases hq : p.binds with
        | nil => exact h hq
        | cons a l => rw [hq] at this; simp at this; omega
      subst Hre
      exact ⟨_, _, rfl, ((B6.setCell (by simp; omega) _).setCell (by simp; omega) _).setCell (by simp; omega) _, rx_nil _ _ _, rx_nil _ _ _⟩
end Go.Proofs.Ytcblpjheoclkeaa

namespace Go.Proofs.Ytcblpjheoclkeaa
open Go.RowKit
def TFU_27 : TI := ⟨4, true, [Value.slice none 0 0, Value.int IntKind.i64 0, Value.int IntKind.i64 0, Value.slice none 0 0], [(0, 1, false), (1, 2, true), (3, 1, false)], none, 64, 6, none, false⟩
theorem TFU_27_ok : TypOk Try.prog 27 TFU_27 := ⟨by kernel_rfl, by kernel_rfl, by kernel_rfl, by kernel_rfl, by kernel_rfl⟩
def TFU_34 : TI := ⟨4, true, [Value.slice none 0 0, Value.int IntKind.i64 0, Value.int IntKind.i64 0, Value.slice none 0 0], [(0, 1, false), (1, 2, true), (3, 1, false)], none, 64, 6, none, false⟩
theorem TFU_34_ok : TypOk Try.prog 34 TFU_34 := ⟨by kernel_rfl, by kernel_rfl, by kernel_rfl, by kernel_rfl, by kernel_rfl⟩
def TFU_25 : TI := ⟨1, false, [Value.slice none 0 0], [], some 27, 24, 5, none, false⟩
theorem TFU_25_ok : TypOk Try.prog 25 TFU_25 := ⟨by kernel_rfl, by kernel_rfl, by kernel_rfl, by kernel_rfl, by kernel_rfl⟩
def TFU_50 : TI := ⟨1, false, [Value.slice none 0 0], [], some 118, 24, 5, none, false⟩
theorem TFU_50_ok : TypOk Try.prog 50 TFU_50 := ⟨by kernel_rfl, by kernel_rfl, by kernel_rfl, by kernel_rfl, by kernel_rfl⟩
def TFU_3 : TI := ⟨1, false, [Value.int IntKind.i64 0], [], none, 8, 2, none, false⟩
theorem TFU_3_ok : TypOk Try.prog 3 TFU_3 := ⟨by kernel_rfl, by kernel_rfl, by kernel_rfl, by kernel_rfl, by kernel_rfl⟩
def TFU_47 : TI := ⟨1, false, [Value.slice none 0 0], [], some 88, 24, 5, none, false⟩
theorem TFU_47_ok : TypOk Try.prog 47 TFU_47 := ⟨by kernel_rfl, by kernel_rfl, by kernel_rfl, by kernel_rfl, by kernel_rfl⟩
def TFU_43 : TI := ⟨1, false, [Value.slice none 0 0], [], some 3, 24, 5, none, false⟩
theorem TFU_43_ok : TypOk Try.prog 43 TFU_43 := ⟨by kernel_rfl, by kernel_rfl, by kernel_rfl, by kernel_rfl, by kernel_rfl⟩
def TFU_4 : TI := ⟨1, false, [Value.bool false], [], none, 1, 1, none, false⟩
theorem TFU_4_ok : TypOk Try.prog 4 TFU_4 := ⟨by kernel_rfl, by kernel_rfl, by kernel_rfl, by kernel_rfl, by kernel_rfl⟩
def TFU_118 : TI := ⟨5, true, [Value.int IntKind.i64 0, Value.slice none 0 0, Value.int IntKind.i64 0, Value.int IntKind.i64 0, Value.slice none 0 0], [(0, 1, false), (1, 4, true)], none, 72, 6, none, false⟩
theorem TFU_118_ok : TypOk Try.prog 118 TFU_118 := ⟨by kernel_rfl, by kernel_rfl, by kernel_rfl, by kernel_rfl, by kernel_rfl⟩
def TFU_88 : TI := ⟨5, true, [Value.int IntKind.i64 0, Value.slice none 0 0, Value.int IntKind.i64 0, Value.int IntKind.i64 0, Value.slice none 0 0], [(0, 1, false), (1, 4, true)], none, 72, 6, none, false⟩
theorem TFU_88_ok : TypOk Try.prog 88 TFU_88 := ⟨by kernel_rfl, by kernel_rfl, by kernel_rfl, by kernel_rfl, by kernel_rfl⟩
def TFU : List (Nat × TI) := [(27, TFU_27), (34, TFU_34), (25, TFU_25), (50, TFU_50), (3, TFU_3), (47, TFU_47), (43, TFU_43), (4, TFU_4), (118, TFU_118), (88, TFU_88)]
theorem TFU_ok : TabOk Try.prog TFU := (((((((((((TabOk.nil _).cons TFU_88_ok).cons TFU_118_ok).cons TFU_4_ok).cons TFU_43_ok).cons TFU_47_ok).cons TFU_3_ok).cons TFU_50_ok).cons TFU_25_ok).cons TFU_34_ok).cons TFU_27_ok)
theorem mFind_d (p t : Tm) (h1 : p.full ≤ 250 ∧ p.Fit) (h2 : t.full ≤ 10000 ∧ lowB t = true ∧ t.Fit) :
    PureC Try.prog 18 [.ag (eTm p), .ag (eTm t)] (.tu [.sl 1 (eIs (Pn.fnd p t).1) none, .sl 5 (ePairs (Pn.fnd p t).2.1) none, .v (.int .i64 (Pn.fnd p t).2.2)]) := by
  refine pure_below (by kernel_rfl) fun m Im w vs hv => ?_
  match vs, hv with
  | [x1, x2], hv =>
    obtain ⟨pb, pk, pi, pa, rfl, hp⟩ := agTm hv.1
    obtain ⟨tb, tk, ti, ta, rfl, ht⟩ := agTm hv.2.1
    have hx : RX (fun b o => Im b o ∧ ∃ v, w.cell? ⟨b, o, none⟩ = some v) w (.agg #[pb, pk, pi, pa]) (.ag (eTm p)) := RX.of (rel_cell hv.1) (by simp [D.ok, eTm_ok]) (fun b o h => h)
    have hy : RX (fun b o => Im b o ∧ ∃ v, w.cell? ⟨b, o, none⟩ = some v) w (.agg #[tb, tk, ti, ta]) (.ag (eTm t)) := RX.of (rel_cell hv.2.1) (by simp [D.ok, eTm_ok]) (fun b o h => h)
    refine (find_k hp ht hx hy (fun b o h => by obtain ⟨v, hv⟩ := h.2; exact Keep.lt hv) h1 h2).mono ?_
    rintro e w' ⟨v1, v2, rfl, hb, r1, r2⟩
    have hle : m00.le m := ⟨fun _ _ h => (by cases h), fun _ _ h => (by cases h), fun _ _ h => (by cases h)⟩
    refine ⟨_, rfl, hb, fun Im' hi hI => rel_tu.2 ⟨[v1, v2, _], rfl, ?_, ?_, .v _, trivial⟩⟩
    · exact Rel.mono r1 hle (KeepI.refl _ _) (fun b o h => by
        obtain ⟨h, v, hv⟩ := h
        rcases h with h | h
        · exact hi b o h.1
        · exact hI b o v h hv)
    · exact Rel.mono r2 hle (KeepI.refl _ _) (fun b o h => by
        obtain ⟨h, v, hv⟩ := h
        rcases h with h | h
        · exact hi b o h.1
        · exact hI b o v h hv)
theorem fnd_ok (p t : Tm) (h1 : p.full ≤ 250 ∧ p.Fit) (h2 : t.full ≤ 10000 ∧ lowB t = true ∧ t.Fit) :
    (Pn.fnd p t).1.length ≤ 100000 ∧ (∀ q ∈ (Pn.fnd p t).2.1, q.2.full ≤ 80000 ∧ q.2.Fit) ∧ (Pn.fnd p t).2.1.length ≤ 250 := by
  unfold Pn.fnd
  split
  · exact ⟨Nat.zero_le _, (fun q hq => by cases hq), Nat.zero_le _⟩
  · split
    · exact ⟨Nat.zero_le _, (fun q hq => by cases hq), Nat.zero_le _⟩
    · split
      · rename_i s hs
        have hm := List.mem_of_find?_eq_some hs
        have r1 := Pn.subs_rng t [] [] s hm
        have r2 := subs_part t [] [] h2.2.2 s hm
        have r3 := Pn.subs_low t h2.2.1 [] [] s hm
        have hok : PPok (p, Pn.nb s.1) := by
          refine ⟨h1.1, h1.2, ?_, Pn.nb_low r3, Pn.nb_fit r2.2⟩
          have : (Pn.nb s.1).full ≤ s.1.full := by obtain ⟨⟨b, k, i, a⟩, _⟩ := s; show (Tm.mk [] k i a).full ≤ _; rw [Tm.full_eq, Tm.full_eq]; simp [Ty.sizes]
          have := r2.1
          dsimp only; omega
        have hA := Pn.mAll_ok [(p, Pn.nb s.1)] (fun q hq => by rw [List.mem_singleton] at hq; subst hq; exact hok)
        exact ⟨by have := r1.2.1; simp at this; show s.2.2.length ≤ _; omega, hA.1, by have := hA.2; simp at this; exact this⟩
      · exact ⟨Nat.zero_le _, (fun q hq => by cases hq), Nat.zero_le _⟩
set_option maxRecDepth 100000 in
set_option maxHeartbeats 4000000 in
theorem matchFinds_d (a b : Tm) (fa : a.Fit) (fb : b.Fit) : PureC Try.prog 4 [.ag (eTm a), .ag (eTm b)] (.v (.bool true)) := by
 have hk := known12_d
 have hF := lawFew_d [a, b] (by simp)
 have e2 := eTms_two a b
 rw [eTm_eq, eTm_eq]
 cases hfe : (fewB a && fewB b) with
 | false =>
  rw [show [a, b].all fewB = false by simpa using hfe] at hF
  refine calldw 0 108 [ResultVar.tmp 4] TFU_ok Try.func4 rfl Try.ntmps4 rfl fun cx hnt hn0 => ?_
  ·skip
   refine dw_seq ?_; refine dwk [] TFU_ok hnt fun K hK => ?_; refine hK _ _ ?_; clear hK K; refine dw_seq ?_; refine dw_seq ?_; refine dwk [(19, .sl 4 (eTms [a, b]) none)] TFU_ok hnt fun K hK => ?_; refine And.intro ((by rw [e2]; exact VLe.untag _ _ _)) ?_; refine dcl (hF) ?_; refine hK _ _ ?_; clear hK K; refine dw_cond (t := true) rfl ?_; rw [if_pos rfl]; refine dw_seq ?_; refine dwk [] TFU_ok hnt fun K hK => ?_
   refine dcl (hk) ?_; refine hK _ _ ?_; clear hK K; refine dw_ret ?_
   exact reta rfl
 | true =>
  rw [show [a, b].all fewB = true by simpa using hfe] at hF
  have hfe2 := hfe
  rw [Bool.and_eq_true] at hfe2
  have hs1 := fewB_full hfe2.1
  have hs2 := fewB_full hfe2.2
  have hL := low_d [a, b] (by simp) (fun t ht => by
   rcases List.mem_cons.1 ht with rfl | ht
   ·exact wide_full _ (by omega)
   ·rw [List.mem_singleton] at ht; subst ht; exact wide_full _ (by omega))
  have hlb : lowsB [a, b] = (lowB a && lowB b) := by rw [lowsB_all]; simp
  rw [hlb] at hL
  cases hlo : (lowB a && lowB b) with
  | false =>
   rw [hlo] at hL
   refine calldw 0 108 [ResultVar.tmp 4] TFU_ok Try.func4 rfl Try.ntmps4 rfl fun cx hnt hn0 => ?_
   ·skip
    refine dw_seq ?_; refine dwk [] TFU_ok hnt fun K hK => ?_; refine hK _ _ ?_; clear hK K; refine dw_seq ?_; refine dw_seq ?_; refine dwk [(19, .sl 4 (eTms [a, b]) none), (25, .sl 4 (eTms [a, b]) none)] TFU_ok hnt fun K hK => ?_; refine And.intro ((by rw [e2]; exact VLe.untag _ _ _)) ?_; refine dcl (hF) ?_; refine And.intro ((by rw [e2]; exact VLe.untag _ _ _)) ?_; refine dcl (hL) ?_; refine hK _ _ ?_; clear hK K
    refine dw_cond (t := true) rfl ?_; rw [if_pos rfl]; refine dw_seq ?_; refine dwk [] TFU_ok hnt fun K hK => ?_; refine dcl (hk) ?_; refine hK _ _ ?_; clear hK K; refine dw_ret ?_
    exact reta rfl
  | true =>
   rw [hlo] at hL
   rw [Bool.and_eq_true] at hlo
   have ok1 : PPok (a, b) := ⟨by dsimp only; omega, fa, by dsimp only; omega, hlo.2, fb⟩
   have hT1 := to6_d a (by omega)
   have hT2 := to6_d b (by omega)
   have hM1 := mMatch_d a b ok1
   have hM2 := rMatch_d a b ok1
   have hI := mIs_d a b ok1
   have hA := Pn.mAll_ok [(a, b)] (fun q hq => by rw [List.mem_singleton] at hq; subst hq; exact ok1)
   have hf1 : a.full ≤ 250 ∧ a.Fit := ⟨by omega, fa⟩
   have hf2 : b.full ≤ 10000 ∧ lowB b = true ∧ b.Fit := ⟨by omega, hlo.2, fb⟩
   have hFi := mFind_d a b hf1 hf2
   have hRF := rFind_d a b hf1 hf2
   have hok := fnd_ok a b hf1 hf2
   obtain ⟨⟨l, e⟩, hr1⟩ : ∃ r, Pn.mAll [(a, b)] = r := ⟨_, rfl⟩
   rw [hr1] at hM1 hM2 hI hA
   obtain ⟨⟨pa, l2, e3⟩, hr2⟩ : ∃ r, Pn.fnd a b = r := ⟨_, rfl⟩
   rw [hr2] at hFi hRF hok
   dsimp only at hM1 hM2 hI hA hFi hRF hok
   have hll : l.length ≤ 1000 := by have := hA.2; simp at this; omega
   have hO1 := of9_d l (by omega) (fun q hq => by have := (hA.1 q hq).1; omega)
   have hS1 := rsameP_d l l (by omega) (by omega)
   have hO2 := of9_d l2 (by omega) (fun q hq => by have := (hok.2.1 q hq).1; omega)
   have hS2 := rsameP_d l2 l2 (by omega) (by omega)
   have hLk := like_d pa pa (by omega) (by omega)
   have hO3 := of6_d a (by omega)
   have hS3 := same2_d a a
   have hO4 := of6_d b (by omega)
   have hS4 := same2_d b b
   rw [decide_eq_true rfl] at hS1 hS2 hLk hS3 hS4
   rw [eTm_eq] at hT1 hT2 hO3 hO4 hS3 hS4
   rw [eTm_eq, eTm_eq] at hM1 hM2 hI hFi hRF
   refine calldw 0 108 [ResultVar.tmp 4] TFU_ok Try.func4 rfl Try.ntmps4 rfl fun cx hnt hn0 => ?_
   ·skip
    refine dw_seq ?_; refine dwk [] TFU_ok hnt fun K hK => ?_; refine hK _ _ ?_; clear hK K; refine dw_seq ?_; refine dw_seq ?_; refine dwk [(19, .sl 4 (eTms [a, b]) none), (25, .sl 4 (eTms [a, b]) none)] TFU_ok hnt fun K hK => ?_; refine And.intro ((by rw [e2]; exact VLe.untag _ _ _)) ?_; refine dcl (hF) ?_; refine And.intro ((by rw [e2]; exact VLe.untag _ _ _)) ?_; refine dcl (hL) ?_; refine hK _ _ ?_; clear hK K
    refine dw_cond (t := false) rfl ?_; rw [if_neg (by simp)]; refine dw_skip ?_; refine dw_seq ?_; refine dwkD [] TFU_ok hnt fun K hK => ?_; refine dcl (hT1) ?_; refine dcl (hT2) ?_; refine hK _ _ (by kernel_rfl) ?_; clear hK K; refine dw_seq ?_; refine dwk [] TFU_ok hnt fun K hK => ?_; refine dcl (hM1) ?_; refine hK _ _ ?_; clear hK K; refine dw_seq ?_; refine dwk [] TFU_ok hnt fun K hK => ?_; refine dcl (hM2) ?_
    refine hK _ _ ?_; clear hK K; refine dw_seq ?_; refine dwk [] TFU_ok hnt fun K hK => ?_; refine dcl (hFi) ?_; refine hK _ _ ?_; clear hK K; refine dw_seq ?_; refine dwk [] TFU_ok hnt fun K hK => ?_; refine dcl (hRF) ?_; refine hK _ _ ?_; clear hK K; refine dw_seq ?_; refine dwkD [(64, .v (.bool true)), (77, .v (.bool (decide (e = 0)))), (78, .v (.bool true)), (83, .v (.bool true))] TFU_ok hnt fun K hK => ?_
    refine dcl (hk) ?_; refine And.intro (beqT rfl) ?_; refine dcl (hO1) ?_; refine dcl (hS1) ?_; refine dcl (hI) ?_; refine And.intro (VLe.of_eq (by by_cases h : e = 0 <;> simp [h])) ?_; refine And.intro (VLe.of_eq (by simp)) ?_; refine And.intro (beqT rfl) ?_; refine dcl (hLk) ?_; refine dcl (hO2) ?_; refine dcl (hS2) ?_; refine dcl (hO3) ?_; refine dcl (hS3) ?_; refine dcl (hO4) ?_; refine dcl (hS4) ?_
    refine hK _ _ (by kernel_rfl) ?_; clear hK K; refine dw_ret ?_
    exact reta rfl
end Go.Proofs.Ytcblpjheoclkeaa

