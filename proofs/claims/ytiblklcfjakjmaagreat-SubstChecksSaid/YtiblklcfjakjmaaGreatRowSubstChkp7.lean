/-
  Lists of pairs, there and back. How many types and terms: exactly what the reference counts. How many terms: exactly what the reference counts; the laws' Few. What the laws' Few tells of a term. Lists of pairs in the laws of layer 9: To, Few. The type of a head: the program's and the document's. A context with more binders: the program's and the document's. What the members of a gathering yield: a list of standard shapes. term.HeadType, term.TypeOf. The type of a head: the document's. The document's TypeOf. Which of two types is less: by size, by how many arguments, argument by argument, by base; and what that order promises. Which of two terms is less: the plain law. sign, cmp.Compare and cmp.Or of ints. The document's order of types. The document's order of terms. Whether a term is of a type: the plain law. term.is: whether a term is of a type.
-/
import Derived.Test.YtiblklcfjakjmaaGreatRowSubstChkp6
import Derived.Test.YtiblklcfjakjmaaGreatRowSubstChkp1
import Derived.Deep.QuietTactic
import Derived.BigQuiet
import Derived.WalkSmall
import Derived.Test.YtiblklcfjakjmaaGreatRowSubstChkp4
set_option maxRecDepth 100000
set_option maxHeartbeats 1000000
set_option linter.unusedVariables false
set_option linter.unusedSimpArgs false
namespace Go.Proofs.YtiblklcfjakjmaaGreat
open Go.RowKit

theorem of6_d (t : Tm) (h : t.full ≤ 1000000) : PureC Tryz.prog 27 [.ag (eTm t)] (.ag (eTm t)) := by
  refine pure_below (by kernel_rfl) fun m Im w vs hv => ?_
  match vs, hv with
  | [x], hv =>
    obtain ⟨b, k, i, a, rfl, ht⟩ := agTm hv.1
    refine (of6_any ht w h (Keep.refl _ _)).mono ?_
    rintro e w' ⟨b', k', i', a', rfl, h1, h2⟩
    exact ⟨_, rfl, h2, fun Im' _ hI => rel_ag.2 ⟨_, rfl, rel_of_tm (fun b o v hb hc => hI b o v hb hc) t h1⟩⟩
theorem ePairs_take (l : List (Int × Tm)) (j : Nat) (h : j < l.length) : ePairs (l.take (j + 1)) = ePairs (l.take j) ++ [ePair l[j]] := by
  unfold ePairs; rw [List.take_succ_eq_append_getElem h, List.map_append]; rfl
set_option maxHeartbeats 1000000 in
theorem of9_d (l : List (Int × Tm)) (hl : l.length ≤ 100000) (hf : ∀ p ∈ l, p.2.full ≤ 1000000) : PureC Tryz.prog 16 [.sl 5 (ePairs l) none] (.sl 5 (ePairs l) none) := by
  refine call_of_dw 0 27 [ResultVar.tmp 2] TL9_ok (by kernel_rfl) Tryz.func16 rfl Tryz.ntmps16 rfl (by simp) ?dwords ?dbody
  case dwords => simp [wordsOk, D.ok, D.oks, rnames, ePairs_ok]
  case dbody =>
    intro cx hnt hn0
    refine dw_seq ?_
    refine dw_k [] TL9_ok (by kernel_rfl) hnt (by kernel_rfl) (by simp only [List.size_toArray, List.length_cons, List.length_nil, Nat.reduceAdd]; rfl) ?_
    intro K hK
    refine hK _ _ ?_
    clear hK K
    refine dw_seq ?_
    refine dw_k [] TL9_ok (by kernel_rfl) hnt (by kernel_rfl) (by simp only [List.size_toArray, List.length_cons, List.length_nil, Nat.reduceAdd]; rfl) ?_
    intro K hK
    refine hK _ _ ?_
    clear hK K
    refine dw_seq (dw_seq ?_)
    refine dw_k [] TL9_ok (by kernel_rfl) hnt (by kernel_rfl) (by simp only [List.size_toArray, List.length_cons, List.length_nil, Nat.reduceAdd]; rfl) ?_
    intro K hK
    refine hK _ _ ?_
    clear hK K
    refine dw_block ?_
    refine dw_loop (ι := Nat) (fun j => (.t 0, .sl 5 (ePairs l) none) :: (.t 4, .v (.int .i64 (j : Int))) :: (.t 3, .sl 5 (ePairs (l.take j)) (some 3)) :: (.r 3, .rw 63 5 (l.take j).length) :: []) 4 (fun j => l.length - j) 0 (VS.trans (VS.rowT (x := 3) (by rw [hnt]; decide) 63 5 rfl) (VS.toK (by first | omega | simp [hn0]) (by repeat first | exact trivial | refine And.intro (And.intro (by first | rfl | simp [D.ok, D.oks, D.okss, D.okm, eTm_ok, eTy_ok, eTys_ok, eTms_ok, upto, keyOk, ePairs_ok]) (by first | exact Or.inl rfl | exact Or.inr ⟨_, rfl, (by repeat first | exact VLe.refl _ | exact VLe.nil _ | exact VLe.untag _ _ _ | refine VLe.ag ?_ | refine VLe.tu ?_ | refine VLeL.cons ?_ ?_ | exact VLeL.nil), trivial⟩ | simp [get, Key.eq, ePairs_ok])) ?_))) fun j => ?_
    refine dw_seq (dw_seq ?_)
    by_cases hlt : j < l.length
    · have ho := of6_d l[j].2 (hf _ (List.getElem_mem hlt))
      rw [eTm_eq] at ho
      have hq : (ePairs l).getD (j : Int).toNat [] = [.v (.int .i64 l[j].1), .sl 2 (eTys l[j].2.binds) none, .v (.int .i64 l[j].2.kind), .v (.int .i64 l[j].2.index), .sl 4 (eTms l[j].2.args) none] := by rw [Int.toNat_natCast, ePairs_getD l j hlt, ePair_eq]
      have hb : (0 : Int) ≤ (j : Int) ∧ (j : Int) < ((ePairs l).length : Int) := ⟨by omega, by rw [ePairs_len]; omega⟩
      refine dw_k [(8, .v (.bool true))] TL9_ok (by kernel_rfl) hnt (by kernel_rfl) (by simp only [List.size_toArray, List.length_cons, List.length_nil, Nat.reduceAdd]; rfl) ?_
      intro K hK
      refine And.intro (dtrue (by rw [ePairs_len]; omega)) ?_
      refine hK _ _ ?_
      clear hK K
      refine dw_cond (t := true) rfl ?_
      rw [if_pos rfl]
      refine dw_skip ?_
      refine dw_seq (dw_block ?_)
      refine dw_kD [(14, .q [.v (.int .i64 l[j].1), .sl 2 (eTys l[j].2.binds) none, .v (.int .i64 l[j].2.kind), .v (.int .i64 l[j].2.index), .sl 4 (eTms l[j].2.args) none]), (19, .q [.v (.int .i64 l[j].1), .sl 2 (eTys l[j].2.binds) none, .v (.int .i64 l[j].2.kind), .v (.int .i64 l[j].2.index), .sl 4 (eTms l[j].2.args) none]), (25, .sl 5 (ePairs (l.take (j + 1))) (some 3))] TL9_ok (by kernel_rfl) hnt (by kernel_rfl) (by simp only [List.size_toArray, List.length_cons, List.length_nil, Nat.reduceAdd]; rfl) ?_
      intro K hK
      refine And.intro (hb) ?_
      refine And.intro (VLe.of_eq (by rw [hq])) ?_
      refine And.intro (hb) ?_
      refine And.intro (VLe.of_eq (by rw [hq])) ?_
      refine ⟨_, _, _, Or.inl (ho), by repeat first | exact trivial | refine And.intro ⟨rfl, rfl⟩ ?_, ?_⟩
      refine And.intro (⟨by rw [ePairs_len], by rw [ePairs_len, List.length_take]; simp; omega⟩) ?_
      refine And.intro (VLe.of_eq (by rw [ePairs_take l j hlt, ePair_eq])) ?_
      refine hK _ _ (by kernel_rfl) ?_
      clear hK K
      refine dw_k [(10, .v (.int .i64 ((j + 1 : Nat) : Int)))] TL9_ok (by kernel_rfl) hnt (by kernel_rfl) (by simp only [List.size_toArray, List.length_cons, List.length_nil, Nat.reduceAdd]; rfl) ?_
      intro K hK
      refine And.intro (dintE (by rw [IntWalk.i64_in _ (by omega)]; omega)) ?_
      refine hK _ _ ?_
      clear hK K
      have hl2 : (l.take (j + 1)).length = j + 1 := by rw [List.length_take]; omega
      have hl3 : (ePairs (l.take j)).length = j := by rw [ePairs_len, List.length_take]; omega
      refine ⟨j + 1, by omega, ?_⟩
      rw [hl2]
      exact (VS.toK (by first | omega | simp [hn0]) (by repeat first | exact trivial | refine And.intro (And.intro (by first | rfl | simp [D.ok, D.oks, D.okss, D.okm, eTm_ok, eTy_ok, eTys_ok, eTms_ok, upto, keyOk, ePairs_ok, hl3]) (by first | exact Or.inl rfl | exact Or.inr ⟨_, rfl, (by repeat first | exact VLe.refl _ | exact VLe.nil _ | exact VLe.untag _ _ _ | refine VLe.ag ?_ | refine VLe.tu ?_ | refine VLeL.cons ?_ ?_ | exact VLeL.nil), trivial⟩ | simp [get, Key.eq, ePairs_ok, hl3])) ?_))
    · skip
      refine dw_k [(8, .v (.bool false))] TL9_ok (by kernel_rfl) hnt (by kernel_rfl) (by simp only [List.size_toArray, List.length_cons, List.length_nil, Nat.reduceAdd]; rfl) ?_
      intro K hK
      refine And.intro (dfalse (by rw [ePairs_len]; omega)) ?_
      refine hK _ _ ?_
      clear hK K
      refine dw_cond (t := false) rfl ?_
      rw [if_neg (by simp)]
      refine dw_exit ?_
      refine dw_seq ?_
      rw [List.take_of_length_le (by omega)]
      refine dw_k [] TL9_ok (by kernel_rfl) hnt (by kernel_rfl) (by simp only [List.size_toArray, List.length_cons, List.length_nil, Nat.reduceAdd]; rfl) ?_
      intro K hK
      refine hK _ _ ?_
      clear hK K
      refine dw_ret ?_
      exact retv (N := 0) (.inr rfl) rfl (by repeat first | exact VLe.refl _ | exact VLe.nil _ | exact VLe.untag _ _ _ | refine VLe.ag ?_ | refine VLe.tu ?_ | refine VLeL.cons ?_ ?_ | exact VLeL.nil) trivial
end Go.Proofs.YtiblklcfjakjmaaGreat

namespace Go.Proofs.YtiblklcfjakjmaaGreat
open Go.RowKit
def TF4_3 : TI := ⟨1, false, [Value.int IntKind.i64 0], [], none, 8, 2, none⟩
theorem TF4_3_ok : TypOk Tryz.prog 3 TF4_3 := ⟨by kernel_rfl, by kernel_rfl, by kernel_rfl, by kernel_rfl⟩
def TF4_104 : TI := ⟨2, true, [Value.slice none 0 0, Value.int IntKind.i64 0], [(0, 1, false), (1, 1, false)], none, 32, 6, none⟩
theorem TF4_104_ok : TypOk Tryz.prog 104 TF4_104 := ⟨by kernel_rfl, by kernel_rfl, by kernel_rfl, by kernel_rfl⟩
def TF4_22 : TI := ⟨1, false, [Value.slice none 0 0], [], some 104, 24, 5, none⟩
theorem TF4_22_ok : TypOk Tryz.prog 22 TF4_22 := ⟨by kernel_rfl, by kernel_rfl, by kernel_rfl, by kernel_rfl⟩
def TF4 : List (Nat × TI) := [(3, TF4_3), (104, TF4_104), (22, TF4_22)]
theorem TF4_ok : TabOk Tryz.prog TF4 := ((((TabOk.nil _).cons TF4_22_ok).cons TF4_104_ok).cons TF4_3_ok)

mutual
def fewT (most : Int) : Ty → Int → Int
  | .mk a _, d => if d ≤ 0 then most + 1 else fewTs most a (d - 1) 1
def fewTs (most : Int) : List Ty → Int → Int → Int
  | [], _, n => n
  | t :: l, d, n => if n ≤ most then fewTs most l d (n + fewT most t d) else n
end
theorem fewTs_le {most : Int} (hm : 0 ≤ most) {B : Int} (hB : 0 ≤ B) : ∀ (l : List Ty) (d n : Int), (∀ t ∈ l, 1 ≤ fewT most t d ∧ fewT most t d ≤ B) → 1 ≤ n → n ≤ most + B → 1 ≤ fewTs most l d n ∧ fewTs most l d n ≤ most + B
  | [], d, n, _, h0, h1 => by rw [fewTs]; exact ⟨h0, h1⟩
  | t :: l, d, n, h, h0, h1 => by
    rw [fewTs]
    split
    · have := h t (by simp)
      exact fewTs_le hm hB l d _ (fun u hu => h u (by simp [hu])) (by omega) (by omega)
    · exact ⟨h0, h1⟩
theorem fewT_le {most : Int} (hm : 1 ≤ most) : ∀ (k : Nat) (t : Ty) (d : Int), d ≤ k → 1 ≤ fewT most t d ∧ fewT most t d ≤ most * k + most + 1
  | 0, .mk a b, d, hd => by
    rw [fewT, if_pos (by omega)]
    have e : most * ((0 : Nat) : Int) = 0 := Int.mul_zero _
    rw [e]; omega
  | k + 1, .mk a b, d, hd => by
    rw [fewT]
    have e : most * ((k + 1 : Nat) : Int) = most * (k : Int) + most := by rw [Int.natCast_add, Int.mul_add]; simp
    have h0 : 0 ≤ most * (k : Int) := Int.mul_nonneg (by omega) (by omega)
    split
    · rw [e]; omega
    · have := fewTs_le (most := most) (by omega) (B := most * k + most + 1) (by omega) a (d - 1) 1 (fun t _ => fewT_le hm k t (d - 1) (by omega)) (by omega) (by omega)
      rw [e]; omega
set_option maxHeartbeats 1000000 in
theorem few4_d (most : Int) (h1 : 1 ≤ most) (h2 : most ≤ 1000) : ∀ (t : Ty) (d : Int), -1000 ≤ d → d ≤ 1000 → PureC Tryz.prog 98 [.ag (eTy t), .v (.int .i64 most), .v (.int .i64 d)] (.v (.int .i64 (fewT most t d))) := by
  intro t
  induction t using Ty.ind with
  | h a b ih =>
  intro d hd1 hd2
  refine call_of_dw 0 37 [ResultVar.tmp 6] TF4_ok (by kernel_rfl) Tryz.func98 rfl Tryz.ntmps98 rfl (by simp) ?dwords ?dbody
  case dwords => simp [wordsOk, D.ok, D.oks, rnames, eTy_ok]
  case dbody =>
    intro cx hnt hn0
    refine dw_seq ?_
    refine dw_k [] TF4_ok (by kernel_rfl) hnt (by kernel_rfl) (by simp only [List.size_toArray, List.length_cons, List.length_nil, Nat.reduceAdd]; rfl) ?_
    intro K hK
    refine hK _ _ ?_
    clear hK K
    refine dw_seq (dw_seq ?_)
    by_cases hd : d ≤ 0
    · have hf : fewT most (.mk a b) d = most + 1 := by rw [fewT, if_pos hd]
      rw [hf]
      refine dw_k [(10, .v (.bool true))] TF4_ok (by kernel_rfl) hnt (by kernel_rfl) (by simp only [List.size_toArray, List.length_cons, List.length_nil, Nat.reduceAdd]; rfl) ?_
      intro K hK
      refine And.intro (dtrue hd) ?_
      refine hK _ _ ?_
      clear hK K
      refine dw_cond (t := true) rfl ?_
      rw [if_pos rfl]
      refine dw_seq ?_
      refine dw_k [(12, .v (.int .i64 (most + 1)))] TF4_ok (by kernel_rfl) hnt (by kernel_rfl) (by simp only [List.size_toArray, List.length_cons, List.length_nil, Nat.reduceAdd]; rfl) ?_
      intro K hK
      refine And.intro (dintE (IntWalk.i64_in _ (by omega))) ?_
      refine hK _ _ ?_
      clear hK K
      refine dw_ret ?_
      exact retv (N := 0) (.inr rfl) rfl (VLe.refl _) trivial
    · have hf : fewT most (.mk a b) d = fewTs most a (d - 1) 1 := by rw [fewT, if_neg hd]
      rw [hf]
      refine dw_k [(10, .v (.bool false))] TF4_ok (by kernel_rfl) hnt (by kernel_rfl) (by simp only [List.size_toArray, List.length_cons, List.length_nil, Nat.reduceAdd]; rfl) ?_
      intro K hK
      refine And.intro (dfalse hd) ?_
      refine hK _ _ ?_
      clear hK K
      refine dw_cond (t := false) rfl ?_
      rw [if_neg (by simp)]
      refine dw_skip ?_
      refine dw_seq ?_
      refine dw_k [] TF4_ok (by kernel_rfl) hnt (by kernel_rfl) (by simp only [List.size_toArray, List.length_cons, List.length_nil, Nat.reduceAdd]; rfl) ?_
      intro K hK
      refine hK _ _ ?_
      clear hK K
      refine dw_seq (dw_seq ?_)
      refine dw_k [] TF4_ok (by kernel_rfl) hnt (by kernel_rfl) (by simp only [List.size_toArray, List.length_cons, List.length_nil, Nat.reduceAdd]; rfl) ?_
      intro K hK
      refine hK _ _ ?_
      clear hK K
      refine dw_block ?_
      refine dw_loop (ι := { p : Nat × Int // fewTs most (a.drop p.1) (d - 1) p.2 = fewTs most a (d - 1) 1 ∧ (p.1 : Int) + 1 ≤ p.2 ∧ p.2 ≤ 2000000 ∧ p.1 ≤ a.length }) (fun p => [(.t 1, .v (.int .i64 most)), (.t 2, .v (.int .i64 d)), (.t 3, .p 0 0), (.t 7, .v (.int .i64 p.1.2)), (.t 8, .v (.int .i64 (p.1.1 : Int))), (.c 0 0, .sl 2 (eTys a) none), (.c 0 1, .v (.int .i64 b))]) 1 (fun p => a.length - p.1.1) ⟨(0, 1), by simp, by simp, by simp, by simp⟩ (VS.toK (by first | omega | simp [hn0]) (by repeat first | exact trivial | refine And.intro (And.intro (by first | rfl | simp [D.ok, D.oks, D.okss, D.okm, eTm_ok, eTy_ok, eTys_ok, eTms_ok, upto, keyOk]) (by first | exact Or.inl rfl | exact Or.inr ⟨_, rfl, (by repeat first | exact VLe.refl _ | exact VLe.nil _ | exact VLe.untag _ _ _ | refine VLe.ag ?_ | refine VLe.tu ?_ | refine VLeL.cons ?_ ?_ | exact VLeL.nil), trivial⟩ | simp [get, Key.eq])) ?_)) fun p => ?_
      obtain ⟨⟨j, n⟩, hj1, hj2, hj3, hj4⟩ := p
      dsimp only at hj1 hj2 hj3 hj4 ⊢
      refine dw_seq (dw_seq ?_)
      by_cases hlt : j < a.length
      · have hdr : a.drop j = a[j] :: a.drop (j + 1) := List.drop_eq_getElem_cons hlt
        rw [hdr, fewTs] at hj1
        by_cases hn : n ≤ most
        · rw [if_pos hn] at hj1
          have hih := ih a[j] (List.getElem_mem hlt) (d - 1) (by omega) (by omega)
          rw [eTy_eq] at hih
          have hbd := fewT_le h1 1000 a[j] (d - 1) (by omega)
          have hbd2 : most * ((1000 : Nat) : Int) ≤ 1000000 := by
            have : most * ((1000 : Nat) : Int) = 1000 * most := by rw [Int.mul_comm]; rfl
            omega
          refine dw_k [(17, .v (.bool true)), (21, .v (.bool true))] TF4_ok (by kernel_rfl) hnt (by kernel_rfl) (by simp only [List.size_toArray, List.length_cons, List.length_nil, Nat.reduceAdd]; rfl) ?_
          intro K hK
          refine And.intro (dtrue (by rw [eTys_len]; omega)) ?_
          refine And.intro (dtrue hn) ?_
          refine hK _ _ ?_
          clear hK K
          refine dw_cond (t := true) rfl ?_
          rw [if_pos rfl]
          refine dw_skip ?_
          refine dw_seq (dw_block ?_)
          refine dw_k [(29, .q [.sl 2 (eTys a[j].args) none, .v (.int .i64 a[j].base)]), (33, .v (.int .i64 (d - 1))), (35, .v (.int .i64 (n + fewT most a[j] (d - 1))))] TF4_ok (by kernel_rfl) hnt (by kernel_rfl) (by simp only [List.size_toArray, List.length_cons, List.length_nil, Nat.reduceAdd]; rfl) ?_
          intro K hK
          refine And.intro (⟨by omega, by rw [eTys_len]; omega⟩) ?_
          refine And.intro (VLe.of_eq (by rw [Int.toNat_natCast, eTys_getD a j hlt, eTy_eq])) ?_
          refine And.intro (dintE (IntWalk.i64_in _ (by omega))) ?_
          refine ⟨_, _, _, Or.inl (hih), by repeat first | exact trivial | refine And.intro ⟨rfl, rfl⟩ ?_, ?_⟩
          refine And.intro (dintE (IntWalk.i64_in _ (by omega))) ?_
          refine hK _ _ ?_
          clear hK K
          refine dw_k [(24, .v (.int .i64 ((j + 1 : Nat) : Int)))] TF4_ok (by kernel_rfl) hnt (by kernel_rfl) (by simp only [List.size_toArray, List.length_cons, List.length_nil, Nat.reduceAdd]; rfl) ?_
          intro K hK
          refine And.intro (dintE (by rw [IntWalk.i64_in _ (by omega)]; omega)) ?_
          refine hK _ _ ?_
          clear hK K
          exact ⟨⟨(j + 1, n + fewT most a[j] (d - 1)), hj1, by dsimp only; omega, by dsimp only; omega, hlt⟩, by dsimp only; omega, (VS.toK (by first | omega | simp [hn0]) (by repeat first | exact trivial | refine And.intro (And.intro (by first | rfl | simp [D.ok, D.oks, D.okss, D.okm, eTm_ok, eTy_ok, eTys_ok, eTms_ok, upto, keyOk]) (by first | exact Or.inl rfl | exact Or.inr ⟨_, rfl, (by repeat first | exact VLe.refl _ | exact VLe.nil _ | exact VLe.untag _ _ _ | refine VLe.ag ?_ | refine VLe.tu ?_ | refine VLeL.cons ?_ ?_ | exact VLeL.nil), trivial⟩ | simp [get, Key.eq])) ?_))⟩
        · rw [if_neg hn] at hj1
          rw [← hj1]
          refine dw_k [(17, .v (.bool true)), (21, .v (.bool false))] TF4_ok (by kernel_rfl) hnt (by kernel_rfl) (by simp only [List.size_toArray, List.length_cons, List.length_nil, Nat.reduceAdd]; rfl) ?_
          intro K hK
          refine And.intro (dtrue (by rw [eTys_len]; omega)) ?_
          refine And.intro (dfalse hn) ?_
          refine hK _ _ ?_
          clear hK K
          refine dw_cond (t := false) rfl ?_
          rw [if_neg (by simp)]
          refine dw_exit ?_
          refine dw_seq ?_
          refine dw_k [] TF4_ok (by kernel_rfl) hnt (by kernel_rfl) (by simp only [List.size_toArray, List.length_cons, List.length_nil, Nat.reduceAdd]; rfl) ?_
          intro K hK
          refine hK _ _ ?_
          clear hK K
          refine dw_ret ?_
          exact retv (N := 0) (.inr rfl) rfl (VLe.refl _) trivial
      · rw [List.drop_eq_nil_of_le (by omega), fewTs] at hj1
        rw [← hj1]
        refine dw_k [(17, .v (.bool false))] TF4_ok (by kernel_rfl) hnt (by kernel_rfl) (by simp only [List.size_toArray, List.length_cons, List.length_nil, Nat.reduceAdd]; rfl) ?_
        intro K hK
        refine And.intro (dfalse (by rw [eTys_len]; omega)) ?_
        refine hK _ _ ?_
        clear hK K
        refine dw_cond (t := false) rfl ?_
        rw [if_neg (by simp)]
        refine dw_exit ?_
        refine dw_seq ?_
        refine dw_k [] TF4_ok (by kernel_rfl) hnt (by kernel_rfl) (by simp only [List.size_toArray, List.length_cons, List.length_nil, Nat.reduceAdd]; rfl) ?_
        intro K hK
        refine hK _ _ ?_
        clear hK K
        refine dw_ret ?_
        exact retv (N := 0) (.inr rfl) rfl (VLe.refl _) trivial
theorem fewTs_size {most : Int} : ∀ (l : List Ty) (d n : Int), (∀ t ∈ l, fewT most t d ≤ most → (t.size : Int) = fewT most t d) → (∀ t ∈ l, 1 ≤ fewT most t d) → 1 ≤ n → fewTs most l d n ≤ most → fewTs most l d n = n + Ty.sizes l
  | [], d, n, _, _, _, _ => by rw [fewTs]; simp [Ty.sizes]
  | t :: l, d, n, h, h1, hn, hf => by
    rw [fewTs] at hf ⊢
    split at hf
    · rename_i hm
      rw [if_pos hm]
      have h2 := h1 t (by simp)
      have h3 := fewTs_size l d _ (fun u hu => h u (by simp [hu])) (fun u hu => h1 u (by simp [hu])) (by omega) hf
      have h4 : fewT most t d ≤ most := by omega
      have h5 := h t (by simp) h4
      rw [h3, Ty.sizes]; omega
    · rename_i hm; omega
theorem fewT_size {most : Int} (hm : 1 ≤ most) : ∀ (k : Nat) (t : Ty) (d : Int), d ≤ k → fewT most t d ≤ most → (t.size : Int) = fewT most t d
  | 0, .mk a b, d, hd, h => by rw [fewT, if_pos (by omega)] at h; omega
  | k + 1, .mk a b, d, hd, h => by
    rw [fewT] at h ⊢
    split at h
    · omega
    · rename_i hp
      rw [if_neg hp]
      have := fewTs_size a (d - 1) 1 (fun t _ => fewT_size hm k t (d - 1) (by omega)) (fun t _ => (fewT_le hm k t (d - 1) (by omega)).1) (by omega) h
      rw [this, Ty.size_eq]; omega
theorem Few4_d (most : Int) (h1 : 1 ≤ most) (h2 : most ≤ 1000) (t : Ty) (d : Int) (h3 : -1000 ≤ d) (h4 : d ≤ 1000) : PureC Tryz.prog 52 [.ag (eTy t), .v (.int .i64 most), .v (.int .i64 d)] (.v (.bool (decide (fewT most t d ≤ most)))) := by
  have h := few4_d most h1 h2 t d h3 h4
  rw [eTy_eq] at h ⊢
  refine call_of_dw 0 13 [ResultVar.tmp 6] TF4_ok (by kernel_rfl) Tryz.func52 rfl Tryz.ntmps52 rfl (by simp) ?dwords ?dbody
  case dwords => simp [wordsOk, D.ok, D.oks, rnames, eTys_ok]
  case dbody =>
    intro cx hnt hn0
    refine dw_seq ?_
    refine dw_k [] TF4_ok (by kernel_rfl) hnt (by kernel_rfl) (by simp only [List.size_toArray, List.length_cons, List.length_nil, Nat.reduceAdd]; rfl) ?_
    intro K hK
    refine hK _ _ ?_
    clear hK K
    refine dw_seq ?_
    refine dw_k [] TF4_ok (by kernel_rfl) hnt (by kernel_rfl) (by simp only [List.size_toArray, List.length_cons, List.length_nil, Nat.reduceAdd]; rfl) ?_
    intro K hK
    refine ⟨_, _, _, Or.inl (h), by repeat first | exact trivial | refine And.intro ⟨rfl, rfl⟩ ?_, ?_⟩
    refine hK _ _ ?_
    clear hK K
    refine dw_ret ?_
    exact retv (N := 0) (.inr rfl) rfl (VLe.refl _) trivial
set_option maxHeartbeats 1000000 in
theorem Size4_d : ∀ (t : Ty) (_ : t.size ≤ 1000000), PureC Tryz.prog 111 [.ag (eTy t)] (.v (.int .i64 (t.size : Int))) := by
  intro t
  induction t using Ty.ind with
  | h a b ih =>
  intro hsz
  have hsz2 := Ty.size_eq a b
  refine call_of_dw 0 21 [ResultVar.tmp 2] TF4_ok (by kernel_rfl) Tryz.func111 rfl Tryz.ntmps111 rfl (by simp) ?dwords ?dbody
  case dwords => simp [wordsOk, D.ok, D.oks, rnames, eTy_ok]
  case dbody =>
    intro cx hnt hn0
    refine dw_seq ?_
    refine dw_k [] TF4_ok (by kernel_rfl) hnt (by kernel_rfl) (by simp only [List.size_toArray, List.length_cons, List.length_nil, Nat.reduceAdd]; rfl) ?_
    intro K hK
    refine hK _ _ ?_
    clear hK K
    refine dw_seq ?_
    refine dw_k [] TF4_ok (by kernel_rfl) hnt (by kernel_rfl) (by simp only [List.size_toArray, List.length_cons, List.length_nil, Nat.reduceAdd]; rfl) ?_
    intro K hK
    refine hK _ _ ?_
    clear hK K
    refine dw_seq (dw_seq ?_)
    refine dw_k [] TF4_ok (by kernel_rfl) hnt (by kernel_rfl) (by simp only [List.size_toArray, List.length_cons, List.length_nil, Nat.reduceAdd]; rfl) ?_
    intro K hK
    refine hK _ _ ?_
    clear hK K
    refine dw_block ?_
    refine dw_loop (ι := { j : Nat // j ≤ a.length }) (fun j => [(.t 1, .p 0 0), (.t 3, .v (.int .i64 ((Ty.sizes (a.take j.1) : Int) + 1))), (.t 4, .v (.int .i64 (j.1 : Int))), (.c 0 0, .sl 2 (eTys a) none), (.c 0 1, .v (.int .i64 b))]) 1 (fun j => a.length - j.1) ⟨0, Nat.zero_le _⟩ (VS.toK (by first | omega | simp [hn0]) (by repeat first | exact trivial | refine And.intro (And.intro (by first | rfl | simp [D.ok, D.oks, D.okss, D.okm, eTm_ok, eTy_ok, eTys_ok, eTms_ok, upto, keyOk]) (by first | exact Or.inl rfl | exact Or.inr ⟨_, rfl, (by repeat first | exact VLe.refl _ | exact VLe.nil _ | exact VLe.untag _ _ _ | refine VLe.ag ?_ | refine VLe.tu ?_ | refine VLeL.cons ?_ ?_ | exact VLeL.nil), trivial⟩ | simp [get, Key.eq])) ?_)) fun j => ?_
    obtain ⟨j, hj⟩ := j
    dsimp only
    have hst := Ty.sizes_take_le a j
    have hst2 := Ty.sizes_take_le a (j + 1)
    have hla := Ty.le_sizes a
    refine dw_seq (dw_seq ?_)
    by_cases hlt : j < a.length
    · have hih := ih a[j] (List.getElem_mem hlt) (by have := Ty.size_get (b := b) j hlt; omega)
      rw [eTy_eq] at hih
      have htk := Ty.sizes_take a j hlt
      refine dw_k [(9, .v (.bool true))] TF4_ok (by kernel_rfl) hnt (by kernel_rfl) (by simp only [List.size_toArray, List.length_cons, List.length_nil, Nat.reduceAdd]; rfl) ?_
      intro K hK
      refine And.intro (dtrue (by rw [eTys_len]; omega)) ?_
      refine hK _ _ ?_
      clear hK K
      refine dw_cond (t := true) rfl ?_
      rw [if_pos rfl]
      refine dw_skip ?_
      refine dw_seq (dw_block ?_)
      refine dw_k [(16, .q [.sl 2 (eTys a[j].args) none, .v (.int .i64 a[j].base)]), (19, .v (.int .i64 ((Ty.sizes (a.take (j + 1)) : Int) + 1)))] TF4_ok (by kernel_rfl) hnt (by kernel_rfl) (by simp only [List.size_toArray, List.length_cons, List.length_nil, Nat.reduceAdd]; rfl) ?_
      intro K hK
      refine And.intro (⟨by omega, by rw [eTys_len]; omega⟩) ?_
      refine And.intro (VLe.of_eq (by rw [Int.toNat_natCast, eTys_getD a j hlt, eTy_eq])) ?_
      refine ⟨_, _, _, Or.inl (hih), by repeat first | exact trivial | refine And.intro ⟨rfl, rfl⟩ ?_, ?_⟩
      refine And.intro (dintE (by rw [IntWalk.i64_in _ (by omega), htk]; omega)) ?_
      refine hK _ _ ?_
      clear hK K
      refine dw_k [(11, .v (.int .i64 ((j + 1 : Nat) : Int)))] TF4_ok (by kernel_rfl) hnt (by kernel_rfl) (by simp only [List.size_toArray, List.length_cons, List.length_nil, Nat.reduceAdd]; rfl) ?_
      intro K hK
      refine And.intro (dintE (by rw [IntWalk.i64_in _ (by omega)]; omega)) ?_
      refine hK _ _ ?_
      clear hK K
      exact ⟨⟨j + 1, hlt⟩, by dsimp only; omega, (VS.toK (by first | omega | simp [hn0]) (by repeat first | exact trivial | refine And.intro (And.intro (by first | rfl | simp [D.ok, D.oks, D.okss, D.okm, eTm_ok, eTy_ok, eTys_ok, eTms_ok, upto, keyOk]) (by first | exact Or.inl rfl | exact Or.inr ⟨_, rfl, (by repeat first | exact VLe.refl _ | exact VLe.nil _ | exact VLe.untag _ _ _ | refine VLe.ag ?_ | refine VLe.tu ?_ | refine VLeL.cons ?_ ?_ | exact VLeL.nil), trivial⟩ | simp [get, Key.eq])) ?_))⟩
    · skip
      refine dw_k [(9, .v (.bool false))] TF4_ok (by kernel_rfl) hnt (by kernel_rfl) (by simp only [List.size_toArray, List.length_cons, List.length_nil, Nat.reduceAdd]; rfl) ?_
      intro K hK
      refine And.intro (dfalse (by rw [eTys_len]; omega)) ?_
      refine hK _ _ ?_
      clear hK K
      refine dw_cond (t := false) rfl ?_
      rw [if_neg (by simp)]
      refine dw_exit ?_
      refine dw_seq ?_
      have hsz3 : ((Ty.mk a b).size : Int) = (Ty.sizes (a.take j) : Int) + 1 := by rw [List.take_of_length_le (by omega), hsz2]; omega
      rw [hsz3]
      refine dw_k [] TF4_ok (by kernel_rfl) hnt (by kernel_rfl) (by simp only [List.size_toArray, List.length_cons, List.length_nil, Nat.reduceAdd]; rfl) ?_
      intro K hK
      refine hK _ _ ?_
      clear hK K
      refine dw_ret ?_
      exact retv (N := 0) (.inr rfl) rfl (VLe.refl _) trivial
end Go.Proofs.YtiblklcfjakjmaaGreat

namespace Go.Proofs.YtiblklcfjakjmaaGreat
open Go.RowKit
def TF6_3 : TI := ⟨1, false, [Value.int IntKind.i64 0], [], none, 8, 2, none⟩
theorem TF6_3_ok : TypOk Tryz.prog 3 TF6_3 := ⟨by kernel_rfl, by kernel_rfl, by kernel_rfl, by kernel_rfl⟩
def TF6_47 : TI := ⟨4, true, [Value.slice none 0 0, Value.int IntKind.i64 0, Value.int IntKind.i64 0, Value.slice none 0 0], [(0, 1, false), (1, 2, true), (3, 1, false)], none, 64, 6, none⟩
theorem TF6_47_ok : TypOk Tryz.prog 47 TF6_47 := ⟨by kernel_rfl, by kernel_rfl, by kernel_rfl, by kernel_rfl⟩
def TF6_22 : TI := ⟨1, false, [Value.slice none 0 0], [], some 104, 24, 5, none⟩
theorem TF6_22_ok : TypOk Tryz.prog 22 TF6_22 := ⟨by kernel_rfl, by kernel_rfl, by kernel_rfl, by kernel_rfl⟩
def TF6_45 : TI := ⟨1, false, [Value.slice none 0 0], [], some 47, 24, 5, none⟩
theorem TF6_45_ok : TypOk Tryz.prog 45 TF6_45 := ⟨by kernel_rfl, by kernel_rfl, by kernel_rfl, by kernel_rfl⟩
def TF6_104 : TI := ⟨2, true, [Value.slice none 0 0, Value.int IntKind.i64 0], [(0, 1, false), (1, 1, false)], none, 32, 6, none⟩
theorem TF6_104_ok : TypOk Tryz.prog 104 TF6_104 := ⟨by kernel_rfl, by kernel_rfl, by kernel_rfl, by kernel_rfl⟩
def TF6 : List (Nat × TI) := [(3, TF6_3), (47, TF6_47), (22, TF6_22), (45, TF6_45), (104, TF6_104)]
theorem TF6_ok : TabOk Tryz.prog TF6 := ((((((TabOk.nil _).cons TF6_104_ok).cons TF6_45_ok).cons TF6_22_ok).cons TF6_47_ok).cons TF6_3_ok)

def fewB1 (most d : Int) : List Ty → Int → Option Int
  | [], n => some n
  | t :: l, n => if n ≤ most then (if fewT most t d ≤ most then fewB1 most d l (n + t.size) else none) else some n
mutual
def fewM (most : Int) : Tm → Int → Int
  | .mk bs _ _ a, d => if d ≤ 0 then most + 1 else match fewB1 most d bs 1 with
    | none => most + 1
    | some n => fewMs most a (d - 1) n
def fewMs (most : Int) : List Tm → Int → Int → Int
  | [], _, n => n
  | t :: l, d, n => if n ≤ most then fewMs most l d (n + fewM most t d) else n
end
theorem fewB1_le {most d : Int} (hm : 1 ≤ most) (hd : d ≤ 1000) : ∀ (l : List Ty) (n : Int), 1 ≤ n → n ≤ 2 * most → ∀ r, fewB1 most d l n = some r → 1 ≤ r ∧ r ≤ 2 * most
  | [], n, h0, h1, r, h => by rw [fewB1] at h; cases h; exact ⟨h0, h1⟩
  | t :: l, n, h0, h1, r, h => by
    rw [fewB1] at h
    split at h
    · split at h
      · rename_i h2
        have := fewT_size hm 1000 t d hd h2
        have := (fewT_le hm 1000 t d hd).1
        exact fewB1_le hm hd l _ (by omega) (by omega) r h
      · cases h
    · cases h; exact ⟨h0, h1⟩
theorem fewMs_le {most : Int} (hm : 1 ≤ most) {B : Int} (hB : most ≤ B) : ∀ (l : List Tm) (d n : Int), (∀ t ∈ l, 1 ≤ fewM most t d ∧ fewM most t d ≤ B) → 1 ≤ n → n ≤ most + B → 1 ≤ fewMs most l d n ∧ fewMs most l d n ≤ most + B
  | [], d, n, _, h0, h1 => by rw [fewMs]; exact ⟨h0, h1⟩
  | t :: l, d, n, h, h0, h1 => by
    rw [fewMs]
    split
    · have := h t (by simp)
      exact fewMs_le hm hB l d _ (fun u hu => h u (by simp [hu])) (by omega) (by omega)
    · exact ⟨h0, h1⟩
theorem fewM_le {most : Int} (hm : 1 ≤ most) : ∀ (k : Nat) (t : Tm) (d : Int), k ≤ 1000 → d ≤ k → 1 ≤ fewM most t d ∧ fewM most t d ≤ most * k + most + 1
  | 0, .mk bs kd i a, d, hk, hd => by
    rw [fewM, if_pos (by omega)]
    have e : most * ((0 : Nat) : Int) = 0 := Int.mul_zero _
    rw [e]; omega
  | k + 1, .mk bs kd i a, d, hk, hd => by
    rw [fewM]
    have e : most * ((k + 1 : Nat) : Int) = most * (k : Int) + most := by rw [Int.natCast_add, Int.mul_add]; simp
    have h0 : 0 ≤ most * (k : Int) := Int.mul_nonneg (by omega) (by omega)
    rw [e]
    split
    · omega
    · cases hb : fewB1 most d bs 1 with
      | none => dsimp only; omega
      | some n =>
        have hn := fewB1_le hm (by omega) bs 1 (by omega) (by omega) n hb
        have := fewMs_le hm (B := most * k + most + 1) (by omega) a (d - 1) n (fun t _ => fewM_le hm k t (d - 1) (by omega) (by omega)) hn.1 (by omega)
        dsimp only
        omega
set_option maxHeartbeats 4000000 in
theorem few6_d (most : Int) (h1 : 1 ≤ most) (h2 : most ≤ 1000) : ∀ (t : Tm) (d : Int), -1000 ≤ d → d ≤ 1000 → PureC Tryz.prog 72 [.ag (eTm t), .v (.int .i64 most), .v (.int .i64 d)] (.v (.int .i64 (fewM most t d))) := by
  intro t
  induction t using Tm.ind with
  | h bs k i a ih =>
  intro d hd1 hd2
  obtain ⟨V, hV⟩ : ∃ V, fewM most (.mk bs k i a) d = V := ⟨_, rfl⟩
  rw [hV]
  rw [fewM] at hV
  refine call_of_dw 0 69 [ResultVar.tmp 6] TF6_ok (by kernel_rfl) Tryz.func72 rfl Tryz.ntmps72 rfl (by simp) ?dwords ?dbody
  case dwords => simp [wordsOk, D.ok, D.oks, rnames, eTm_ok]
  case dbody =>
    intro cx hnt hn0
    refine dw_seq ?_
    refine dw_k [] TF6_ok (by kernel_rfl) hnt (by kernel_rfl) (by simp only [List.size_toArray, List.length_cons, List.length_nil, Nat.reduceAdd]; rfl) ?_
    intro K hK
    refine hK _ _ ?_
    clear hK K
    refine dw_seq (dw_seq ?_)
    by_cases hd : d ≤ 0
    · rw [if_pos hd] at hV
      subst hV
      refine dw_k [(11, .v (.bool true))] TF6_ok (by kernel_rfl) hnt (by kernel_rfl) (by simp only [List.size_toArray, List.length_cons, List.length_nil, Nat.reduceAdd]; rfl) ?_
      intro K hK
      refine And.intro (dtrue hd) ?_
      refine hK _ _ ?_
      clear hK K
      refine dw_cond (t := true) rfl ?_
      rw [if_pos rfl]
      refine dw_seq ?_
      refine dw_k [(13, .v (.int .i64 (most + 1)))] TF6_ok (by kernel_rfl) hnt (by kernel_rfl) (by simp only [List.size_toArray, List.length_cons, List.length_nil, Nat.reduceAdd]; rfl) ?_
      intro K hK
      refine And.intro (dintE (IntWalk.i64_in _ (by omega))) ?_
      refine hK _ _ ?_
      clear hK K
      refine dw_ret ?_
      exact retv (N := 0) (.inr rfl) rfl (VLe.refl _) trivial
    · rw [if_neg hd] at hV
      refine dw_k [(11, .v (.bool false))] TF6_ok (by kernel_rfl) hnt (by kernel_rfl) (by simp only [List.size_toArray, List.length_cons, List.length_nil, Nat.reduceAdd]; rfl) ?_
      intro K hK
      refine And.intro (dfalse hd) ?_
      refine hK _ _ ?_
      clear hK K
      refine dw_cond (t := false) rfl ?_
      rw [if_neg (by simp)]
      refine dw_skip ?_
      refine dw_seq ?_
      refine dw_k [] TF6_ok (by kernel_rfl) hnt (by kernel_rfl) (by simp only [List.size_toArray, List.length_cons, List.length_nil, Nat.reduceAdd]; rfl) ?_
      intro K hK
      refine hK _ _ ?_
      clear hK K
      refine dw_cutE (ι := { n : Int // 1 ≤ n ∧ n ≤ 2 * most ∧ V = fewMs most a (d - 1) n }) (fun n => [(.t 1, .v (.int .i64 most)), (.t 2, .v (.int .i64 d)), (.t 3, .p 0 0), (.t 7, .v (.int .i64 n.1)), (.c 0 0, .sl 2 (eTys bs) none), (.c 0 1, .v (.int .i64 k)), (.c 0 2, .v (.int .i64 i)), (.c 0 3, .sl 4 (eTms a) none)]) 1 ?_ fun n => ?_
      · refine dw_seq ?_
        refine dw_k [] TF6_ok (by kernel_rfl) hnt (by kernel_rfl) (by simp only [List.size_toArray, List.length_cons, List.length_nil, Nat.reduceAdd]; rfl) ?_
        intro K hK
        refine hK _ _ ?_
        clear hK K
        refine dw_block ?_
        refine dw_loop (ι := { p : Nat × Int // fewB1 most d (bs.drop p.1) p.2 = fewB1 most d bs 1 ∧ (p.1 : Int) + 1 ≤ p.2 ∧ p.2 ≤ 2 * most ∧ p.1 ≤ bs.length }) (fun p => [(.t 1, .v (.int .i64 most)), (.t 2, .v (.int .i64 d)), (.t 3, .p 0 0), (.t 7, .v (.int .i64 p.1.2)), (.t 8, .v (.int .i64 (p.1.1 : Int))), (.c 0 0, .sl 2 (eTys bs) none), (.c 0 1, .v (.int .i64 k)), (.c 0 2, .v (.int .i64 i)), (.c 0 3, .sl 4 (eTms a) none)]) 1 (fun p => bs.length - p.1.1) ⟨(0, 1), by simp, by simp, by dsimp only; omega, by simp⟩ (VS.toK (by first | omega | simp [hn0]) (by repeat first | exact trivial | refine And.intro (And.intro (by first | rfl | simp [D.ok, D.oks, D.okss, D.okm, eTm_ok, eTy_ok, eTys_ok, eTms_ok, upto, keyOk]) (by first | exact Or.inl rfl | exact Or.inr ⟨_, rfl, (by repeat first | exact VLe.refl _ | exact VLe.nil _ | exact VLe.untag _ _ _ | refine VLe.ag ?_ | refine VLe.tu ?_ | refine VLeL.cons ?_ ?_ | exact VLeL.nil), trivial⟩ | simp [get, Key.eq])) ?_)) fun p => ?_
        obtain ⟨⟨j, n⟩, hj1, hj2, hj3, hj4⟩ := p
        dsimp only at hj1 hj2 hj3 hj4 ⊢
        refine dw_seq (dw_seq ?_)
        by_cases hlt : j < bs.length
        · have hdr : bs.drop j = bs[j] :: bs.drop (j + 1) := List.drop_eq_getElem_cons hlt
          rw [hdr, fewB1] at hj1
          by_cases hn : n ≤ most
          · rw [if_pos hn] at hj1
            have hF := Few4_d most h1 h2 bs[j] d hd1 hd2
            rw [eTy_eq] at hF
            have hq : (eTys bs).getD (j : Int).toNat [] = [.sl 2 (eTys bs[j].args) none, .v (.int .i64 bs[j].base)] := by rw [Int.toNat_natCast, eTys_getD bs j hlt, eTy_eq]
            have hb : (0 : Int) ≤ (j : Int) ∧ (j : Int) < ((eTys bs).length : Int) := ⟨by omega, by rw [eTys_len]; omega⟩
            refine dw_k [(18, .v (.bool true)), (22, .v (.bool true))] TF6_ok (by kernel_rfl) hnt (by kernel_rfl) (by simp only [List.size_toArray, List.length_cons, List.length_nil, Nat.reduceAdd]; rfl) ?_
            intro K hK
            refine And.intro (dtrue (by rw [eTys_len]; omega)) ?_
            refine And.intro (dtrue hn) ?_
            refine hK _ _ ?_
            clear hK K
            refine dw_cond (t := true) rfl ?_
            rw [if_pos rfl]
            refine dw_skip ?_
            refine dw_seq (dw_block ?_)
            refine dw_seq (dw_seq ?_)
            by_cases hff : fewT most bs[j] d ≤ most
            · rw [if_pos hff] at hj1
              rw [decide_eq_true hff] at hF
              have hs1 := fewT_size h1 1000 bs[j] d (by omega) hff
              have hs2 := (fewT_le h1 1000 bs[j] d (by omega)).1
              have hS := Size4_d bs[j] (by omega)
              rw [eTy_eq] at hS
              refine dw_k [(29, .q [.sl 2 (eTys bs[j].args) none, .v (.int .i64 bs[j].base)])] TF6_ok (by kernel_rfl) hnt (by kernel_rfl) (by simp only [List.size_toArray, List.length_cons, List.length_nil, Nat.reduceAdd]; rfl) ?_
              intro K hK
              refine And.intro (hb) ?_
              refine And.intro (VLe.of_eq (by rw [hq])) ?_
              refine ⟨_, _, _, Or.inl (hF), by repeat first | exact trivial | refine And.intro ⟨rfl, rfl⟩ ?_, ?_⟩
              refine hK _ _ ?_
              clear hK K
              refine dw_cond (t := false) rfl ?_
              rw [if_neg (by simp)]
              refine dw_skip ?_
              refine dw_k [(41, .q [.sl 2 (eTys bs[j].args) none, .v (.int .i64 bs[j].base)]), (44, .v (.int .i64 (n + (bs[j].size : Int))))] TF6_ok (by kernel_rfl) hnt (by kernel_rfl) (by simp only [List.size_toArray, List.length_cons, List.length_nil, Nat.reduceAdd]; rfl) ?_
              intro K hK
              refine And.intro (hb) ?_
              refine And.intro (VLe.of_eq (by rw [hq])) ?_
              refine ⟨_, _, _, Or.inl (hS), by repeat first | exact trivial | refine And.intro ⟨rfl, rfl⟩ ?_, ?_⟩
              refine And.intro (dintE (IntWalk.i64_in _ (by omega))) ?_
              refine hK _ _ ?_
              clear hK K
              refine dw_k [(25, .v (.int .i64 ((j + 1 : Nat) : Int)))] TF6_ok (by kernel_rfl) hnt (by kernel_rfl) (by simp only [List.size_toArray, List.length_cons, List.length_nil, Nat.reduceAdd]; rfl) ?_
              intro K hK
              refine And.intro (dintE (by rw [IntWalk.i64_in _ (by omega)]; omega)) ?_
              refine hK _ _ ?_
              clear hK K
              exact ⟨⟨(j + 1, n + (bs[j].size : Int)), hj1, by dsimp only; omega, by dsimp only; omega, hlt⟩, by dsimp only; omega, (VS.toK (by first | omega | simp [hn0]) (by repeat first | exact trivial | refine And.intro (And.intro (by first | rfl | simp [D.ok, D.oks, D.okss, D.okm, eTm_ok, eTy_ok, eTys_ok, eTms_ok, upto, keyOk]) (by first | exact Or.inl rfl | exact Or.inr ⟨_, rfl, (by repeat first | exact VLe.refl _ | exact VLe.nil _ | exact VLe.untag _ _ _ | refine VLe.ag ?_ | refine VLe.tu ?_ | refine VLeL.cons ?_ ?_ | exact VLeL.nil), trivial⟩ | simp [get, Key.eq])) ?_))⟩
            · rw [if_neg hff] at hj1
              rw [decide_eq_false hff] at hF
              rw [← hj1] at hV
              dsimp only at hV
              subst hV
              refine dw_k [(29, .q [.sl 2 (eTys bs[j].args) none, .v (.int .i64 bs[j].base)])] TF6_ok (by kernel_rfl) hnt (by kernel_rfl) (by simp only [List.size_toArray, List.length_cons, List.length_nil, Nat.reduceAdd]; rfl) ?_
              intro K hK
              refine And.intro (hb) ?_
              refine And.intro (VLe.of_eq (by rw [hq])) ?_
              refine ⟨_, _, _, Or.inl (hF), by repeat first | exact trivial | refine And.intro ⟨rfl, rfl⟩ ?_, ?_⟩
              refine hK _ _ ?_
              clear hK K
              refine dw_cond (t := true) rfl ?_
              rw [if_pos rfl]
              refine dw_seq ?_
              refine dw_k [(36, .v (.int .i64 (most + 1)))] TF6_ok (by kernel_rfl) hnt (by kernel_rfl) (by simp only [List.size_toArray, List.length_cons, List.length_nil, Nat.reduceAdd]; rfl) ?_
              intro K hK
              refine And.intro (dintE (IntWalk.i64_in _ (by omega))) ?_
              refine hK _ _ ?_
              clear hK K
              refine dw_ret ?_
              exact retv (N := 0) (.inr rfl) rfl (VLe.refl _) trivial
          · rw [if_neg hn] at hj1
            rw [← hj1] at hV
            dsimp only at hV
            refine dw_k [(18, .v (.bool true)), (22, .v (.bool false))] TF6_ok (by kernel_rfl) hnt (by kernel_rfl) (by simp only [List.size_toArray, List.length_cons, List.length_nil, Nat.reduceAdd]; rfl) ?_
            intro K hK
            refine And.intro (dtrue (by rw [eTys_len]; omega)) ?_
            refine And.intro (dfalse hn) ?_
            refine hK _ _ ?_
            clear hK K
            refine dw_cond (t := false) rfl ?_
            rw [if_neg (by simp)]
            refine dw_exit ?_
            exact cutE_ok (Q := RetOk TF6 [ResultVar.tmp 6] (.v (.int .i64 V)) []) ⟨n, by omega, hj3, hV.symm⟩ (VS.toK (by first | omega | simp [hn0]) (by repeat first | exact trivial | refine And.intro (And.intro (by first | rfl | simp [D.ok, D.oks, D.okss, D.okm, eTm_ok, eTy_ok, eTys_ok, eTms_ok, upto, keyOk]) (by first | exact Or.inl rfl | exact Or.inr ⟨_, rfl, (by repeat first | exact VLe.refl _ | exact VLe.nil _ | exact VLe.untag _ _ _ | refine VLe.ag ?_ | refine VLe.tu ?_ | refine VLeL.cons ?_ ?_ | exact VLeL.nil), trivial⟩ | simp [get, Key.eq])) ?_))
        · rw [List.drop_eq_nil_of_le (by omega), fewB1] at hj1
          rw [← hj1] at hV
          dsimp only at hV
          refine dw_k [(18, .v (.bool false))] TF6_ok (by kernel_rfl) hnt (by kernel_rfl) (by simp only [List.size_toArray, List.length_cons, List.length_nil, Nat.reduceAdd]; rfl) ?_
          intro K hK
          refine And.intro (dfalse (by rw [eTys_len]; omega)) ?_
          refine hK _ _ ?_
          clear hK K
          refine dw_cond (t := false) rfl ?_
          rw [if_neg (by simp)]
          refine dw_exit ?_
          exact cutE_ok (Q := RetOk TF6 [ResultVar.tmp 6] (.v (.int .i64 V)) []) ⟨n, by omega, hj3, hV.symm⟩ (VS.toK (by first | omega | simp [hn0]) (by repeat first | exact trivial | refine And.intro (And.intro (by first | rfl | simp [D.ok, D.oks, D.okss, D.okm, eTm_ok, eTy_ok, eTys_ok, eTms_ok, upto, keyOk]) (by first | exact Or.inl rfl | exact Or.inr ⟨_, rfl, (by repeat first | exact VLe.refl _ | exact VLe.nil _ | exact VLe.untag _ _ _ | refine VLe.ag ?_ | refine VLe.tu ?_ | refine VLeL.cons ?_ ?_ | exact VLeL.nil), trivial⟩ | simp [get, Key.eq])) ?_))
      · obtain ⟨n0, hn1, hn2, hVn⟩ := n
        dsimp only
        rw [hVn]
        refine dw_seq (dw_seq ?_)
        refine dw_k [] TF6_ok (by kernel_rfl) hnt (by kernel_rfl) (by simp only [List.size_toArray, List.length_cons, List.length_nil, Nat.reduceAdd]; rfl) ?_
        intro K hK
        refine hK _ _ ?_
        clear hK K
        refine dw_block ?_
        refine dw_loop (ι := { p : Nat × Int // fewMs most (a.drop p.1) (d - 1) p.2 = fewMs most a (d - 1) n0 ∧ (p.1 : Int) + 1 ≤ p.2 ∧ p.2 ≤ 2000000 ∧ p.1 ≤ a.length }) (fun p => [(.t 1, .v (.int .i64 most)), (.t 2, .v (.int .i64 d)), (.t 3, .p 0 0), (.t 7, .v (.int .i64 p.1.2)), (.t 9, .v (.int .i64 (p.1.1 : Int))), (.c 0 0, .sl 2 (eTys bs) none), (.c 0 1, .v (.int .i64 k)), (.c 0 2, .v (.int .i64 i)), (.c 0 3, .sl 4 (eTms a) none)]) 1 (fun p => a.length - p.1.1) ⟨(0, n0), by simp, by dsimp only; omega, by dsimp only; omega, by simp⟩ (VS.toK (by first | omega | simp [hn0]) (by repeat first | exact trivial | refine And.intro (And.intro (by first | rfl | simp [D.ok, D.oks, D.okss, D.okm, eTm_ok, eTy_ok, eTys_ok, eTms_ok, upto, keyOk]) (by first | exact Or.inl rfl | exact Or.inr ⟨_, rfl, (by repeat first | exact VLe.refl _ | exact VLe.nil _ | exact VLe.untag _ _ _ | refine VLe.ag ?_ | refine VLe.tu ?_ | refine VLeL.cons ?_ ?_ | exact VLeL.nil), trivial⟩ | simp [get, Key.eq])) ?_)) fun p => ?_
        obtain ⟨⟨j, n⟩, hj1, hj2, hj3, hj4⟩ := p
        dsimp only at hj1 hj2 hj3 hj4 ⊢
        refine dw_seq (dw_seq ?_)
        by_cases hlt : j < a.length
        · have hdr : a.drop j = a[j] :: a.drop (j + 1) := List.drop_eq_getElem_cons hlt
          rw [hdr, fewMs] at hj1
          by_cases hn : n ≤ most
          · rw [if_pos hn] at hj1
            have hih := ih a[j] (List.getElem_mem hlt) (d - 1) (by omega) (by omega)
            rw [eTm_eq] at hih
            have hbd := fewM_le h1 1000 a[j] (d - 1) (by omega) (by omega)
            have hbd2 : most * ((1000 : Nat) : Int) ≤ 1000000 := by
              have : most * ((1000 : Nat) : Int) = 1000 * most := by rw [Int.mul_comm]; rfl
              omega
            refine dw_k [(49, .v (.bool true)), (53, .v (.bool true))] TF6_ok (by kernel_rfl) hnt (by kernel_rfl) (by simp only [List.size_toArray, List.length_cons, List.length_nil, Nat.reduceAdd]; rfl) ?_
            intro K hK
            refine And.intro (dtrue (by rw [eTms_len]; omega)) ?_
            refine And.intro (dtrue hn) ?_
            refine hK _ _ ?_
            clear hK K
            refine dw_cond (t := true) rfl ?_
            rw [if_pos rfl]
            refine dw_skip ?_
            refine dw_seq (dw_block ?_)
            refine dw_k [(61, .q [.sl 2 (eTys a[j].binds) none, .v (.int .i64 a[j].kind), .v (.int .i64 a[j].index), .sl 4 (eTms a[j].args) none]), (65, .v (.int .i64 (d - 1))), (67, .v (.int .i64 (n + fewM most a[j] (d - 1))))] TF6_ok (by kernel_rfl) hnt (by kernel_rfl) (by simp only [List.size_toArray, List.length_cons, List.length_nil, Nat.reduceAdd]; rfl) ?_
            intro K hK
            refine And.intro (⟨by omega, by rw [eTms_len]; omega⟩) ?_
            refine And.intro (VLe.of_eq (by rw [Int.toNat_natCast, eTms_getD a j hlt, eTm_eq])) ?_
            refine And.intro (dintE (IntWalk.i64_in _ (by omega))) ?_
            refine ⟨_, _, _, Or.inl (hih), by repeat first | exact trivial | refine And.intro ⟨rfl, rfl⟩ ?_, ?_⟩
            refine And.intro (dintE (IntWalk.i64_in _ (by omega))) ?_
            refine hK _ _ ?_
            clear hK K
            refine dw_k [(56, .v (.int .i64 ((j + 1 : Nat) : Int)))] TF6_ok (by kernel_rfl) hnt (by kernel_rfl) (by simp only [List.size_toArray, List.length_cons, List.length_nil, Nat.reduceAdd]; rfl) ?_
            intro K hK
            refine And.intro (dintE (by rw [IntWalk.i64_in _ (by omega)]; omega)) ?_
            refine hK _ _ ?_
            clear hK K
            exact ⟨⟨(j + 1, n + fewM most a[j] (d - 1)), hj1, by dsimp only; omega, by dsimp only; omega, hlt⟩, by dsimp only; omega, (VS.toK (by first | omega | simp [hn0]) (by repeat first | exact trivial | refine And.intro (And.intro (by first | rfl | simp [D.ok, D.oks, D.okss, D.okm, eTm_ok, eTy_ok, eTys_ok, eTms_ok, upto, keyOk]) (by first | exact Or.inl rfl | exact Or.inr ⟨_, rfl, (by repeat first | exact VLe.refl _ | exact VLe.nil _ | exact VLe.untag _ _ _ | refine VLe.ag ?_ | refine VLe.tu ?_ | refine VLeL.cons ?_ ?_ | exact VLeL.nil), trivial⟩ | simp [get, Key.eq])) ?_))⟩
          · rw [if_neg hn] at hj1
            rw [← hj1]
            refine dw_k [(49, .v (.bool true)), (53, .v (.bool false))] TF6_ok (by kernel_rfl) hnt (by kernel_rfl) (by simp only [List.size_toArray, List.length_cons, List.length_nil, Nat.reduceAdd]; rfl) ?_
            intro K hK
            refine And.intro (dtrue (by rw [eTms_len]; omega)) ?_
            refine And.intro (dfalse hn) ?_
            refine hK _ _ ?_
            clear hK K
            refine dw_cond (t := false) rfl ?_
            rw [if_neg (by simp)]
            refine dw_exit ?_
            refine dw_seq ?_
            refine dw_k [] TF6_ok (by kernel_rfl) hnt (by kernel_rfl) (by simp only [List.size_toArray, List.length_cons, List.length_nil, Nat.reduceAdd]; rfl) ?_
            intro K hK
            refine hK _ _ ?_
            clear hK K
            refine dw_ret ?_
            exact retv (N := 0) (.inr rfl) rfl (VLe.refl _) trivial
        · rw [List.drop_eq_nil_of_le (by omega), fewMs] at hj1
          rw [← hj1]
          refine dw_k [(49, .v (.bool false))] TF6_ok (by kernel_rfl) hnt (by kernel_rfl) (by simp only [List.size_toArray, List.length_cons, List.length_nil, Nat.reduceAdd]; rfl) ?_
          intro K hK
          refine And.intro (dfalse (by rw [eTms_len]; omega)) ?_
          refine hK _ _ ?_
          clear hK K
          refine dw_cond (t := false) rfl ?_
          rw [if_neg (by simp)]
          refine dw_exit ?_
          refine dw_seq ?_
          refine dw_k [] TF6_ok (by kernel_rfl) hnt (by kernel_rfl) (by simp only [List.size_toArray, List.length_cons, List.length_nil, Nat.reduceAdd]; rfl) ?_
          intro K hK
          refine hK _ _ ?_
          clear hK K
          refine dw_ret ?_
          exact retv (N := 0) (.inr rfl) rfl (VLe.refl _) trivial
theorem Few6_d (most : Int) (h1 : 1 ≤ most) (h2 : most ≤ 1000) (t : Tm) (d : Int) (h3 : -1000 ≤ d) (h4 : d ≤ 1000) : PureC Tryz.prog 35 [.ag (eTm t), .v (.int .i64 most), .v (.int .i64 d)] (.v (.bool (decide (fewM most t d ≤ most)))) := by
  have h := few6_d most h1 h2 t d h3 h4
  rw [eTm_eq] at h ⊢
  refine call_of_dw 0 13 [ResultVar.tmp 6] TF6_ok (by kernel_rfl) Tryz.func35 rfl Tryz.ntmps35 rfl (by simp) ?dwords ?dbody
  case dwords => simp [wordsOk, D.ok, D.oks, rnames, eTys_ok, eTms_ok]
  case dbody =>
    intro cx hnt hn0
    refine dw_seq ?_
    refine dw_k [] TF6_ok (by kernel_rfl) hnt (by kernel_rfl) (by simp only [List.size_toArray, List.length_cons, List.length_nil, Nat.reduceAdd]; rfl) ?_
    intro K hK
    refine hK _ _ ?_
    clear hK K
    refine dw_seq ?_
    refine dw_k [] TF6_ok (by kernel_rfl) hnt (by kernel_rfl) (by simp only [List.size_toArray, List.length_cons, List.length_nil, Nat.reduceAdd]; rfl) ?_
    intro K hK
    refine ⟨_, _, _, Or.inl (h), by repeat first | exact trivial | refine And.intro ⟨rfl, rfl⟩ ?_, ?_⟩
    refine hK _ _ ?_
    clear hK K
    refine dw_ret ?_
    exact retv (N := 0) (.inr rfl) rfl (VLe.refl _) trivial
def fewB (t : Tm) : Bool := decide (fewM 150 t 70 ≤ 150)
set_option maxHeartbeats 1000000 in
theorem lawFew_d (l : List Tm) (hl : l.length ≤ 1000000) : PureC Tryz.prog 17 [.sl 4 (eTms l) none] (.v (.bool (l.all fewB))) := by
  refine call_of_dw 0 16 [ResultVar.tmp 2] TF6_ok (by kernel_rfl) Tryz.func17 rfl Tryz.ntmps17 rfl (by simp) ?dwords ?dbody
  case dwords => simp [wordsOk, D.ok, D.oks, rnames, eTms_ok]
  case dbody =>
    intro cx hnt hn0
    refine dw_seq ?_
    refine dw_k [] TF6_ok (by kernel_rfl) hnt (by kernel_rfl) (by simp only [List.size_toArray, List.length_cons, List.length_nil, Nat.reduceAdd]; rfl) ?_
    intro K hK
    refine hK _ _ ?_
    clear hK K
    refine dw_seq (dw_seq ?_)
    refine dw_k [] TF6_ok (by kernel_rfl) hnt (by kernel_rfl) (by simp only [List.size_toArray, List.length_cons, List.length_nil, Nat.reduceAdd]; rfl) ?_
    intro K hK
    refine hK _ _ ?_
    clear hK K
    refine dw_block ?_
    refine dw_loop (ι := { j : Nat // ∀ i (h : i < l.length), i < j → fewB l[i] = true }) (fun j => [(.t 0, .sl 4 (eTms l) none), (.t 3, .v (.int .i64 (j.1 : Int)))]) 1 (fun j => l.length - j.1) ⟨0, fun i h1 h2 => by omega⟩ (VS.toK (by first | omega | simp [hn0]) (by repeat first | exact trivial | refine And.intro (And.intro (by first | rfl | simp [D.ok, D.oks, D.okss, D.okm, eTm_ok, eTy_ok, eTys_ok, eTms_ok, upto, keyOk]) (by first | exact Or.inl rfl | exact Or.inr ⟨_, rfl, (by repeat first | exact VLe.refl _ | exact VLe.nil _ | exact VLe.untag _ _ _ | refine VLe.ag ?_ | refine VLe.tu ?_ | refine VLeL.cons ?_ ?_ | exact VLeL.nil), trivial⟩ | simp [get, Key.eq])) ?_)) fun j => ?_
    obtain ⟨j, hj⟩ := j
    dsimp only
    refine dw_seq (dw_seq ?_)
    by_cases hlt : j < l.length
    · have hi := Few6_d 150 (by decide) (by decide) l[j] 70 (by decide) (by decide)
      rw [eTm_eq] at hi
      have hq : (eTms l).getD (j : Int).toNat [] = [.sl 2 (eTys l[j].binds) none, .v (.int .i64 l[j].kind), .v (.int .i64 l[j].index), .sl 4 (eTms l[j].args) none] := by rw [Int.toNat_natCast, eTms_getD l j hlt, eTm_eq]
      have hb : (0 : Int) ≤ (j : Int) ∧ (j : Int) < ((eTms l).length : Int) := ⟨by omega, by rw [eTms_len]; omega⟩
      refine dw_k [(7, .v (.bool true))] TF6_ok (by kernel_rfl) hnt (by kernel_rfl) (by simp only [List.size_toArray, List.length_cons, List.length_nil, Nat.reduceAdd]; rfl) ?_
      intro K hK
      refine And.intro (dtrue (by rw [eTms_len]; omega)) ?_
      refine hK _ _ ?_
      clear hK K
      refine dw_cond (t := true) rfl ?_
      rw [if_pos rfl]
      refine dw_skip ?_
      refine dw_seq (dw_block (dw_seq ?_))
      cases hf : fewB l[j] with
      | true =>
        have hf2 := hf
        unfold fewB at hf2
        rw [hf2] at hi
        refine dw_k [(12, .q [.sl 2 (eTys l[j].binds) none, .v (.int .i64 l[j].kind), .v (.int .i64 l[j].index), .sl 4 (eTms l[j].args) none])] TF6_ok (by kernel_rfl) hnt (by kernel_rfl) (by simp only [List.size_toArray, List.length_cons, List.length_nil, Nat.reduceAdd]; rfl) ?_
        intro K hK
        refine And.intro (hb) ?_
        refine And.intro (VLe.of_eq (by rw [hq])) ?_
        refine ⟨_, _, _, Or.inl (hi), by repeat first | exact trivial | refine And.intro ⟨rfl, rfl⟩ ?_, ?_⟩
        refine hK _ _ ?_
        clear hK K
        refine dw_cond (t := false) rfl ?_
        rw [if_neg (by simp)]
        refine dw_skip ?_
        refine dw_k [(9, .v (.int .i64 ((j + 1 : Nat) : Int)))] TF6_ok (by kernel_rfl) hnt (by kernel_rfl) (by simp only [List.size_toArray, List.length_cons, List.length_nil, Nat.reduceAdd]; rfl) ?_
        intro K hK
        refine And.intro (dintE (by rw [IntWalk.i64_in _ (by omega)]; omega)) ?_
        refine hK _ _ ?_
        clear hK K
        refine ⟨⟨j + 1, fun i h1 h2 => ?_⟩, by dsimp only; omega, (VS.toK (by first | omega | simp [hn0]) (by repeat first | exact trivial | refine And.intro (And.intro (by first | rfl | simp [D.ok, D.oks, D.okss, D.okm, eTm_ok, eTy_ok, eTys_ok, eTms_ok, upto, keyOk]) (by first | exact Or.inl rfl | exact Or.inr ⟨_, rfl, (by repeat first | exact VLe.refl _ | exact VLe.nil _ | exact VLe.untag _ _ _ | refine VLe.ag ?_ | refine VLe.tu ?_ | refine VLeL.cons ?_ ?_ | exact VLeL.nil), trivial⟩ | simp [get, Key.eq])) ?_))⟩
        by_cases he : i = j
        · subst he; exact hf
        · exact hj i h1 (by omega)
      | false =>
        have hf2 := hf
        unfold fewB at hf2
        rw [hf2] at hi
        have ha : l.all fewB = false := by rw [List.all_eq_false]; exact ⟨l[j], List.getElem_mem hlt, by rw [hf]; simp⟩
        rw [ha]
        refine dw_k [(12, .q [.sl 2 (eTys l[j].binds) none, .v (.int .i64 l[j].kind), .v (.int .i64 l[j].index), .sl 4 (eTms l[j].args) none])] TF6_ok (by kernel_rfl) hnt (by kernel_rfl) (by simp only [List.size_toArray, List.length_cons, List.length_nil, Nat.reduceAdd]; rfl) ?_
        intro K hK
        refine And.intro (hb) ?_
        refine And.intro (VLe.of_eq (by rw [hq])) ?_
        refine ⟨_, _, _, Or.inl (hi), by repeat first | exact trivial | refine And.intro ⟨rfl, rfl⟩ ?_, ?_⟩
        refine hK _ _ ?_
        clear hK K
        refine dw_cond (t := true) rfl ?_
        rw [if_pos rfl]
        refine dw_seq ?_
        refine dw_k [] TF6_ok (by kernel_rfl) hnt (by kernel_rfl) (by simp only [List.size_toArray, List.length_cons, List.length_nil, Nat.reduceAdd]; rfl) ?_
        intro K hK
        refine hK _ _ ?_
        clear hK K
        refine dw_ret ?_
        exact retv (N := 0) (.inr rfl) rfl (VLe.refl _) trivial
    · have ha : l.all fewB = true := by
        rw [List.all_eq_true]
        intro t ht
        obtain ⟨i, hi, rfl⟩ := List.getElem_of_mem ht
        exact hj i hi (by omega)
      rw [ha]
      refine dw_k [(7, .v (.bool false))] TF6_ok (by kernel_rfl) hnt (by kernel_rfl) (by simp only [List.size_toArray, List.length_cons, List.length_nil, Nat.reduceAdd]; rfl) ?_
      intro K hK
      refine And.intro (dfalse (by rw [eTms_len]; omega)) ?_
      refine hK _ _ ?_
      clear hK K
      refine dw_cond (t := false) rfl ?_
      rw [if_neg (by simp)]
      refine dw_exit ?_
      refine dw_seq ?_
      refine dw_k [] TF6_ok (by kernel_rfl) hnt (by kernel_rfl) (by simp only [List.size_toArray, List.length_cons, List.length_nil, Nat.reduceAdd]; rfl) ?_
      intro K hK
      refine hK _ _ ?_
      clear hK K
      refine dw_ret ?_
      exact retv (N := 0) (.inr rfl) rfl (VLe.refl _) trivial
end Go.Proofs.YtiblklcfjakjmaaGreat

namespace Go.Proofs.YtiblklcfjakjmaaGreat
open Go.RowKit

theorem fewB1_full {most d : Int} (hm : 1 ≤ most) (hd : d ≤ 1000) : ∀ (l : List Ty) (n r : Int), fewB1 most d l n = some r → r ≤ most → r = n + Ty.sizes l
  | [], n, r, h, _ => by rw [fewB1] at h; cases h; simp [Ty.sizes]
  | t :: l, n, r, h, hr => by
    rw [fewB1] at h
    split at h
    · split at h
      · have := fewB1_full hm hd l _ r h hr
        rw [this, Ty.sizes]; omega
      · cases h
    · cases h; omega
theorem fewMs_full {most : Int} : ∀ (l : List Tm) (d n : Int), (∀ t ∈ l, fewM most t d ≤ most → (t.full : Int) = fewM most t d ∧ (t.depth : Int) ≤ d) → (∀ t ∈ l, 1 ≤ fewM most t d) → 1 ≤ n → fewMs most l d n ≤ most → fewMs most l d n = n + Tm.fulls l ∧ (∀ t ∈ l, (t.depth : Int) ≤ d) ∧ n ≤ most
  | [], d, n, _, _, _, h => by rw [fewMs] at h ⊢; exact ⟨by simp [Tm.fulls], nofun, h⟩
  | t :: l, d, n, h, h1, hn, hf => by
    rw [fewMs] at hf ⊢
    split at hf
    · rename_i hm
      rw [if_pos hm]
      have h2 := h1 t (by simp)
      obtain ⟨h3, h4, h5⟩ := fewMs_full l d _ (fun u hu => h u (by simp [hu])) (fun u hu => h1 u (by simp [hu])) (by omega) hf
      obtain ⟨h6, h7⟩ := h t (by simp) (by omega)
      refine ⟨by rw [h3, Tm.fulls]; omega, fun u hu => ?_, hm⟩
      rcases List.mem_cons.1 hu with rfl | hu
      · exact h7
      · exact h4 u hu
    · rename_i hm; omega
theorem depths_max {d : Int} (hd : 0 ≤ d) : ∀ (l : List Tm), (∀ t ∈ l, (t.depth : Int) ≤ d) → (Tm.depths l : Int) ≤ d
  | [], _ => by simp [Tm.depths]; exact hd
  | t :: l, h => by
    have h1 := h t (by simp)
    have h2 := depths_max hd l fun u hu => h u (by simp [hu])
    simp only [Tm.depths]; omega
theorem fewM_full {most : Int} (hm : 1 ≤ most) : ∀ (k : Nat) (t : Tm) (d : Int), k ≤ 1000 → d ≤ k → fewM most t d ≤ most → (t.full : Int) = fewM most t d ∧ (t.depth : Int) ≤ d
  | 0, .mk bs kd i a, d, hk, hd, h => by rw [fewM, if_pos (by omega)] at h; omega
  | k + 1, .mk bs kd i a, d, hk, hd, h => by
    rw [fewM] at h ⊢
    split at h
    · omega
    · rename_i hp
      rw [if_neg hp]
      cases hb : fewB1 most d bs 1 with
      | none => rw [hb] at h; dsimp only at h; omega
      | some n =>
        rw [hb] at h
        dsimp only at h ⊢
        have hn := fewB1_le hm (by omega) bs 1 (by omega) (by omega) n hb
        obtain ⟨h3, h4, h5⟩ := fewMs_full a (d - 1) n (fun t _ => fewM_full hm k t (d - 1) (by omega) (by omega)) (fun t _ => (fewM_le hm k t (d - 1) (by omega) (by omega)).1) hn.1 h
        have h6 := fewB1_full hm (by omega) bs 1 n hb h5
        have h7 := depths_max (by omega) a h4
        rw [Tm.full_eq, Tm.depth_eq]
        constructor
        · omega
        · omega
theorem fewB_full {t : Tm} (h : fewB t = true) : t.full ≤ 150 ∧ t.depth ≤ 70 := by
  unfold fewB at h
  rw [decide_eq_true_eq] at h
  obtain ⟨h1, h2⟩ := fewM_full (by decide) 1000 t 70 (by decide) (by decide) h
  omega
end Go.Proofs.YtiblklcfjakjmaaGreat

namespace Go.Proofs.YtiblklcfjakjmaaGreat
open Go.RowKit
def TL10_3 : TI := ⟨1, false, [Value.int IntKind.i64 0], [], none, 8, 2, none⟩
theorem TL10_3_ok : TypOk Tryz.prog 3 TL10_3 := ⟨by kernel_rfl, by kernel_rfl, by kernel_rfl, by kernel_rfl⟩
def TL10_25 : TI := ⟨1, false, [Value.slice none 0 0], [], some 63, 24, 5, none⟩
theorem TL10_25_ok : TypOk Tryz.prog 25 TL10_25 := ⟨by kernel_rfl, by kernel_rfl, by kernel_rfl, by kernel_rfl⟩
def TL10_63 : TI := ⟨5, true, [Value.int IntKind.i64 0, Value.slice none 0 0, Value.int IntKind.i64 0, Value.int IntKind.i64 0, Value.slice none 0 0], [(0, 1, false), (1, 4, true)], none, 72, 6, none⟩
theorem TL10_63_ok : TypOk Tryz.prog 63 TL10_63 := ⟨by kernel_rfl, by kernel_rfl, by kernel_rfl, by kernel_rfl⟩
def TL10_47 : TI := ⟨4, true, [Value.slice none 0 0, Value.int IntKind.i64 0, Value.int IntKind.i64 0, Value.slice none 0 0], [(0, 1, false), (1, 2, true), (3, 1, false)], none, 64, 6, none⟩
theorem TL10_47_ok : TypOk Tryz.prog 47 TL10_47 := ⟨by kernel_rfl, by kernel_rfl, by kernel_rfl, by kernel_rfl⟩
def TL10_45 : TI := ⟨1, false, [Value.slice none 0 0], [], some 47, 24, 5, none⟩
theorem TL10_45_ok : TypOk Tryz.prog 45 TL10_45 := ⟨by kernel_rfl, by kernel_rfl, by kernel_rfl, by kernel_rfl⟩
def TL10_30 : TI := ⟨1, false, [Value.slice none 0 0], [], some 99, 24, 5, none⟩
theorem TL10_30_ok : TypOk Tryz.prog 30 TL10_30 := ⟨by kernel_rfl, by kernel_rfl, by kernel_rfl, by kernel_rfl⟩
def TL10_99 : TI := ⟨5, true, [Value.int IntKind.i64 0, Value.slice none 0 0, Value.int IntKind.i64 0, Value.int IntKind.i64 0, Value.slice none 0 0], [(0, 1, false), (1, 4, true)], none, 72, 6, none⟩
theorem TL10_99_ok : TypOk Tryz.prog 99 TL10_99 := ⟨by kernel_rfl, by kernel_rfl, by kernel_rfl, by kernel_rfl⟩
def TL10 : List (Nat × TI) := [(3, TL10_3), (25, TL10_25), (63, TL10_63), (47, TL10_47), (45, TL10_45), (30, TL10_30), (99, TL10_99)]
theorem TL10_ok : TabOk Tryz.prog TL10 := ((((((((TabOk.nil _).cons TL10_99_ok).cons TL10_30_ok).cons TL10_45_ok).cons TL10_47_ok).cons TL10_63_ok).cons TL10_25_ok).cons TL10_3_ok)

theorem to6_d (t : Tm) (h : t.full ≤ 1000000) : PureC Tryz.prog 29 [.ag (eTm t)] (.ag (eTm t)) := by
  refine pure_below (by kernel_rfl) fun m Im w vs hv => ?_
  match vs, hv with
  | [x], hv =>
    obtain ⟨b, k, i, a, rfl, ht⟩ := agTm hv.1
    refine (to6_any ht w h (Keep.refl _ _)).mono ?_
    rintro e w' ⟨b', k', i', a', rfl, h1, h2⟩
    exact ⟨_, rfl, h2, fun Im' _ hI => rel_ag.2 ⟨_, rfl, rel_of_tm (fun b o v hb hc => hI b o v hb hc) t h1⟩⟩
set_option maxHeartbeats 1000000 in
theorem to9_d (l : List (Int × Tm)) (hl : l.length ≤ 9223372036854775807) (hf : ∀ p ∈ l.take 10, p.2.full ≤ 1000000) : PureC Tryz.prog 11 [.sl 5 (ePairs l) none] (.sl 5 (ePairs (l.take 10)) none) := by
  refine call_of_dw 0 31 [ResultVar.tmp 2] TL10_ok (by kernel_rfl) Tryz.func11 rfl Tryz.ntmps11 rfl (by simp) ?dwords ?dbody
  case dwords => simp [wordsOk, D.ok, D.oks, rnames, ePairs_ok]
  case dbody =>
    intro cx hnt hn0
    refine dw_seq ?_
    refine dw_k [] TL10_ok (by kernel_rfl) hnt (by kernel_rfl) (by simp only [List.size_toArray, List.length_cons, List.length_nil, Nat.reduceAdd]; rfl) ?_
    intro K hK
    refine hK _ _ ?_
    clear hK K
    refine dw_seq ?_
    refine dw_k [] TL10_ok (by kernel_rfl) hnt (by kernel_rfl) (by simp only [List.size_toArray, List.length_cons, List.length_nil, Nat.reduceAdd]; rfl) ?_
    intro K hK
    refine hK _ _ ?_
    clear hK K
    refine dw_seq (dw_seq ?_)
    refine dw_k [] TL10_ok (by kernel_rfl) hnt (by kernel_rfl) (by simp only [List.size_toArray, List.length_cons, List.length_nil, Nat.reduceAdd]; rfl) ?_
    intro K hK
    refine hK _ _ ?_
    clear hK K
    refine dw_block ?_
    refine dw_loop (ι := { j : Nat // j ≤ 10 }) (fun j => (.t 0, .sl 5 (ePairs l) none) :: (.t 4, .v (.int .i64 (j.1 : Int))) :: (.t 3, .sl 5 (ePairs (l.take j.1)) (some 3)) :: (.r 3, .rw 99 5 (l.take j.1).length) :: []) 4 (fun j => l.length - j.1) ⟨0, by decide⟩ (VS.trans (VS.rowT (x := 3) (by rw [hnt]; decide) 99 5 rfl) (VS.toK (by first | omega | simp [hn0]) (by repeat first | exact trivial | refine And.intro (And.intro (by first | rfl | simp [D.ok, D.oks, D.okss, D.okm, eTm_ok, eTy_ok, eTys_ok, eTms_ok, upto, keyOk, ePairs_ok]) (by first | exact Or.inl rfl | exact Or.inr ⟨_, rfl, (by repeat first | exact VLe.refl _ | exact VLe.nil _ | exact VLe.untag _ _ _ | refine VLe.ag ?_ | refine VLe.tu ?_ | refine VLeL.cons ?_ ?_ | exact VLeL.nil), trivial⟩ | simp [get, Key.eq, ePairs_ok])) ?_))) fun j => ?_
    obtain ⟨j, hj⟩ := j
    dsimp only
    refine dw_seq (dw_seq ?_)
    have end_ : ¬ (j < l.length ∧ j < 10) → l.take j = l.take 10 := fun h => by
      by_cases h1 : j < 10
      · have : l.length ≤ j := by omega
        rw [List.take_of_length_le this, List.take_of_length_le (by omega)]
      · rw [show j = 10 by omega]
    by_cases hlt : j < l.length
    · by_cases h10 : j < 10
      · have hjt : l[j] ∈ l.take 10 := by
          have : j < (l.take 10).length := by rw [List.length_take]; omega
          have h2 : (l.take 10)[j] = l[j] := by simp
          rw [← h2]; exact List.getElem_mem this
        have ho := to6_d l[j].2 (hf _ hjt)
        rw [eTm_eq] at ho
        have hq : (ePairs l).getD (j : Int).toNat [] = [.v (.int .i64 l[j].1), .sl 2 (eTys l[j].2.binds) none, .v (.int .i64 l[j].2.kind), .v (.int .i64 l[j].2.index), .sl 4 (eTms l[j].2.args) none] := by rw [Int.toNat_natCast, ePairs_getD l j hlt, ePair_eq]
        have hb : (0 : Int) ≤ (j : Int) ∧ (j : Int) < ((ePairs l).length : Int) := ⟨by omega, by rw [ePairs_len]; omega⟩
        refine dw_k [(8, .v (.bool true)), (11, .v (.bool true))] TL10_ok (by kernel_rfl) hnt (by kernel_rfl) (by simp only [List.size_toArray, List.length_cons, List.length_nil, Nat.reduceAdd]; rfl) ?_
        intro K hK
        refine And.intro (dtrue (by rw [ePairs_len]; omega)) ?_
        refine And.intro (dtrue (by omega)) ?_
        refine hK _ _ ?_
        clear hK K
        refine dw_cond (t := true) rfl ?_
        rw [if_pos rfl]
        refine dw_skip ?_
        refine dw_seq (dw_block ?_)
        refine dw_kD [(18, .q [.v (.int .i64 l[j].1), .sl 2 (eTys l[j].2.binds) none, .v (.int .i64 l[j].2.kind), .v (.int .i64 l[j].2.index), .sl 4 (eTms l[j].2.args) none]), (23, .q [.v (.int .i64 l[j].1), .sl 2 (eTys l[j].2.binds) none, .v (.int .i64 l[j].2.kind), .v (.int .i64 l[j].2.index), .sl 4 (eTms l[j].2.args) none]), (29, .sl 5 (ePairs (l.take (j + 1))) (some 3))] TL10_ok (by kernel_rfl) hnt (by kernel_rfl) (by simp only [List.size_toArray, List.length_cons, List.length_nil, Nat.reduceAdd]; rfl) ?_
        intro K hK
        refine And.intro (hb) ?_
        refine And.intro (VLe.of_eq (by rw [hq])) ?_
        refine And.intro (hb) ?_
        refine And.intro (VLe.of_eq (by rw [hq])) ?_
        refine ⟨_, _, _, Or.inl (ho), by repeat first | exact trivial | refine And.intro ⟨rfl, rfl⟩ ?_, ?_⟩
        refine And.intro (⟨by rw [ePairs_len], by rw [ePairs_len, List.length_take]; simp; omega⟩) ?_
        refine And.intro (VLe.of_eq (by rw [ePairs_take l j hlt, ePair_eq])) ?_
        refine hK _ _ (by kernel_rfl) ?_
        clear hK K
        refine dw_k [(14, .v (.int .i64 ((j + 1 : Nat) : Int)))] TL10_ok (by kernel_rfl) hnt (by kernel_rfl) (by simp only [List.size_toArray, List.length_cons, List.length_nil, Nat.reduceAdd]; rfl) ?_
        intro K hK
        refine And.intro (dintE (by rw [IntWalk.i64_in _ (by omega)]; omega)) ?_
        refine hK _ _ ?_
        clear hK K
        have hl2 : (l.take (j + 1)).length = j + 1 := by rw [List.length_take]; omega
        have hl3 : (ePairs (l.take j)).length = j := by rw [ePairs_len, List.length_take]; omega
        refine ⟨⟨j + 1, by omega⟩, by dsimp only; omega, ?_⟩
        rw [hl2]
        exact (VS.toK (by first | omega | simp [hn0]) (by repeat first | exact trivial | refine And.intro (And.intro (by first | rfl | simp [D.ok, D.oks, D.okss, D.okm, eTm_ok, eTy_ok, eTys_ok, eTms_ok, upto, keyOk, ePairs_ok, hl3]) (by first | exact Or.inl rfl | exact Or.inr ⟨_, rfl, (by repeat first | exact VLe.refl _ | exact VLe.nil _ | exact VLe.untag _ _ _ | refine VLe.ag ?_ | refine VLe.tu ?_ | refine VLeL.cons ?_ ?_ | exact VLeL.nil), trivial⟩ | simp [get, Key.eq, ePairs_ok, hl3])) ?_))
      · skip
        refine dw_k [(8, .v (.bool true)), (11, .v (.bool false))] TL10_ok (by kernel_rfl) hnt (by kernel_rfl) (by simp only [List.size_toArray, List.length_cons, List.length_nil, Nat.reduceAdd]; rfl) ?_
        intro K hK
        refine And.intro (dtrue (by rw [ePairs_len]; omega)) ?_
        refine And.intro (dfalse (by omega)) ?_
        refine hK _ _ ?_
        clear hK K
        refine dw_cond (t := false) rfl ?_
        rw [if_neg (by simp)]
        refine dw_exit ?_
        refine dw_seq ?_
        rw [end_ (fun h => h10 h.2)]
        refine dw_k [] TL10_ok (by kernel_rfl) hnt (by kernel_rfl) (by simp only [List.size_toArray, List.length_cons, List.length_nil, Nat.reduceAdd]; rfl) ?_
        intro K hK
        refine hK _ _ ?_
        clear hK K
        refine dw_ret ?_
        exact retv (N := 0) (.inr rfl) rfl (by repeat first | exact VLe.refl _ | exact VLe.nil _ | exact VLe.untag _ _ _ | refine VLe.ag ?_ | refine VLe.tu ?_ | refine VLeL.cons ?_ ?_ | exact VLeL.nil) trivial
    · skip
      refine dw_k [(8, .v (.bool false))] TL10_ok (by kernel_rfl) hnt (by kernel_rfl) (by simp only [List.size_toArray, List.length_cons, List.length_nil, Nat.reduceAdd]; rfl) ?_
      intro K hK
      refine And.intro (dfalse (by rw [ePairs_len]; omega)) ?_
      refine hK _ _ ?_
      clear hK K
      refine dw_cond (t := false) rfl ?_
      rw [if_neg (by simp)]
      refine dw_exit ?_
      refine dw_seq ?_
      rw [end_ (fun h => hlt h.1)]
      refine dw_k [] TL10_ok (by kernel_rfl) hnt (by kernel_rfl) (by simp only [List.size_toArray, List.length_cons, List.length_nil, Nat.reduceAdd]; rfl) ?_
      intro K hK
      refine hK _ _ ?_
      clear hK K
      refine dw_ret ?_
      exact retv (N := 0) (.inr rfl) rfl (by repeat first | exact VLe.refl _ | exact VLe.nil _ | exact VLe.untag _ _ _ | refine VLe.ag ?_ | refine VLe.tu ?_ | refine VLeL.cons ?_ ?_ | exact VLeL.nil) trivial
def few9 (l : List (Int × Tm)) : Bool := (l.take 10).all fun p => fewB p.2 && lowB p.2
set_option maxHeartbeats 1000000 in
theorem few9_d (l : List (Int × Tm)) (hl : l.length ≤ 9223372036854775807) (hw : ∀ p ∈ l.take 10, fewB p.2 = true → Wide p.2) : PureC Tryz.prog 8 [.sl 5 (ePairs l) none] (.v (.bool (few9 l))) := by
  refine call_of_dw 0 32 [ResultVar.tmp 2] TL10_ok (by kernel_rfl) Tryz.func8 rfl Tryz.ntmps8 rfl (by simp) ?dwords ?dbody
  case dwords => simp [wordsOk, D.ok, D.oks, rnames, ePairs_ok]
  case dbody =>
    intro cx hnt hn0
    refine dw_seq ?_
    refine dw_k [] TL10_ok (by kernel_rfl) hnt (by kernel_rfl) (by simp only [List.size_toArray, List.length_cons, List.length_nil, Nat.reduceAdd]; rfl) ?_
    intro K hK
    refine hK _ _ ?_
    clear hK K
    refine dw_seq (dw_seq ?_)
    refine dw_k [] TL10_ok (by kernel_rfl) hnt (by kernel_rfl) (by simp only [List.size_toArray, List.length_cons, List.length_nil, Nat.reduceAdd]; rfl) ?_
    intro K hK
    refine hK _ _ ?_
    clear hK K
    refine dw_block ?_
    refine dw_loop (ι := { j : Nat // j ≤ 10 ∧ ∀ i (h : i < l.length), i < j → (fewB l[i].2 && lowB l[i].2) = true }) (fun j => [(.t 0, .sl 5 (ePairs l) none), (.t 3, .v (.int .i64 (j.1 : Int)))]) 1 (fun j => l.length - j.1) ⟨0, by decide, fun i h1 h2 => by omega⟩ (VS.toK (by first | omega | simp [hn0]) (by repeat first | exact trivial | refine And.intro (And.intro (by first | rfl | simp [D.ok, D.oks, D.okss, D.okm, eTm_ok, eTy_ok, eTys_ok, eTms_ok, upto, keyOk, ePairs_ok]) (by first | exact Or.inl rfl | exact Or.inr ⟨_, rfl, (by repeat first | exact VLe.refl _ | exact VLe.nil _ | exact VLe.untag _ _ _ | refine VLe.ag ?_ | refine VLe.tu ?_ | refine VLeL.cons ?_ ?_ | exact VLeL.nil), trivial⟩ | simp [get, Key.eq, ePairs_ok])) ?_)) fun j => ?_
    obtain ⟨j, hj10, hj⟩ := j
    dsimp only
    refine dw_seq (dw_seq ?_)
    have end_ : ¬ (j < l.length ∧ j < 10) → few9 l = true := fun h => by
      unfold few9
      rw [List.all_eq_true]
      intro p hp
      obtain ⟨i, hi, rfl⟩ := List.getElem_of_mem hp
      rw [List.length_take] at hi
      have := hj i (by omega) (by omega)
      simpa using this
    by_cases hlt : j < l.length
    · by_cases h10 : j < 10
      · have hjt : l[j] ∈ l.take 10 := by
          have : j < (l.take 10).length := by rw [List.length_take]; omega
          have h2 : (l.take 10)[j] = l[j] := by simp
          rw [← h2]; exact List.getElem_mem this
        have hF := lawFew_d [l[j].2] (by simp)
        have hq : (ePairs l).getD (j : Int).toNat [] = [.v (.int .i64 l[j].1), .sl 2 (eTys l[j].2.binds) none, .v (.int .i64 l[j].2.kind), .v (.int .i64 l[j].2.index), .sl 4 (eTms l[j].2.args) none] := by rw [Int.toNat_natCast, ePairs_getD l j hlt, ePair_eq]
        have hb : (0 : Int) ≤ (j : Int) ∧ (j : Int) < ((ePairs l).length : Int) := ⟨by omega, by rw [ePairs_len]; omega⟩
        have hs : ∀ g, VLe (.sl 4 [[.sl 2 (eTys l[j].2.binds) none, .v (.int .i64 l[j].2.kind), .v (.int .i64 l[j].2.index), .sl 4 (eTms l[j].2.args) none]] g) (.sl 4 (eTms [l[j].2]) none) := fun g => by
          rw [eTms, eTms, eTm_eq]; exact VLe.untag _ _ _
        refine dw_k [(7, .v (.bool true)), (10, .v (.bool true))] TL10_ok (by kernel_rfl) hnt (by kernel_rfl) (by simp only [List.size_toArray, List.length_cons, List.length_nil, Nat.reduceAdd]; rfl) ?_
        intro K hK
        refine And.intro (dtrue (by rw [ePairs_len]; omega)) ?_
        refine And.intro (dtrue (by omega)) ?_
        refine hK _ _ ?_
        clear hK K
        refine dw_cond (t := true) rfl ?_
        rw [if_pos rfl]
        refine dw_skip ?_
        refine dw_seq (dw_block (dw_seq ?_))
        cases hf : fewB l[j].2 with
        | false =>
          have hn : few9 l = false := by
            unfold few9; rw [List.all_eq_false]; exact ⟨l[j], hjt, by rw [hf]; simp⟩
          rw [hn]
          simp only [List.all_cons, List.all_nil, Bool.and_true, hf] at hF
          refine dw_k [(16, .q [.v (.int .i64 l[j].1), .sl 2 (eTys l[j].2.binds) none, .v (.int .i64 l[j].2.kind), .v (.int .i64 l[j].2.index), .sl 4 (eTms l[j].2.args) none]), (19, .sl 4 (eTms [l[j].2]) none)] TL10_ok (by kernel_rfl) hnt (by kernel_rfl) (by simp only [List.size_toArray, List.length_cons, List.length_nil, Nat.reduceAdd]; rfl) ?_
          intro K hK
          refine And.intro (hb) ?_
          refine And.intro (VLe.of_eq (by rw [hq])) ?_
          refine And.intro (hs _) ?_
          refine ⟨_, _, _, Or.inl (hF), by repeat first | exact trivial | refine And.intro ⟨rfl, rfl⟩ ?_, ?_⟩
          refine hK _ _ ?_
          clear hK K
          refine dw_cond (t := true) rfl ?_
          rw [if_pos rfl]
          refine dw_seq ?_
          refine dw_k [] TL10_ok (by kernel_rfl) hnt (by kernel_rfl) (by simp only [List.size_toArray, List.length_cons, List.length_nil, Nat.reduceAdd]; rfl) ?_
          intro K hK
          refine hK _ _ ?_
          clear hK K
          refine dw_ret ?_
          exact retv (N := 0) (.inr rfl) rfl (VLe.refl _) trivial
        | true =>
          have hL := low_d [l[j].2] (by simp) (fun t ht => by simp at ht; subst ht; exact hw _ hjt hf)
          simp only [List.all_cons, List.all_nil, Bool.and_true, hf] at hF
          simp only [lowsB, Bool.and_true] at hL
          cases hlo : lowB l[j].2 with
          | false =>
            have hn : few9 l = false := by
              unfold few9; rw [List.all_eq_false]; exact ⟨l[j], hjt, by rw [hlo]; simp⟩
            rw [hn]
            rw [hlo] at hL
            refine dw_k [(16, .q [.v (.int .i64 l[j].1), .sl 2 (eTys l[j].2.binds) none, .v (.int .i64 l[j].2.kind), .v (.int .i64 l[j].2.index), .sl 4 (eTms l[j].2.args) none]), (19, .sl 4 (eTms [l[j].2]) none), (25, .q [.v (.int .i64 l[j].1), .sl 2 (eTys l[j].2.binds) none, .v (.int .i64 l[j].2.kind), .v (.int .i64 l[j].2.index), .sl 4 (eTms l[j].2.args) none]), (28, .sl 4 (eTms [l[j].2]) none)] TL10_ok (by kernel_rfl) hnt (by kernel_rfl) (by simp only [List.size_toArray, List.length_cons, List.length_nil, Nat.reduceAdd]; rfl) ?_
            intro K hK
            refine And.intro (hb) ?_
            refine And.intro (VLe.of_eq (by rw [hq])) ?_
            refine And.intro (hs _) ?_
            refine ⟨_, _, _, Or.inl (hF), by repeat first | exact trivial | refine And.intro ⟨rfl, rfl⟩ ?_, ?_⟩
            refine And.intro (hb) ?_
            refine And.intro (VLe.of_eq (by rw [hq])) ?_
            refine And.intro (hs _) ?_
            refine ⟨_, _, _, Or.inl (hL), by repeat first | exact trivial | refine And.intro ⟨rfl, rfl⟩ ?_, ?_⟩
            refine hK _ _ ?_
            clear hK K
            refine dw_cond (t := true) rfl ?_
            rw [if_pos rfl]
            refine dw_seq ?_
            refine dw_k [] TL10_ok (by kernel_rfl) hnt (by kernel_rfl) (by simp only [List.size_toArray, List.length_cons, List.length_nil, Nat.reduceAdd]; rfl) ?_
            intro K hK
            refine hK _ _ ?_
            clear hK K
            refine dw_ret ?_
            exact retv (N := 0) (.inr rfl) rfl (VLe.refl _) trivial
          | true =>
            rw [hlo] at hL
            refine dw_k [(16, .q [.v (.int .i64 l[j].1), .sl 2 (eTys l[j].2.binds) none, .v (.int .i64 l[j].2.kind), .v (.int .i64 l[j].2.index), .sl 4 (eTms l[j].2.args) none]), (19, .sl 4 (eTms [l[j].2]) none), (25, .q [.v (.int .i64 l[j].1), .sl 2 (eTys l[j].2.binds) none, .v (.int .i64 l[j].2.kind), .v (.int .i64 l[j].2.index), .sl 4 (eTms l[j].2.args) none]), (28, .sl 4 (eTms [l[j].2]) none)] TL10_ok (by kernel_rfl) hnt (by kernel_rfl) (by simp only [List.size_toArray, List.length_cons, List.length_nil, Nat.reduceAdd]; rfl) ?_
            intro K hK
            refine And.intro (hb) ?_
            refine And.intro (VLe.of_eq (by rw [hq])) ?_
            refine And.intro (hs _) ?_
            refine ⟨_, _, _, Or.inl (hF), by repeat first | exact trivial | refine And.intro ⟨rfl, rfl⟩ ?_, ?_⟩
            refine And.intro (hb) ?_
            refine And.intro (VLe.of_eq (by rw [hq])) ?_
            refine And.intro (hs _) ?_
            refine ⟨_, _, _, Or.inl (hL), by repeat first | exact trivial | refine And.intro ⟨rfl, rfl⟩ ?_, ?_⟩
            refine hK _ _ ?_
            clear hK K
            refine dw_cond (t := false) rfl ?_
            rw [if_neg (by simp)]
            refine dw_skip ?_
            refine dw_k [(13, .v (.int .i64 ((j + 1 : Nat) : Int)))] TL10_ok (by kernel_rfl) hnt (by kernel_rfl) (by simp only [List.size_toArray, List.length_cons, List.length_nil, Nat.reduceAdd]; rfl) ?_
            intro K hK
            refine And.intro (dintE (by rw [IntWalk.i64_in _ (by omega)]; omega)) ?_
            refine hK _ _ ?_
            clear hK K
            refine ⟨⟨j + 1, by omega, fun i h1 h2 => ?_⟩, by dsimp only; omega, (VS.toK (by first | omega | simp [hn0]) (by repeat first | exact trivial | refine And.intro (And.intro (by first | rfl | simp [D.ok, D.oks, D.okss, D.okm, eTm_ok, eTy_ok, eTys_ok, eTms_ok, upto, keyOk, ePairs_ok]) (by first | exact Or.inl rfl | exact Or.inr ⟨_, rfl, (by repeat first | exact VLe.refl _ | exact VLe.nil _ | exact VLe.untag _ _ _ | refine VLe.ag ?_ | refine VLe.tu ?_ | refine VLeL.cons ?_ ?_ | exact VLeL.nil), trivial⟩ | simp [get, Key.eq, ePairs_ok])) ?_))⟩
            by_cases he : i = j
            · subst he; rw [hf, hlo]; rfl
            · exact hj i h1 (by omega)
      · rw [end_ (fun h => h10 h.2)]
        refine dw_k [(7, .v (.bool true)), (10, .v (.bool false))] TL10_ok (by kernel_rfl) hnt (by kernel_rfl) (by simp only [List.size_toArray, List.length_cons, List.length_nil, Nat.reduceAdd]; rfl) ?_
        intro K hK
        refine And.intro (dtrue (by rw [ePairs_len]; omega)) ?_
        refine And.intro (dfalse (by omega)) ?_
        refine hK _ _ ?_
        clear hK K
        refine dw_cond (t := false) rfl ?_
        rw [if_neg (by simp)]
        refine dw_exit ?_
        refine dw_seq ?_
        refine dw_k [] TL10_ok (by kernel_rfl) hnt (by kernel_rfl) (by simp only [List.size_toArray, List.length_cons, List.length_nil, Nat.reduceAdd]; rfl) ?_
        intro K hK
        refine hK _ _ ?_
        clear hK K
        refine dw_ret ?_
        exact retv (N := 0) (.inr rfl) rfl (VLe.refl _) trivial
    · rw [end_ (fun h => hlt h.1)]
      refine dw_k [(7, .v (.bool false))] TL10_ok (by kernel_rfl) hnt (by kernel_rfl) (by simp only [List.size_toArray, List.length_cons, List.length_nil, Nat.reduceAdd]; rfl) ?_
      intro K hK
      refine And.intro (dfalse (by rw [ePairs_len]; omega)) ?_
      refine hK _ _ ?_
      clear hK K
      refine dw_cond (t := false) rfl ?_
      rw [if_neg (by simp)]
      refine dw_exit ?_
      refine dw_seq ?_
      refine dw_k [] TL10_ok (by kernel_rfl) hnt (by kernel_rfl) (by simp only [List.size_toArray, List.length_cons, List.length_nil, Nat.reduceAdd]; rfl) ?_
      intro K hK
      refine hK _ _ ?_
      clear hK K
      refine dw_ret ?_
      exact retv (N := 0) (.inr rfl) rfl (VLe.refl _) trivial
end Go.Proofs.YtiblklcfjakjmaaGreat

namespace Go.Proofs.YtiblklcfjakjmaaGreat
open Go.RowKit

def headTy (C M X : List Ty) (k i : Int) : Option Ty :=
  if i < 0 then none else if k = 0 then X.reverse[i.toNat]? else if k = 1 then C[i.toNat]? else if k = 2 then M[i.toNat]? else none
theorem headTy_neg {C M X : List Ty} {k i : Int} (h : i < 0) : headTy C M X k i = none := by rw [headTy, if_pos h]
theorem headTy_0 {C M X : List Ty} (i : Nat) : headTy C M X 0 i = X.reverse[i]? := by rw [headTy, if_neg (by omega), if_pos rfl]; rfl
theorem headTy_1 {C M X : List Ty} (i : Nat) : headTy C M X 1 i = C[i]? := by rw [headTy, if_neg (by omega), if_neg (by decide), if_pos rfl]; rfl
theorem headTy_2 {C M X : List Ty} (i : Nat) : headTy C M X 2 i = M[i]? := by rw [headTy, if_neg (by omega), if_neg (by decide), if_neg (by decide), if_pos rfl]; rfl
theorem headTy_o {C M X : List Ty} {k i : Int} (h0 : k ≠ 0) (h1 : k ≠ 1) (h2 : k ≠ 2) : headTy C M X k i = none := by
  rw [headTy, if_neg h0, if_neg h1, if_neg h2]; split <;> rfl

def tyZ : Ty := .mk [] 0
theorem isTy_zero (F : Nat → Prop) (w : World) : IsTy F w (.slice none 0 0) (.int .i64 0) tyZ := isTy_mk (isSl_nil rpTy F w) 0
def HeadPost (F : Nat → Prop) (o : Option Ty) (w : World) (e : Ending) (w' : World) : Prop := ∃ s b, e = .returned (.tuple #[.agg #[s, b], .bool o.isSome]) ∧ IsTy F w' s b (o.getD tyZ) ∧ Below w.heap.size w w'

theorem sl_at {G F : Nat → Prop} {w : World} {a : Option Addr} {n c : Nat} {l : List Ty} (h : IsSl2 rpTy G F w (.slice a n c) l) (j : Nat) (hj : j < l.length) : ∃ bl off A N C B, a = some ⟨bl, off, none⟩ ∧ G bl ∧
    w.cell? ⟨bl, off + j * 2, none⟩ = some (.slice A N C) ∧ w.cell? ⟨bl, off + j * 2 + 1, none⟩ = some (.int .i64 B) ∧ IsTy F w (.slice A N C) (.int .i64 B) l[j] := by
  obtain ⟨a', c', bl, off, X, hv, _, ha, h1, h2⟩ := h
  cases hv
  obtain ⟨ha, hG⟩ := ha (by omega)
  obtain ⟨s, b, hx, ht⟩ := h2 j hj
  obtain ⟨sa, sc, rfl, rfl⟩ := ht.shape
  exact ⟨bl, off, _, _, _, _, ha, hG, h1 j 0 _ hj (by rw [hx]; rfl), h1 j 1 _ hj (by rw [hx]; rfl), ht⟩

theorem head_end0 {F : Nat → Prop} {w w3 : World} {o : Option Ty} (B3 : Below w.heap.size w w3) (ho : o = none) :
    HeadPost F o w (.returned (.tuple #[.agg #[.slice none 0 0, .int .i64 0], .bool false])) w3 := by
  subst ho
  exact ⟨_, _, rfl, isTy_zero _ _, B3⟩
theorem head_end {F : Nat → Prop} {w w3 : World} {A B : Value} {t : Ty} {o : Option Ty} {p : Nat} (hF : ∀ q, F q → q < w.heap.size) (hp : w.heap.size ≤ p) (B3 : Below w.heap.size w w3) (ht : IsTy F w A B t) (ho : o.getD tyZ = t) (b : Bool) (hb : b = o.isSome) :
    HeadPost F o w (.returned (.tuple #[.agg #[A, B], .bool b])) ((w3.setCell ⟨p, 0, none⟩ A).setCell ⟨p, 1, none⟩ B) := by
  subst hb ho
  have hn : ¬ F p := fun h => by have := hF p h; omega
  exact ⟨_, _, rfl, ht.keep ((((Keep.refl _ _).below B3).setCell _ _ hn).setCell _ _ hn), (B3.setCell (by simp; omega) _).setCell (by simp; omega) _⟩

set_option maxRecDepth 100000 in
set_option maxHeartbeats 4000000 in
theorem headType_k {F : Nat → Prop} {w : World} {b : Int} {cv mv xv : Value} {C M X : List Ty} (hF : ∀ q, F q → q < w.heap.size) (hc : IsSl rpTy F w cv C) (hm : IsSl rpTy F w mv M) (hx : IsSl2 rpTy (fun _ => True) F w xv X) (k i : Int) (hi : i ≤ 9223372036854775807) :
    Calls Tryz.prog 76 #[.agg #[.int .i64 b, cv, mv], xv, .agg #[.int .i64 k, .int .i64 i]] w (HeadPost F (headTy C M X k i) w) := by
  obtain ⟨ca, cc, rfl⟩ := hc.shape
  obtain ⟨ma, mc, rfl⟩ := hm.shape
  obtain ⟨xa, xc, rfl⟩ := hx.shape
  have Hxl : Hid ((X.length : Int) ≤ 9223372036854775807) := by obtain ⟨_, _, _, _, _, _, h, _⟩ := hx; unfold maxLen at h; show _ ≤ _; omega
  have Hc := Lib.hid (sl_at (IsSl2.of hc)); have Hm := Lib.hid (sl_at (IsSl2.of hm)); have Hx := Lib.hid (sl_at hx)
  have hF := Lib.hid hF
  clear hc hm hx
  obtain ⟨o, ho⟩ : ∃ o, headTy C M X k i = o := ⟨_, rfl⟩
  have Ho := Lib.hid ho
  rw [ho]
  clear ho
  by_cases k1 : k = 1
  · subst k1
    go_enter Tryz.func76, Tryz.ntmps76
    go_wp2_with fail
    obtain ⟨w3, hw3⟩ : ∃ w3, ((w.alloc (.cells #[.int .i64 b, .slice ca C.length cc, .slice ma M.length mc] 36)).alloc (.cells #[.int .i64 1, .int .i64 i] 49)).alloc (.cells #[.slice none 0 0, .int .i64 0] 77) = w3 := ⟨_, rfl⟩
    have B_w3 : Below w.heap.size w w3 := by rw [← hw3]; exact (((Below.refl _ _).alloc (Nat.le_refl _) _).alloc (by simp) _).alloc (by simp; omega) _
    have x0_w3 : Blk w3 w.heap.size #[.int .i64 b, .slice ca C.length cc, .slice ma M.length mc] 36 := by rw [← hw3]; exact ((Blk.new _ _ _ rfl).alloc _).alloc _
    have x1_w3 : Blk w3 (w.heap.size + 1) #[.int .i64 1, .int .i64 i] 49 := by rw [← hw3]; exact (Blk.new _ _ _ (by simp)).alloc _
    have x2_w3 : Blk w3 (w.heap.size + 1 + 1) #[.slice none 0 0, .int .i64 0] 77 := by rw [← hw3]; exact Blk.new _ _ _ (by simp)
    rw [hw3]
    clear hw3
    have cx00 : w3.cell? ⟨w.heap.size, 0, none⟩ = some (.int .i64 b) := x0_w3.cell rfl
    have cx01 : w3.cell? ⟨w.heap.size, 1, none⟩ = some (.slice ca C.length cc) := x0_w3.cell rfl
    have cx02 : w3.cell? ⟨w.heap.size, 2, none⟩ = some (.slice ma M.length mc) := x0_w3.cell rfl
    have lx0 := x0_w3.lt
    have cx10 : w3.cell? ⟨w.heap.size + 1, 0, none⟩ = some (.int .i64 1) := x1_w3.cell rfl
    have cx11 : w3.cell? ⟨w.heap.size + 1, 1, none⟩ = some (.int .i64 i) := x1_w3.cell rfl
    have lx1 := x1_w3.lt
    have cx20 : w3.cell? ⟨w.heap.size + 1 + 1, 0, none⟩ = some (.slice none 0 0) := x2_w3.cell rfl
    have cx21 : w3.cell? ⟨w.heap.size + 1 + 1, 1, none⟩ = some (.int .i64 0) := x2_w3.cell rfl
    have lx2 := x2_w3.lt
    go_quiet (fail)
    clear cx00 cx01 cx02 lx0 cx10 cx11 lx1 cx20 cx21 lx2
    obtain ⟨w5, hw5⟩ : ∃ x, w3.drewN nq = x := ⟨_, rfl⟩
    rw [hw5]
    have hbx : Below w3.heap.size w3 w5 := by rw [← hw5]; exact below_drewN (Below.refl _ _) _
    clear hw5
    have x0_w5 := x0_w3.below hbx
    have x1_w5 := x1_w3.below hbx
    have x2_w5 := x2_w3.below hbx
    have B_w5 := B_w3.trans (hbx.mono B_w3.size)
    clear x0_w3 x1_w3 x2_w3 B_w3 hbx
    have c0 : w5.cell? ⟨w.heap.size + 1 + 1, 0, none⟩ = some (.slice none 0 0) := x2_w5.cell rfl
    have c1 : w5.cell? ⟨w.heap.size + 1 + 1, 1, none⟩ = some (.int .i64 0) := x2_w5.cell rfl
    have f0 := x2_w5.free 0
    have f1 := x2_w5.free 1
    by_cases i0 : i < 0
    · go_wp2_with fail
      have z0_0 := ((x2_w5).set 0 (.slice none 0 0)).cell (i := 0) (v := .slice none 0 0) rfl
      have z0_1 := (((x2_w5).set 0 (.slice none 0 0)).set 1 (.int .i64 0)).cell (i := 0) (v := .slice none 0 0) rfl
      have z1_1 := (((x2_w5).set 0 (.slice none 0 0)).set 1 (.int .i64 0)).cell (i := 1) (v := .int .i64 0) rfl
      refine bodyPost_ret (v := .tuple #[.agg #[.slice none 0 0, .int .i64 0], .bool false]) (by simp [results, Tryz.results76, go_sem, z0_0, z0_1, z1_1]) rfl ?_
      clear z0_0 z0_1 z1_1
      exact head_end hF.out (by omega) B_w5 (isTy_zero _ _) (by rw [← Ho.out, headTy_neg i0]; rfl) _ (by rw [← Ho.out, headTy_neg i0]; rfl)
    obtain ⟨j, rfl⟩ : ∃ j : Nat, i = (j : Int) := ⟨i.toNat, by omega⟩
    by_cases i1 : j < C.length
    · skip
      obtain ⟨bl, off, A, N, Cc, Bb, rfl, _, e1, e2, hT⟩ := Hc.out j i1
      have e1 : w5.cell? ⟨bl, off + j * 2, none⟩ = some (.slice A N Cc) := ((Keep.refl (fun _ => True) _).below B_w5) _ _ _ trivial e1
      have e2 : w5.cell? ⟨bl, off + j * 2 + 1, none⟩ = some (.int .i64 Bb) := ((Keep.refl (fun _ => True) _).below B_w5) _ _ _ trivial e2
      have HT := Lib.hid hT; clear hT
      have l0 := Keep.lt e1
      go_wp2_with fail
      have z0_0 := ((x2_w5).set 0 (.slice A N Cc)).cell (i := 0) (v := .slice A N Cc) rfl
      have z0_1 := (((x2_w5).set 0 (.slice A N Cc)).set 1 (.int .i64 Bb)).cell (i := 0) (v := .slice A N Cc) rfl
      have z1_1 := (((x2_w5).set 0 (.slice A N Cc)).set 1 (.int .i64 Bb)).cell (i := 1) (v := .int .i64 Bb) rfl
      refine bodyPost_ret (v := .tuple #[.agg #[.slice A N Cc, .int .i64 Bb], .bool true]) (by simp [results, Tryz.results76, go_sem, z0_0, z0_1, z1_1]) rfl ?_
      clear z0_0 z0_1 z1_1
      exact head_end hF.out (by omega) B_w5 HT.out (by rw [← Ho.out, headTy_1, List.getElem?_eq_getElem i1]; rfl) _ (by rw [← Ho.out, headTy_1, List.getElem?_eq_getElem i1]; rfl)
    · go_wp2_with fail
      have z0_0 := ((x2_w5).set 0 (.slice none 0 0)).cell (i := 0) (v := .slice none 0 0) rfl
      have z0_1 := (((x2_w5).set 0 (.slice none 0 0)).set 1 (.int .i64 0)).cell (i := 0) (v := .slice none 0 0) rfl
      have z1_1 := (((x2_w5).set 0 (.slice none 0 0)).set 1 (.int .i64 0)).cell (i := 1) (v := .int .i64 0) rfl
      refine bodyPost_ret (v := .tuple #[.agg #[.slice none 0 0, .int .i64 0], .bool false]) (by simp [results, Tryz.results76, go_sem, z0_0, z0_1, z1_1]) rfl ?_
      clear z0_0 z0_1 z1_1
      exact head_end hF.out (by omega) B_w5 (isTy_zero _ _) (by rw [← Ho.out, headTy_1, List.getElem?_eq_none (by omega)]; rfl) _ (by rw [← Ho.out, headTy_1, List.getElem?_eq_none (by omega)]; rfl)
  by_cases k2 : k = 2
  · subst k2
    go_enter Tryz.func76, Tryz.ntmps76
    go_wp2_with fail
    obtain ⟨w3, hw3⟩ : ∃ w3, ((w.alloc (.cells #[.int .i64 b, .slice ca C.length cc, .slice ma M.length mc] 36)).alloc (.cells #[.int .i64 2, .int .i64 i] 49)).alloc (.cells #[.slice none 0 0, .int .i64 0] 77) = w3 := ⟨_, rfl⟩
    have B_w3 : Below w.heap.size w w3 := by rw [← hw3]; exact (((Below.refl _ _).alloc (Nat.le_refl _) _).alloc (by simp) _).alloc (by simp; omega) _
    have x0_w3 : Blk w3 w.heap.size #[.int .i64 b, .slice ca C.length cc, .slice ma M.length mc] 36 := by rw [← hw3]; exact ((Blk.new _ _ _ rfl).alloc _).alloc _
    have x1_w3 : Blk w3 (w.heap.size + 1) #[.int .i64 2, .int .i64 i] 49 := by rw [← hw3]; exact (Blk.new _ _ _ (by simp)).alloc _
    have x2_w3 : Blk w3 (w.heap.size + 1 + 1) #[.slice none 0 0, .int .i64 0] 77 := by rw [← hw3]; exact Blk.new _ _ _ (by simp)
    rw [hw3]
    clear hw3
    have cx00 : w3.cell? ⟨w.heap.size, 0, none⟩ = some (.int .i64 b) := x0_w3.cell rfl
    have cx01 : w3.cell? ⟨w.heap.size, 1, none⟩ = some (.slice ca C.length cc) := x0_w3.cell rfl
    have cx02 : w3.cell? ⟨w.heap.size, 2, none⟩ = some (.slice ma M.length mc) := x0_w3.cell rfl
    have lx0 := x0_w3.lt
    have cx10 : w3.cell? ⟨w.heap.size + 1, 0, none⟩ = some (.int .i64 2) := x1_w3.cell rfl
    have cx11 : w3.cell? ⟨w.heap.size + 1, 1, none⟩ = some (.int .i64 i) := x1_w3.cell rfl
    have lx1 := x1_w3.lt
    have cx20 : w3.cell? ⟨w.heap.size + 1 + 1, 0, none⟩ = some (.slice none 0 0) := x2_w3.cell rfl
    have cx21 : w3.cell? ⟨w.heap.size + 1 + 1, 1, none⟩ = some (.int .i64 0) := x2_w3.cell rfl
    have lx2 := x2_w3.lt
    go_quiet (fail)
    clear cx00 cx01 cx02 lx0 cx10 cx11 lx1 cx20 cx21 lx2
    obtain ⟨w5, hw5⟩ : ∃ x, w3.drewN nq = x := ⟨_, rfl⟩
    rw [hw5]
    have hbx : Below w3.heap.size w3 w5 := by rw [← hw5]; exact below_drewN (Below.refl _ _) _
    clear hw5
    have x0_w5 := x0_w3.below hbx
    have x1_w5 := x1_w3.below hbx
    have x2_w5 := x2_w3.below hbx
    have B_w5 := B_w3.trans (hbx.mono B_w3.size)
    clear x0_w3 x1_w3 x2_w3 B_w3 hbx
    have c0 : w5.cell? ⟨w.heap.size + 1 + 1, 0, none⟩ = some (.slice none 0 0) := x2_w5.cell rfl
    have c1 : w5.cell? ⟨w.heap.size + 1 + 1, 1, none⟩ = some (.int .i64 0) := x2_w5.cell rfl
    have f0 := x2_w5.free 0
    have f1 := x2_w5.free 1
    by_cases i0 : i < 0
    · go_wp2_with fail
      have z0_0 := ((x2_w5).set 0 (.slice none 0 0)).cell (i := 0) (v := .slice none 0 0) rfl
      have z0_1 := (((x2_w5).set 0 (.slice none 0 0)).set 1 (.int .i64 0)).cell (i := 0) (v := .slice none 0 0) rfl
      have z1_1 := (((x2_w5).set 0 (.slice none 0 0)).set 1 (.int .i64 0)).cell (i := 1) (v := .int .i64 0) rfl
      refine bodyPost_ret (v := .tuple #[.agg #[.slice none 0 0, .int .i64 0], .bool false]) (by simp [results, Tryz.results76, go_sem, z0_0, z0_1, z1_1]) rfl ?_
      clear z0_0 z0_1 z1_1
      exact head_end hF.out (by omega) B_w5 (isTy_zero _ _) (by rw [← Ho.out, headTy_neg i0]; rfl) _ (by rw [← Ho.out, headTy_neg i0]; rfl)
    obtain ⟨j, rfl⟩ : ∃ j : Nat, i = (j : Int) := ⟨i.toNat, by omega⟩
    by_cases i1 : j < M.length
    · skip
      obtain ⟨bl, off, A, N, Cc, Bb, rfl, _, e1, e2, hT⟩ := Hm.out j i1
      have e1 : w5.cell? ⟨bl, off + j * 2, none⟩ = some (.slice A N Cc) := ((Keep.refl (fun _ => True) _).below B_w5) _ _ _ trivial e1
      have e2 : w5.cell? ⟨bl, off + j * 2 + 1, none⟩ = some (.int .i64 Bb) := ((Keep.refl (fun _ => True) _).below B_w5) _ _ _ trivial e2
      have HT := Lib.hid hT; clear hT
      have l0 := Keep.lt e1
      go_wp2_with fail
      have z0_0 := ((x2_w5).set 0 (.slice A N Cc)).cell (i := 0) (v := .slice A N Cc) rfl
      have z0_1 := (((x2_w5).set 0 (.slice A N Cc)).set 1 (.int .i64 Bb)).cell (i := 0) (v := .slice A N Cc) rfl
      have z1_1 := (((x2_w5).set 0 (.slice A N Cc)).set 1 (.int .i64 Bb)).cell (i := 1) (v := .int .i64 Bb) rfl
      refine bodyPost_ret (v := .tuple #[.agg #[.slice A N Cc, .int .i64 Bb], .bool true]) (by simp [results, Tryz.results76, go_sem, z0_0, z0_1, z1_1]) rfl ?_
      clear z0_0 z0_1 z1_1
      exact head_end hF.out (by omega) B_w5 HT.out (by rw [← Ho.out, headTy_2, List.getElem?_eq_getElem i1]; rfl) _ (by rw [← Ho.out, headTy_2, List.getElem?_eq_getElem i1]; rfl)
    · go_wp2_with fail
      have z0_0 := ((x2_w5).set 0 (.slice none 0 0)).cell (i := 0) (v := .slice none 0 0) rfl
      have z0_1 := (((x2_w5).set 0 (.slice none 0 0)).set 1 (.int .i64 0)).cell (i := 0) (v := .slice none 0 0) rfl
      have z1_1 := (((x2_w5).set 0 (.slice none 0 0)).set 1 (.int .i64 0)).cell (i := 1) (v := .int .i64 0) rfl
      refine bodyPost_ret (v := .tuple #[.agg #[.slice none 0 0, .int .i64 0], .bool false]) (by simp [results, Tryz.results76, go_sem, z0_0, z0_1, z1_1]) rfl ?_
      clear z0_0 z0_1 z1_1
      exact head_end hF.out (by omega) B_w5 (isTy_zero _ _) (by rw [← Ho.out, headTy_2, List.getElem?_eq_none (by omega)]; rfl) _ (by rw [← Ho.out, headTy_2, List.getElem?_eq_none (by omega)]; rfl)
  by_cases k0 : k = 0
  · subst k0
    by_cases i0 : i < 0
    · skip
      go_enter Tryz.func76, Tryz.ntmps76
      go_wp2_with fail
      obtain ⟨w3, hw3⟩ : ∃ w3, ((w.alloc (.cells #[.int .i64 b, .slice ca C.length cc, .slice ma M.length mc] 36)).alloc (.cells #[.int .i64 0, .int .i64 i] 49)).alloc (.cells #[.slice none 0 0, .int .i64 0] 77) = w3 := ⟨_, rfl⟩
      have B_w3 : Below w.heap.size w w3 := by rw [← hw3]; exact (((Below.refl _ _).alloc (Nat.le_refl _) _).alloc (by simp) _).alloc (by simp; omega) _
      have x0_w3 : Blk w3 w.heap.size #[.int .i64 b, .slice ca C.length cc, .slice ma M.length mc] 36 := by rw [← hw3]; exact ((Blk.new _ _ _ rfl).alloc _).alloc _
      have x1_w3 : Blk w3 (w.heap.size + 1) #[.int .i64 0, .int .i64 i] 49 := by rw [← hw3]; exact (Blk.new _ _ _ (by simp)).alloc _
      have x2_w3 : Blk w3 (w.heap.size + 1 + 1) #[.slice none 0 0, .int .i64 0] 77 := by rw [← hw3]; exact Blk.new _ _ _ (by simp)
      rw [hw3]
      clear hw3
      have c0 : w3.cell? ⟨w.heap.size + 1 + 1, 0, none⟩ = some (.slice none 0 0) := x2_w3.cell rfl
      have c1 : w3.cell? ⟨w.heap.size + 1 + 1, 1, none⟩ = some (.int .i64 0) := x2_w3.cell rfl
      have f0 := x2_w3.free 0
      have f1 := x2_w3.free 1
      go_wp2_with fail
      refine bodyPost_ret (v := .tuple #[.agg #[.slice none 0 0, .int .i64 0], .bool false]) (by simp [results, Tryz.results76, go_sem, c0, c1]) rfl ?_
      exact head_end0 B_w3 (by rw [← Ho.out, headTy_neg i0])
    obtain ⟨j, rfl⟩ : ∃ j : Nat, i = (j : Int) := ⟨i.toNat, by omega⟩
    have hq0 : IntKind.i64.wrap ((X.length : Int) - 1) = (X.length : Int) - 1 := IntWalk.i64_in _ (by have := Hxl.out; omega)
    have hq1 : IntKind.i64.wrap ((X.length : Int) - 1 - j) = (X.length : Int) - 1 - j := IntWalk.i64_in _ (by have := Hxl.out; omega)
    by_cases i1 : j < X.length
    · obtain ⟨m, hm⟩ : ∃ m : Nat, X.length - 1 - j = m := ⟨_, rfl⟩
      have i2 : m < X.length := by omega
      have hq2 : IntKind.i64.wrap ((X.length : Int) - 1 - j) = (m : Int) := by rw [hq1]; omega
      clear hq1
      have Hm2 := Lib.hid hm; have Hi1 := Lib.hid i1
      have i6 : decide ((m : Int) < 0) = false := by simp
      clear hm i1
      go_enter Tryz.func76, Tryz.ntmps76
      go_wp2_with fail
      obtain ⟨w3, hw3⟩ : ∃ w3, ((w.alloc (.cells #[.int .i64 b, .slice ca C.length cc, .slice ma M.length mc] 36)).alloc (.cells #[.int .i64 0, .int .i64 (j : Int)] 49)).alloc (.cells #[.slice none 0 0, .int .i64 0] 77) = w3 := ⟨_, rfl⟩
      have B_w3 : Below w.heap.size w w3 := by rw [← hw3]; exact (((Below.refl _ _).alloc (Nat.le_refl _) _).alloc (by simp) _).alloc (by simp; omega) _
      have x0_w3 : Blk w3 w.heap.size #[.int .i64 b, .slice ca C.length cc, .slice ma M.length mc] 36 := by rw [← hw3]; exact ((Blk.new _ _ _ rfl).alloc _).alloc _
      have x1_w3 : Blk w3 (w.heap.size + 1) #[.int .i64 0, .int .i64 (j : Int)] 49 := by rw [← hw3]; exact (Blk.new _ _ _ (by simp)).alloc _
      have x2_w3 : Blk w3 (w.heap.size + 1 + 1) #[.slice none 0 0, .int .i64 0] 77 := by rw [← hw3]; exact Blk.new _ _ _ (by simp)
      rw [hw3]
      clear hw3
      have c0 : w3.cell? ⟨w.heap.size + 1 + 1, 0, none⟩ = some (.slice none 0 0) := x2_w3.cell rfl
      have c1 : w3.cell? ⟨w.heap.size + 1 + 1, 1, none⟩ = some (.int .i64 0) := x2_w3.cell rfl
      have f0 := x2_w3.free 0
      have f1 := x2_w3.free 1
      obtain ⟨bl, off, A, N, Cc, Bb, rfl, _, e1, e2, hT⟩ := Hx.out m i2
      have e1 : w3.cell? ⟨bl, off + m * 2, none⟩ = some (.slice A N Cc) := ((Keep.refl (fun _ => True) _).below B_w3) _ _ _ trivial e1
      have e2 : w3.cell? ⟨bl, off + m * 2 + 1, none⟩ = some (.int .i64 Bb) := ((Keep.refl (fun _ => True) _).below B_w3) _ _ _ trivial e2
      have HT := Lib.hid hT; clear hT
      have l0 := Keep.lt e1
      go_wp2_with fail
      clear hq0 hq2 i6 hi
      go_simp
      have i4 : (0 : Int) ≤ (m : Int) := by omega
      go_wp2_with fail
      have z0_0 := ((x2_w3).set 0 (.slice A N Cc)).cell (i := 0) (v := .slice A N Cc) rfl
      have z0_1 := (((x2_w3).set 0 (.slice A N Cc)).set 1 (.int .i64 Bb)).cell (i := 0) (v := .slice A N Cc) rfl
      have z1_1 := (((x2_w3).set 0 (.slice A N Cc)).set 1 (.int .i64 Bb)).cell (i := 1) (v := .int .i64 Bb) rfl
      refine bodyPost_ret (v := .tuple #[.agg #[.slice A N Cc, .int .i64 Bb], .bool true]) (by simp [results, Tryz.results76, go_sem, z0_0, z0_1, z1_1]) rfl ?_
      clear z0_0 z0_1 z1_1
      exact head_end hF.out (by omega) B_w3 HT.out (by rw [← Ho.out, headTy_0, List.getElem?_reverse Hi1.out, Hm2.out, List.getElem?_eq_getElem i2]; rfl) _ (by rw [← Ho.out, headTy_0, List.getElem?_reverse Hi1.out, Hm2.out, List.getElem?_eq_getElem i2]; rfl)
    · have i3 : (X.length : Int) - 1 - j < 0 := by omega
      go_enter Tryz.func76, Tryz.ntmps76
      go_wp2_with fail
      obtain ⟨w3, hw3⟩ : ∃ w3, ((w.alloc (.cells #[.int .i64 b, .slice ca C.length cc, .slice ma M.length mc] 36)).alloc (.cells #[.int .i64 0, .int .i64 (j : Int)] 49)).alloc (.cells #[.slice none 0 0, .int .i64 0] 77) = w3 := ⟨_, rfl⟩
      have B_w3 : Below w.heap.size w w3 := by rw [← hw3]; exact (((Below.refl _ _).alloc (Nat.le_refl _) _).alloc (by simp) _).alloc (by simp; omega) _
      have x0_w3 : Blk w3 w.heap.size #[.int .i64 b, .slice ca C.length cc, .slice ma M.length mc] 36 := by rw [← hw3]; exact ((Blk.new _ _ _ rfl).alloc _).alloc _
      have x1_w3 : Blk w3 (w.heap.size + 1) #[.int .i64 0, .int .i64 (j : Int)] 49 := by rw [← hw3]; exact (Blk.new _ _ _ (by simp)).alloc _
      have x2_w3 : Blk w3 (w.heap.size + 1 + 1) #[.slice none 0 0, .int .i64 0] 77 := by rw [← hw3]; exact Blk.new _ _ _ (by simp)
      rw [hw3]
      clear hw3
      have c0 : w3.cell? ⟨w.heap.size + 1 + 1, 0, none⟩ = some (.slice none 0 0) := x2_w3.cell rfl
      have c1 : w3.cell? ⟨w.heap.size + 1 + 1, 1, none⟩ = some (.int .i64 0) := x2_w3.cell rfl
      have f0 := x2_w3.free 0
      have f1 := x2_w3.free 1
      go_wp2_with fail
      refine bodyPost_ret (v := .tuple #[.agg #[.slice none 0 0, .int .i64 0], .bool false]) (by simp [results, Tryz.results76, go_sem, c0, c1]) rfl ?_
      exact head_end0 B_w3 (by rw [← Ho.out, headTy_0, List.getElem?_eq_none (by simp; omega)])
  have g0 : (k == 0) = false := by simpa using k0
  have g1 : (k == 1) = false := by simpa using k1
  have g2 : (k == 2) = false := by simpa using k2
  go_enter Tryz.func76, Tryz.ntmps76
  go_wp2_with fail
  obtain ⟨w3, hw3⟩ : ∃ w3, ((w.alloc (.cells #[.int .i64 b, .slice ca C.length cc, .slice ma M.length mc] 36)).alloc (.cells #[.int .i64 k, .int .i64 i] 49)).alloc (.cells #[.slice none 0 0, .int .i64 0] 77) = w3 := ⟨_, rfl⟩
  have B_w3 : Below w.heap.size w w3 := by rw [← hw3]; exact (((Below.refl _ _).alloc (Nat.le_refl _) _).alloc (by simp) _).alloc (by simp; omega) _
  have x0_w3 : Blk w3 w.heap.size #[.int .i64 b, .slice ca C.length cc, .slice ma M.length mc] 36 := by rw [← hw3]; exact ((Blk.new _ _ _ rfl).alloc _).alloc _
  have x1_w3 : Blk w3 (w.heap.size + 1) #[.int .i64 k, .int .i64 i] 49 := by rw [← hw3]; exact (Blk.new _ _ _ (by simp)).alloc _
  have x2_w3 : Blk w3 (w.heap.size + 1 + 1) #[.slice none 0 0, .int .i64 0] 77 := by rw [← hw3]; exact Blk.new _ _ _ (by simp)
  rw [hw3]
  clear hw3
  have c0 : w3.cell? ⟨w.heap.size + 1 + 1, 0, none⟩ = some (.slice none 0 0) := x2_w3.cell rfl
  have c1 : w3.cell? ⟨w.heap.size + 1 + 1, 1, none⟩ = some (.int .i64 0) := x2_w3.cell rfl
  have f0 := x2_w3.free 0
  have f1 := x2_w3.free 1
  go_wp2_with fail
  refine bodyPost_ret (v := .tuple #[.agg #[.slice none 0 0, .int .i64 0], .bool false]) (by simp [results, Tryz.results76, go_sem, c0, c1]) rfl ?_
  exact head_end0 B_w3 (by rw [← Ho.out, headTy_o k0 k1 k2])

end Go.Proofs.YtiblklcfjakjmaaGreat

namespace Go.Proofs.YtiblklcfjakjmaaGreat
open Go.RowKit

theorem IsSl.bel {α : Type} {r : Rp α} {F : Nat → Prop} {w w' : World} {v : Value} {l : List α} (h : IsSl r F w v l) (hb : Below w.heap.size w w') : IsSl r F w' v l := h.keep ((Keep.refl _ _).below hb)
theorem below_own {F : Nat → Prop} {w wr : World} {v : Value} {l : List Ty} {T : TypeId} (h : Acc rpTy T w.heap.size (fun q => F q ∧ q < w.heap.size) wr v l) : ∀ q, (F q ∧ q < w.heap.size) → ((F q ∧ q < w.heap.size) ∧ v.ownBlock ≠ some q) :=
  fun q hq => ⟨hq, fun e => by have := (h.base_le q e).1; omega⟩

set_option maxRecDepth 100000 in
set_option maxHeartbeats 1000000 in
theorem within_k {G G' F : Nat → Prop} {w : World} {v v' : Value} {l l' : List Ty} (h : IsSl2 rpTy G F w v l) (h' : IsSl2 rpTy G' F w v' l') (hl : l.length + l'.length ≤ 100000) :
    Calls Tryz.prog 77 #[v, v'] w (OutSl2 F (l ++ l') w) := by
  obtain ⟨a, c, rfl⟩ := h.shape
  obtain ⟨a', c', rfl⟩ := h'.shape
  have H := Lib.hid h; have H' := Lib.hid h'
  clear h h'
  obtain ⟨r, hr⟩ : ∃ r, l ++ l' = r := ⟨_, rfl⟩
  have Hr := Lib.hid hr
  rw [hr]
  clear hr
  go_enter Tryz.func77, Tryz.ntmps77
  go_wp2_with fail
  obtain ⟨w1, hw1⟩ : ∃ w1, w.alloc (.cells #[.slice a l.length c, .slice a' l'.length c'] 34) = w1 := ⟨_, rfl⟩
  have hb1 : Below w.heap.size w w1 := by rw [← hw1]; exact (Below.refl _ _).alloc (Nat.le_refl _) _
  have x : Blk w1 w.heap.size #[.slice a l.length c, .slice a' l'.length c'] 34 := by rw [← hw1]; exact Blk.new _ _ _ rfl
  try rw [hw1]
  clear hw1
  refine (concat_any2 x (H.out.bel hb1) (H'.out.bel hb1) hl).mono ?_
  rintro e w2 ⟨a2, c2, rfl, hT, hb2⟩
  have hs1 := hb1.size
  have HT := Lib.hid (hT.weaken (G' := fun q => w.heap.size ≤ q) (F' := F) (by decide) (fun q _ h => by omega) fun _ _ h => h); clear hT
  rw [Hr.out] at HT ⊢
  go_wp2_with fail
  go_ret
  exact ⟨_, _, rfl, HT.out, hb1.trans (hb2.mono hb1.size)⟩

set_option maxRecDepth 100000 in
set_option maxHeartbeats 1000000 in
theorem behind_r {G G' F : Nat → Prop} {w : World} {v v' : Value} {l l' : List Ty} (h : IsSl2 rpTy G F w v l) (h' : IsSl2 rpTy G' F w v' l') (hl : l.length + l'.length ≤ 100000) :
    Calls Tryz.prog 51 #[v, v'] w (OutSl2 F (l ++ l') w) := by
  obtain ⟨a, c, rfl⟩ := h.shape
  obtain ⟨a', c', rfl⟩ := h'.shape
  obtain ⟨i0, hi0, hz0, hz1, hz2⟩ := info_parts infoR
  have H := Lib.hid (h.weaken (G' := fun q => q < w.heap.size) (F' := fun q => F q ∧ q < w.heap.size) (by decide) (fun k hk _ => hk) fun k hk hF => ⟨hF, hk⟩)
  have H' := Lib.hid (h'.weaken (G' := fun q => q < w.heap.size) (F' := fun q => F q ∧ q < w.heap.size) (by decide) (fun k hk _ => hk) fun k hk hF => ⟨hF, hk⟩)
  clear h h'
  have hll : l.length ≤ 1000000 := by omega
  have hacc0 := Acc.nil rpTy 104 w.heap.size (fun q => F q ∧ q < w.heap.size) w
  have Ha := Lib.hid hacc0; clear hacc0
  go_enter Tryz.func51, Tryz.ntmps51
  go_wp2_with (first
    | (at_builtin
       refine wpList_push_sl rpTy (by decide) rfl _ _ _ rfl w.heap.size 104 i0 _ 32 Tryz.underlying22 hi0 hz0 hz1 hz2 rfl (by decide) (fun q => F q ∧ q < w.heap.size) _ [] rfl Ha.out _ l rfl (H.out.weaken (by decide) (fun _ _ h => h) fun q _ hq => below_own Ha.out q hq) (by simp; omega) (Nat.le_refl _) ?_
       intro v1 w1 hacc1 hgrow hat
       have hb1 : Below w.heap.size w w1 := (Below.refl _ _).grown hgrow (Nat.le_refl _) (fun q hq => (Ha.out.base_le q hq).1)
       simp only [List.nil_append] at hacc1
       obtain ⟨a1, c1, hv1⟩ := hacc1.len_shape
       subst hv1
       have Ha1 := Lib.hid hacc1
       have H1' := Lib.hid (H'.out.bel hb1)
       have hs1 := hb1.size
       clear hacc1 hgrow hat)
    | (at_builtin
       refine wpList_push_sl rpTy (by decide) rfl _ _ _ rfl w.heap.size 104 i0 _ 32 Tryz.underlying22 hi0 hz0 hz1 hz2 rfl (by decide) (fun q => F q ∧ q < w.heap.size) _ l rfl Ha1.out _ l' rfl (H1'.out.weaken (by decide) (fun _ _ h => h) fun q _ hq => below_own Ha1.out q hq) (by omega) hs1 ?_
       intro v2 w2 hacc2 hgrow hat
       have Ha2 := Lib.hid hacc2
       clear hacc2 hat))
  have hb2 : Below w.heap.size w w2 := hb1.grown hgrow hs1 (fun q hq => (Ha1.out.base_le q hq).1)
  obtain ⟨a2, c2, hv⟩ := Ha2.out.len_shape
  go_ret
  refine ⟨a2, c2, ?_, ?_, hb2⟩
  · rw [← hv]; rfl
  · rw [← hv]; exact Ha2.out.sl2.weaken (by decide) (fun _ _ h => h) (fun _ _ h => h.1)
end Go.Proofs.YtiblklcfjakjmaaGreat

namespace Go.Proofs.YtiblklcfjakjmaaGreat
open Go.RowKit

structure Phi where
  P : Value → Nat → Nat → World → Prop
  up : ∀ {v x y w w'}, P v x y w → Below w.heap.size w w' → P v x y w'
end Go.Proofs.YtiblklcfjakjmaaGreat

namespace Go.Proofs.YtiblklcfjakjmaaGreat
open Go.RowKit

def TyPostE (F : Nat → Prop) (o : Option Ty) (w : World) (e : Ending) (w' : World) : Prop := ∃ s b, e = .returned (.tuple #[.agg #[s, b], .int .i64 (if o.isSome then 0 else 10)]) ∧ IsTy F w' s b (o.getD tyZ) ∧ Below w.heap.size w w'

theorem IsTy.trueb {F : Nat → Prop} {w : World} {s b : Value} {t : Ty} (h : IsTy F w s b t) : IsTy (fun _ => True) w s b t := h.weaken fun _ _ _ => trivial
set_option maxRecDepth 100000 in
set_option maxHeartbeats 4000000 in
theorem HeadType_k {F : Nat → Prop} {w : World} {b : Int} {cv mv xv : Value} {C M X : List Ty} (hF : ∀ q, F q → q < w.heap.size) (hc : IsSl rpTy F w cv C) (hm : IsSl rpTy F w mv M) (hx : IsSl2 rpTy (fun _ => True) F w xv X) (k i : Int) (hi : i ≤ 9223372036854775807)
    (hsz : ∀ t, headTy C M X k i = some t → t.size ≤ 90000) :
    Calls Tryz.prog 56 #[.agg #[.int .i64 b, cv, mv], xv, .agg #[.int .i64 k, .int .i64 i]] w (TyPostE (fun q => w.heap.size ≤ q) (headTy C M X k i) w) := by
  have Hcall := Lib.hid fun (w' : World) (hb : Below w.heap.size w w') => headType_k (b := b) (fun q h => Nat.lt_of_lt_of_le (hF q h) hb.size) (hc.bel hb) (hm.bel hb) (hx.bel hb) k i hi
  obtain ⟨ca, cc, rfl⟩ := hc.shape
  obtain ⟨ma, mc, rfl⟩ := hm.shape
  obtain ⟨xa, xc, rfl⟩ := hx.shape
  clear hc hm hx
  obtain ⟨o, ho⟩ : ∃ o, headTy C M X k i = o := ⟨_, rfl⟩
  rw [ho] at Hcall hsz ⊢
  have Hsz := Lib.hid hsz
  clear ho hsz
  go_enter Tryz.func56, Tryz.ntmps56
  go_wp2_with fail
  obtain ⟨w3, hw3⟩ : ∃ w3, ((w.alloc (.cells #[.int .i64 b, .slice ca C.length cc, .slice ma M.length mc] 36)).alloc (.cells #[.int .i64 k, .int .i64 i] 49)).alloc (.cells #[.slice none 0 0, .int .i64 0] 77) = w3 := ⟨_, rfl⟩
  have B_w3 : Below w.heap.size w w3 := by rw [← hw3]; exact (((Below.refl _ _).alloc (Nat.le_refl _) _).alloc (by simp) _).alloc (by simp; omega) _
  have x2_w3 : Blk w3 (w.heap.size + 1 + 1) #[.slice none 0 0, .int .i64 0] 77 := by rw [← hw3]; exact Blk.new _ _ _ (by simp)
  rw [hw3]
  clear hw3
  refine (Hcall.out w3 B_w3).mono ?_
  rintro e w4 ⟨s, b', rfl, hT, hbx0⟩
  have hbx : Below w3.heap.size w3 w4 := hbx0
  clear hbx0
  have x2_w4 := x2_w3.below hbx
  have B_w4 := B_w3.trans (hbx.mono B_w3.size)
  clear x2_w3 B_w3 hbx
  obtain ⟨sa, sc, rfl, rfl⟩ := hT.shape
  cases hs : o.isSome
  · have ho : o = none := by simpa using hs
    subst ho
    simp only [Option.getD_none, tyZ, Ty.args, Ty.base, List.length_nil] at hT ⊢
    clear hT
    have cx20 : w4.cell? ⟨w.heap.size + 1 + 1, 0, none⟩ = some (.slice none 0 0) := x2_w4.cell rfl
    have cx21 : w4.cell? ⟨w.heap.size + 1 + 1, 1, none⟩ = some (.int .i64 0) := x2_w4.cell rfl
    have lx2 := x2_w4.lt
    have f0 := x2_w4.free 0
    have f1 := x2_w4.free 1
    go_wp2_with fail
    have y0 := ((((x2_w4).set 0 (.slice none 0 0)).set 1 (.int .i64 0)).alloc (.cells #[.slice sa 0 sc, .int .i64 0] 77)).cell (i := 0) (v := .slice none 0 0) rfl
    have y1 := ((((x2_w4).set 0 (.slice none 0 0)).set 1 (.int .i64 0)).alloc (.cells #[.slice sa 0 sc, .int .i64 0] 77)).cell (i := 1) (v := .int .i64 0) rfl
    have z0_0 := ((x2_w4).set 0 (.slice none 0 0)).cell (i := 0) (v := .slice none 0 0) rfl
    have z0_1 := (((x2_w4).set 0 (.slice none 0 0)).set 1 (.int .i64 0)).cell (i := 0) (v := .slice none 0 0) rfl
    have z1_1 := (((x2_w4).set 0 (.slice none 0 0)).set 1 (.int .i64 0)).cell (i := 1) (v := .int .i64 0) rfl
    refine bodyPost_ret (v := .tuple #[.agg #[.slice none 0 0, .int .i64 0], .int .i64 10]) (by simp [results, Tryz.results56, go_sem, y0, y1, z0_0, z0_1, z1_1]) rfl ?_
    clear y0 y1 z0_0 z0_1 z1_1
    exact ⟨_, _, rfl, isTy_zero _ _, ((B_w4.setCell (by simp; omega) _).setCell (by simp; omega) _).alloc (by have := B_w4.size; simp; omega) _⟩
  · obtain ⟨t, rfl⟩ := Option.isSome_iff_exists.1 hs
    have hz := Hsz.out t rfl
    simp only [Option.getD_some] at hT ⊢
    obtain ⟨n, hn⟩ : ∃ n, t.args.length = n := ⟨_, rfl⟩
    obtain ⟨d, hd⟩ : ∃ d, t.base = d := ⟨_, rfl⟩
    rw [hn, hd] at hT ⊢
    have T_w4 := Lib.hid hT
    clear hT
    have lx := x2_w4.lt
    go_wp2_with fail
    obtain ⟨w5, hw5⟩ : ∃ w5, w4.alloc (.cells #[.slice sa n sc, .int .i64 d] 77) = w5 := ⟨_, rfl⟩
    have hbx : Below w4.heap.size w4 w5 := by rw [← hw5]; exact (Below.refl _ _).alloc (Nat.le_refl _) _
    try rw [hw5]
    clear hw5
    have hs5 := hbx.size
    have hs4 : w.heap.size + 3 ≤ w4.heap.size := lx
    have x2_w5 := x2_w4.below hbx
    have T_w5 := Lib.hid (T_w4.out.bel hbx)
    have B_w5 := B_w4.trans (hbx.mono B_w4.size)
    clear x2_w4 T_w4 B_w4 hbx
    refine (arrow_k T_w5.out (isSl_nil rpTy F _) (by simp [Ty.sizes]; omega)).mono ?_
    rintro e w6 ⟨s6, b6, rfl, hT, hbx0⟩
    have hbx : Below w5.heap.size w5 w6 := hbx0
    clear hbx0
    have x2_w6 := x2_w5.below hbx
    have T_w6 := Lib.hid (T_w5.out.bel hbx)
    have B_w6 := B_w5.trans (hbx.mono B_w5.size)
    clear x2_w5 T_w5 B_w5 hbx
    have ht : Ty.mk ([] ++ t.args) t.base = t := by cases t; rfl
    rw [ht] at hT
    clear ht
    obtain ⟨a6, c6, rfl, rfl⟩ := hT.shape
    rw [hn, hd] at hT ⊢
    have hs6 := B_w6.size
    have T6 := Lib.hid (hT.weaken (F' := fun q => w.heap.size + 3 ≤ q) fun q _ h => by omega)
    clear hT
    have cx20 : w6.cell? ⟨w.heap.size + 1 + 1, 0, none⟩ = some (.slice none 0 0) := x2_w6.cell rfl
    have cx21 : w6.cell? ⟨w.heap.size + 1 + 1, 1, none⟩ = some (.int .i64 0) := x2_w6.cell rfl
    have lx2 := x2_w6.lt
    have f0 := x2_w6.free 0
    have f1 := x2_w6.free 1
    go_wp2_with fail
    have z0_0 := ((x2_w6).set 0 (.slice a6 n c6)).cell (i := 0) (v := .slice a6 n c6) rfl
    have z0_1 := (((x2_w6).set 0 (.slice a6 n c6)).set 1 (.int .i64 d)).cell (i := 0) (v := .slice a6 n c6) rfl
    have z1_1 := (((x2_w6).set 0 (.slice a6 n c6)).set 1 (.int .i64 d)).cell (i := 1) (v := .int .i64 d) rfl
    refine bodyPost_ret (v := .tuple #[.agg #[.slice a6 n c6, .int .i64 d], .int .i64 0]) (by simp [results, Tryz.results56, go_sem, z0_0, z0_1, z1_1]) rfl ?_
    clear z0_0 z0_1 z1_1
    exact ⟨_, _, rfl, (T6.out.keep (((Keep.refl _ _).setCell _ _ (by simp)).setCell _ _ (by simp))).weaken fun q _ h => by omega, (B_w6.setCell (by simp; omega) _).setCell (by simp; omega) _⟩

end Go.Proofs.YtiblklcfjakjmaaGreat

namespace Go.Proofs.YtiblklcfjakjmaaGreat
open Go.RowKit

set_option maxRecDepth 100000 in
set_option maxHeartbeats 4000000 in
theorem headType_r {F : Nat → Prop} {w : World} {b : Int} {cv mv xv : Value} {C M X : List Ty} (hF : ∀ q, F q → q < w.heap.size) (hc : IsSl rpTy F w cv C) (hm : IsSl rpTy F w mv M) (hx : IsSl2 rpTy (fun _ => True) F w xv X) (k i : Int) :
    Calls Tryz.prog 58 #[.agg #[.int .i64 b, cv, mv], xv, .agg #[.int .i64 k, .int .i64 i]] w (HeadPost F (headTy C M X k i) w) := by
  obtain ⟨ca, cc, rfl⟩ := hc.shape
  obtain ⟨ma, mc, rfl⟩ := hm.shape
  obtain ⟨xa, xc, rfl⟩ := hx.shape
  have Hxl : Hid ((X.length : Int) ≤ 9223372036854775807) := by obtain ⟨_, _, _, _, _, _, h, _⟩ := hx; unfold maxLen at h; show _ ≤ _; omega
  have Hc := Lib.hid (sl_at (IsSl2.of hc)); have Hm := Lib.hid (sl_at (IsSl2.of hm)); have Hx := Lib.hid (sl_at hx)
  have hF := Lib.hid hF
  clear hc hm hx
  obtain ⟨o, ho⟩ : ∃ o, headTy C M X k i = o := ⟨_, rfl⟩
  have Ho := Lib.hid ho
  rw [ho]
  clear ho
  by_cases i0 : i < 0
  · skip
    go_enter Tryz.func58, Tryz.ntmps58
    go_wp2_with fail
    obtain ⟨w3, hw3⟩ : ∃ w3, ((w.alloc (.cells #[.int .i64 b, .slice ca C.length cc, .slice ma M.length mc] 24)).alloc (.cells #[.int .i64 k, .int .i64 i] 44)).alloc (.cells #[.slice none 0 0, .int .i64 0] 104) = w3 := ⟨_, rfl⟩
    have B_w3 : Below w.heap.size w w3 := by rw [← hw3]; exact (((Below.refl _ _).alloc (Nat.le_refl _) _).alloc (by simp) _).alloc (by simp; omega) _
    have x0_w3 : Blk w3 w.heap.size #[.int .i64 b, .slice ca C.length cc, .slice ma M.length mc] 24 := by rw [← hw3]; exact ((Blk.new _ _ _ rfl).alloc _).alloc _
    have x1_w3 : Blk w3 (w.heap.size + 1) #[.int .i64 k, .int .i64 i] 44 := by rw [← hw3]; exact (Blk.new _ _ _ (by simp)).alloc _
    have x2_w3 : Blk w3 (w.heap.size + 1 + 1) #[.slice none 0 0, .int .i64 0] 104 := by rw [← hw3]; exact Blk.new _ _ _ (by simp)
    rw [hw3]
    clear hw3
    have cx00 : w3.cell? ⟨w.heap.size, 0, none⟩ = some (.int .i64 b) := x0_w3.cell rfl
    have cx01 : w3.cell? ⟨w.heap.size, 1, none⟩ = some (.slice ca C.length cc) := x0_w3.cell rfl
    have cx02 : w3.cell? ⟨w.heap.size, 2, none⟩ = some (.slice ma M.length mc) := x0_w3.cell rfl
    have lx0 := x0_w3.lt
    have cx10 : w3.cell? ⟨w.heap.size + 1, 0, none⟩ = some (.int .i64 k) := x1_w3.cell rfl
    have cx11 : w3.cell? ⟨w.heap.size + 1, 1, none⟩ = some (.int .i64 i) := x1_w3.cell rfl
    have lx1 := x1_w3.lt
    have cx20 : w3.cell? ⟨w.heap.size + 1 + 1, 0, none⟩ = some (.slice none 0 0) := x2_w3.cell rfl
    have cx21 : w3.cell? ⟨w.heap.size + 1 + 1, 1, none⟩ = some (.int .i64 0) := x2_w3.cell rfl
    have lx2 := x2_w3.lt
    have f0 := x2_w3.free 0
    have f1 := x2_w3.free 1
    go_wp2_with fail
    first
    | (refine bodyPost_ret (v := .tuple #[.agg #[.slice none 0 0, .int .i64 0], .bool false]) (by simp [results, Tryz.results58, go_sem, cx20, cx21]) rfl ?_
       exact head_end0 B_w3 (by rw [← Ho.out, headTy_neg i0]))
    | (have z0 := (x2_w3.set 0 (.slice none 0 0)).cell (i := 0) (v := .slice none 0 0) rfl
       have z1 := ((x2_w3.set 0 (.slice none 0 0)).set 1 (.int .i64 0)).cell (i := 1) (v := .int .i64 0) rfl
       refine bodyPost_ret (v := .tuple #[.agg #[.slice none 0 0, .int .i64 0], .bool false]) (by simp [results, Tryz.results58, go_sem, z0, z1]) rfl ?_
       exact head_end hF.out (by omega) B_w3 (isTy_zero _ _) (by rw [← Ho.out, headTy_neg i0]; rfl) _ (by rw [← Ho.out, headTy_neg i0]; rfl))
  obtain ⟨j, rfl⟩ : ∃ j : Nat, i = (j : Int) := ⟨i.toNat, by omega⟩
  have i0' : decide ((j : Int) < 0) = false := by simp
  by_cases k1 : k = 1
  · subst k1
    by_cases i1 : j < C.length
    · skip
      go_enter Tryz.func58, Tryz.ntmps58
      go_wp2_with fail
      obtain ⟨w3, hw3⟩ : ∃ w3, ((w.alloc (.cells #[.int .i64 b, .slice ca C.length cc, .slice ma M.length mc] 24)).alloc (.cells #[.int .i64 1, .int .i64 (j : Int)] 44)).alloc (.cells #[.slice none 0 0, .int .i64 0] 104) = w3 := ⟨_, rfl⟩
      have B_w3 : Below w.heap.size w w3 := by rw [← hw3]; exact (((Below.refl _ _).alloc (Nat.le_refl _) _).alloc (by simp) _).alloc (by simp; omega) _
      have x0_w3 : Blk w3 w.heap.size #[.int .i64 b, .slice ca C.length cc, .slice ma M.length mc] 24 := by rw [← hw3]; exact ((Blk.new _ _ _ rfl).alloc _).alloc _
      have x1_w3 : Blk w3 (w.heap.size + 1) #[.int .i64 1, .int .i64 (j : Int)] 44 := by rw [← hw3]; exact (Blk.new _ _ _ (by simp)).alloc _
      have x2_w3 : Blk w3 (w.heap.size + 1 + 1) #[.slice none 0 0, .int .i64 0] 104 := by rw [← hw3]; exact Blk.new _ _ _ (by simp)
      rw [hw3]
      clear hw3
      have cx00 : w3.cell? ⟨w.heap.size, 0, none⟩ = some (.int .i64 b) := x0_w3.cell rfl
      have cx01 : w3.cell? ⟨w.heap.size, 1, none⟩ = some (.slice ca C.length cc) := x0_w3.cell rfl
      have cx02 : w3.cell? ⟨w.heap.size, 2, none⟩ = some (.slice ma M.length mc) := x0_w3.cell rfl
      have lx0 := x0_w3.lt
      have cx10 : w3.cell? ⟨w.heap.size + 1, 0, none⟩ = some (.int .i64 1) := x1_w3.cell rfl
      have cx11 : w3.cell? ⟨w.heap.size + 1, 1, none⟩ = some (.int .i64 (j : Int)) := x1_w3.cell rfl
      have lx1 := x1_w3.lt
      have cx20 : w3.cell? ⟨w.heap.size + 1 + 1, 0, none⟩ = some (.slice none 0 0) := x2_w3.cell rfl
      have cx21 : w3.cell? ⟨w.heap.size + 1 + 1, 1, none⟩ = some (.int .i64 0) := x2_w3.cell rfl
      have lx2 := x2_w3.lt
      have f0 := x2_w3.free 0
      have f1 := x2_w3.free 1
      obtain ⟨bl, off, A, N, Cc, Bb, rfl, _, e1, e2, hT⟩ := Hc.out j i1
      have e1 : w3.cell? ⟨bl, off + j * 2, none⟩ = some (.slice A N Cc) := ((Keep.refl (fun _ => True) _).below B_w3) _ _ _ trivial e1
      have e2 : w3.cell? ⟨bl, off + j * 2 + 1, none⟩ = some (.int .i64 Bb) := ((Keep.refl (fun _ => True) _).below B_w3) _ _ _ trivial e2
      have HT := Lib.hid hT; clear hT
      have l0 := Keep.lt e1
      go_wp2_with fail
      clear i0'
      go_simp
      have i4 : (0 : Int) ≤ (j : Int) := by omega
      go_wp2_with fail
      have z0_0 := ((x2_w3).set 0 (.slice A N Cc)).cell (i := 0) (v := .slice A N Cc) rfl
      have z0_1 := (((x2_w3).set 0 (.slice A N Cc)).set 1 (.int .i64 Bb)).cell (i := 0) (v := .slice A N Cc) rfl
      have z1_1 := (((x2_w3).set 0 (.slice A N Cc)).set 1 (.int .i64 Bb)).cell (i := 1) (v := .int .i64 Bb) rfl
      refine bodyPost_ret (v := .tuple #[.agg #[.slice A N Cc, .int .i64 Bb], .bool true]) (by simp [results, Tryz.results58, go_sem, z0_0, z0_1, z1_1]) rfl ?_
      clear z0_0 z0_1 z1_1
      exact head_end hF.out (by omega) B_w3 HT.out (by rw [← Ho.out, headTy_1, List.getElem?_eq_getElem i1]; rfl) _ (by rw [← Ho.out, headTy_1, List.getElem?_eq_getElem i1]; rfl)
    · skip
      go_enter Tryz.func58, Tryz.ntmps58
      go_wp2_with fail
      obtain ⟨w3, hw3⟩ : ∃ w3, ((w.alloc (.cells #[.int .i64 b, .slice ca C.length cc, .slice ma M.length mc] 24)).alloc (.cells #[.int .i64 1, .int .i64 (j : Int)] 44)).alloc (.cells #[.slice none 0 0, .int .i64 0] 104) = w3 := ⟨_, rfl⟩
      have B_w3 : Below w.heap.size w w3 := by rw [← hw3]; exact (((Below.refl _ _).alloc (Nat.le_refl _) _).alloc (by simp) _).alloc (by simp; omega) _
      have x0_w3 : Blk w3 w.heap.size #[.int .i64 b, .slice ca C.length cc, .slice ma M.length mc] 24 := by rw [← hw3]; exact ((Blk.new _ _ _ rfl).alloc _).alloc _
      have x1_w3 : Blk w3 (w.heap.size + 1) #[.int .i64 1, .int .i64 (j : Int)] 44 := by rw [← hw3]; exact (Blk.new _ _ _ (by simp)).alloc _
      have x2_w3 : Blk w3 (w.heap.size + 1 + 1) #[.slice none 0 0, .int .i64 0] 104 := by rw [← hw3]; exact Blk.new _ _ _ (by simp)
      rw [hw3]
      clear hw3
      have cx00 : w3.cell? ⟨w.heap.size, 0, none⟩ = some (.int .i64 b) := x0_w3.cell rfl
      have cx01 : w3.cell? ⟨w.heap.size, 1, none⟩ = some (.slice ca C.length cc) := x0_w3.cell rfl
      have cx02 : w3.cell? ⟨w.heap.size, 2, none⟩ = some (.slice ma M.length mc) := x0_w3.cell rfl
      have lx0 := x0_w3.lt
      have cx10 : w3.cell? ⟨w.heap.size + 1, 0, none⟩ = some (.int .i64 1) := x1_w3.cell rfl
      have cx11 : w3.cell? ⟨w.heap.size + 1, 1, none⟩ = some (.int .i64 (j : Int)) := x1_w3.cell rfl
      have lx1 := x1_w3.lt
      have cx20 : w3.cell? ⟨w.heap.size + 1 + 1, 0, none⟩ = some (.slice none 0 0) := x2_w3.cell rfl
      have cx21 : w3.cell? ⟨w.heap.size + 1 + 1, 1, none⟩ = some (.int .i64 0) := x2_w3.cell rfl
      have lx2 := x2_w3.lt
      have f0 := x2_w3.free 0
      have f1 := x2_w3.free 1
      go_wp2_with fail
      first
      | (refine bodyPost_ret (v := .tuple #[.agg #[.slice none 0 0, .int .i64 0], .bool false]) (by simp [results, Tryz.results58, go_sem, cx20, cx21]) rfl ?_
         exact head_end0 B_w3 (by rw [← Ho.out, headTy_1, List.getElem?_eq_none (by omega)]))
      | (have z0 := (x2_w3.set 0 (.slice none 0 0)).cell (i := 0) (v := .slice none 0 0) rfl
         have z1 := ((x2_w3.set 0 (.slice none 0 0)).set 1 (.int .i64 0)).cell (i := 1) (v := .int .i64 0) rfl
         refine bodyPost_ret (v := .tuple #[.agg #[.slice none 0 0, .int .i64 0], .bool false]) (by simp [results, Tryz.results58, go_sem, z0, z1]) rfl ?_
         exact head_end hF.out (by omega) B_w3 (isTy_zero _ _) (by rw [← Ho.out, headTy_1, List.getElem?_eq_none (by omega)]; rfl) _ (by rw [← Ho.out, headTy_1, List.getElem?_eq_none (by omega)]; rfl))
  by_cases k2 : k = 2
  · subst k2
    by_cases i1 : j < M.length
    · skip
      go_enter Tryz.func58, Tryz.ntmps58
      go_wp2_with fail
      obtain ⟨w3, hw3⟩ : ∃ w3, ((w.alloc (.cells #[.int .i64 b, .slice ca C.length cc, .slice ma M.length mc] 24)).alloc (.cells #[.int .i64 2, .int .i64 (j : Int)] 44)).alloc (.cells #[.slice none 0 0, .int .i64 0] 104) = w3 := ⟨_, rfl⟩
      have B_w3 : Below w.heap.size w w3 := by rw [← hw3]; exact (((Below.refl _ _).alloc (Nat.le_refl _) _).alloc (by simp) _).alloc (by simp; omega) _
      have x0_w3 : Blk w3 w.heap.size #[.int .i64 b, .slice ca C.length cc, .slice ma M.length mc] 24 := by rw [← hw3]; exact ((Blk.new _ _ _ rfl).alloc _).alloc _
      have x1_w3 : Blk w3 (w.heap.size + 1) #[.int .i64 2, .int .i64 (j : Int)] 44 := by rw [← hw3]; exact (Blk.new _ _ _ (by simp)).alloc _
      have x2_w3 : Blk w3 (w.heap.size + 1 + 1) #[.slice none 0 0, .int .i64 0] 104 := by rw [← hw3]; exact Blk.new _ _ _ (by simp)
      rw [hw3]
      clear hw3
      have cx00 : w3.cell? ⟨w.heap.size, 0, none⟩ = some (.int .i64 b) := x0_w3.cell rfl
      have cx01 : w3.cell? ⟨w.heap.size, 1, none⟩ = some (.slice ca C.length cc) := x0_w3.cell rfl
      have cx02 : w3.cell? ⟨w.heap.size, 2, none⟩ = some (.slice ma M.length mc) := x0_w3.cell rfl
      have lx0 := x0_w3.lt
      have cx10 : w3.cell? ⟨w.heap.size + 1, 0, none⟩ = some (.int .i64 2) := x1_w3.cell rfl
      have cx11 : w3.cell? ⟨w.heap.size + 1, 1, none⟩ = some (.int .i64 (j : Int)) := x1_w3.cell rfl
      have lx1 := x1_w3.lt
      have cx20 : w3.cell? ⟨w.heap.size + 1 + 1, 0, none⟩ = some (.slice none 0 0) := x2_w3.cell rfl
      have cx21 : w3.cell? ⟨w.heap.size + 1 + 1, 1, none⟩ = some (.int .i64 0) := x2_w3.cell rfl
      have lx2 := x2_w3.lt
      have f0 := x2_w3.free 0
      have f1 := x2_w3.free 1
      obtain ⟨bl, off, A, N, Cc, Bb, rfl, _, e1, e2, hT⟩ := Hm.out j i1
      have e1 : w3.cell? ⟨bl, off + j * 2, none⟩ = some (.slice A N Cc) := ((Keep.refl (fun _ => True) _).below B_w3) _ _ _ trivial e1
      have e2 : w3.cell? ⟨bl, off + j * 2 + 1, none⟩ = some (.int .i64 Bb) := ((Keep.refl (fun _ => True) _).below B_w3) _ _ _ trivial e2
      have HT := Lib.hid hT; clear hT
      have l0 := Keep.lt e1
      go_wp2_with fail
      clear i0'
      go_simp
      have i4 : (0 : Int) ≤ (j : Int) := by omega
      go_wp2_with fail
      have z0_0 := ((x2_w3).set 0 (.slice A N Cc)).cell (i := 0) (v := .slice A N Cc) rfl
      have z0_1 := (((x2_w3).set 0 (.slice A N Cc)).set 1 (.int .i64 Bb)).cell (i := 0) (v := .slice A N Cc) rfl
      have z1_1 := (((x2_w3).set 0 (.slice A N Cc)).set 1 (.int .i64 Bb)).cell (i := 1) (v := .int .i64 Bb) rfl
      refine bodyPost_ret (v := .tuple #[.agg #[.slice A N Cc, .int .i64 Bb], .bool true]) (by simp [results, Tryz.results58, go_sem, z0_0, z0_1, z1_1]) rfl ?_
      clear z0_0 z0_1 z1_1
      exact head_end hF.out (by omega) B_w3 HT.out (by rw [← Ho.out, headTy_2, List.getElem?_eq_getElem i1]; rfl) _ (by rw [← Ho.out, headTy_2, List.getElem?_eq_getElem i1]; rfl)
    · skip
      go_enter Tryz.func58, Tryz.ntmps58
      go_wp2_with fail
      obtain ⟨w3, hw3⟩ : ∃ w3, ((w.alloc (.cells #[.int .i64 b, .slice ca C.length cc, .slice ma M.length mc] 24)).alloc (.cells #[.int .i64 2, .int .i64 (j : Int)] 44)).alloc (.cells #[.slice none 0 0, .int .i64 0] 104) = w3 := ⟨_, rfl⟩
      have B_w3 : Below w.heap.size w w3 := by rw [← hw3]; exact (((Below.refl _ _).alloc (Nat.le_refl _) _).alloc (by simp) _).alloc (by simp; omega) _
      have x0_w3 : Blk w3 w.heap.size #[.int .i64 b, .slice ca C.length cc, .slice ma M.length mc] 24 := by rw [← hw3]; exact ((Blk.new _ _ _ rfl).alloc _).alloc _
      have x1_w3 : Blk w3 (w.heap.size + 1) #[.int .i64 2, .int .i64 (j : Int)] 44 := by rw [← hw3]; exact (Blk.new _ _ _ (by simp)).alloc _
      have x2_w3 : Blk w3 (w.heap.size + 1 + 1) #[.slice none 0 0, .int .i64 0] 104 := by rw [← hw3]; exact Blk.new _ _ _ (by simp)
      rw [hw3]
      clear hw3
      have cx00 : w3.cell? ⟨w.heap.size, 0, none⟩ = some (.int .i64 b) := x0_w3.cell rfl
      have cx01 : w3.cell? ⟨w.heap.size, 1, none⟩ = some (.slice ca C.length cc) := x0_w3.cell rfl
      have cx02 : w3.cell? ⟨w.heap.size, 2, none⟩ = some (.slice ma M.length mc) := x0_w3.cell rfl
      have lx0 := x0_w3.lt
      have cx10 : w3.cell? ⟨w.heap.size + 1, 0, none⟩ = some (.int .i64 2) := x1_w3.cell rfl
      have cx11 : w3.cell? ⟨w.heap.size + 1, 1, none⟩ = some (.int .i64 (j : Int)) := x1_w3.cell rfl
      have lx1 := x1_w3.lt
      have cx20 : w3.cell? ⟨w.heap.size + 1 + 1, 0, none⟩ = some (.slice none 0 0) := x2_w3.cell rfl
      have cx21 : w3.cell? ⟨w.heap.size + 1 + 1, 1, none⟩ = some (.int .i64 0) := x2_w3.cell rfl
      have lx2 := x2_w3.lt
      have f0 := x2_w3.free 0
      have f1 := x2_w3.free 1
      go_wp2_with fail
      first
      | (refine bodyPost_ret (v := .tuple #[.agg #[.slice none 0 0, .int .i64 0], .bool false]) (by simp [results, Tryz.results58, go_sem, cx20, cx21]) rfl ?_
         exact head_end0 B_w3 (by rw [← Ho.out, headTy_2, List.getElem?_eq_none (by omega)]))
      | (have z0 := (x2_w3.set 0 (.slice none 0 0)).cell (i := 0) (v := .slice none 0 0) rfl
         have z1 := ((x2_w3.set 0 (.slice none 0 0)).set 1 (.int .i64 0)).cell (i := 1) (v := .int .i64 0) rfl
         refine bodyPost_ret (v := .tuple #[.agg #[.slice none 0 0, .int .i64 0], .bool false]) (by simp [results, Tryz.results58, go_sem, z0, z1]) rfl ?_
         exact head_end hF.out (by omega) B_w3 (isTy_zero _ _) (by rw [← Ho.out, headTy_2, List.getElem?_eq_none (by omega)]; rfl) _ (by rw [← Ho.out, headTy_2, List.getElem?_eq_none (by omega)]; rfl))
  by_cases k0 : k = 0
  · subst k0
    by_cases i1 : j < X.length
    · skip
      obtain ⟨m, hm⟩ : ∃ m : Nat, X.length - 1 - j = m := ⟨_, rfl⟩
      have i2 : m < X.length := by omega
      have hq0 : IntKind.i64.wrap ((X.length : Int) - 1) = (X.length : Int) - 1 := IntWalk.i64_in _ (by have := Hxl.out; omega)
      have hq2 : IntKind.i64.wrap ((X.length : Int) - 1 - j) = (m : Int) := by rw [show (X.length : Int) - 1 - j = (m : Int) by omega]; exact IntWalk.i64_in _ (by have := Hxl.out; omega)
      have Hm2 := Lib.hid hm; have Hi1 := Lib.hid i1
      clear hm
      go_enter Tryz.func58, Tryz.ntmps58
      go_wp2_with fail
      obtain ⟨w3, hw3⟩ : ∃ w3, ((w.alloc (.cells #[.int .i64 b, .slice ca C.length cc, .slice ma M.length mc] 24)).alloc (.cells #[.int .i64 0, .int .i64 (j : Int)] 44)).alloc (.cells #[.slice none 0 0, .int .i64 0] 104) = w3 := ⟨_, rfl⟩
      have B_w3 : Below w.heap.size w w3 := by rw [← hw3]; exact (((Below.refl _ _).alloc (Nat.le_refl _) _).alloc (by simp) _).alloc (by simp; omega) _
      have x0_w3 : Blk w3 w.heap.size #[.int .i64 b, .slice ca C.length cc, .slice ma M.length mc] 24 := by rw [← hw3]; exact ((Blk.new _ _ _ rfl).alloc _).alloc _
      have x1_w3 : Blk w3 (w.heap.size + 1) #[.int .i64 0, .int .i64 (j : Int)] 44 := by rw [← hw3]; exact (Blk.new _ _ _ (by simp)).alloc _
      have x2_w3 : Blk w3 (w.heap.size + 1 + 1) #[.slice none 0 0, .int .i64 0] 104 := by rw [← hw3]; exact Blk.new _ _ _ (by simp)
      rw [hw3]
      clear hw3
      have cx00 : w3.cell? ⟨w.heap.size, 0, none⟩ = some (.int .i64 b) := x0_w3.cell rfl
      have cx01 : w3.cell? ⟨w.heap.size, 1, none⟩ = some (.slice ca C.length cc) := x0_w3.cell rfl
      have cx02 : w3.cell? ⟨w.heap.size, 2, none⟩ = some (.slice ma M.length mc) := x0_w3.cell rfl
      have lx0 := x0_w3.lt
      have cx10 : w3.cell? ⟨w.heap.size + 1, 0, none⟩ = some (.int .i64 0) := x1_w3.cell rfl
      have cx11 : w3.cell? ⟨w.heap.size + 1, 1, none⟩ = some (.int .i64 (j : Int)) := x1_w3.cell rfl
      have lx1 := x1_w3.lt
      have cx20 : w3.cell? ⟨w.heap.size + 1 + 1, 0, none⟩ = some (.slice none 0 0) := x2_w3.cell rfl
      have cx21 : w3.cell? ⟨w.heap.size + 1 + 1, 1, none⟩ = some (.int .i64 0) := x2_w3.cell rfl
      have lx2 := x2_w3.lt
      have f0 := x2_w3.free 0
      have f1 := x2_w3.free 1
      obtain ⟨bl, off, A, N, Cc, Bb, rfl, _, e1, e2, hT⟩ := Hx.out m i2
      have e1 : w3.cell? ⟨bl, off + m * 2, none⟩ = some (.slice A N Cc) := ((Keep.refl (fun _ => True) _).below B_w3) _ _ _ trivial e1
      have e2 : w3.cell? ⟨bl, off + m * 2 + 1, none⟩ = some (.int .i64 Bb) := ((Keep.refl (fun _ => True) _).below B_w3) _ _ _ trivial e2
      have HT := Lib.hid hT; clear hT
      have l0 := Keep.lt e1
      go_wp2_with fail
      clear hq0 hq2 i0'
      go_simp
      have i4 : (0 : Int) ≤ (m : Int) := by omega
      go_wp2_with fail
      have z0_0 := ((x2_w3).set 0 (.slice A N Cc)).cell (i := 0) (v := .slice A N Cc) rfl
      have z0_1 := (((x2_w3).set 0 (.slice A N Cc)).set 1 (.int .i64 Bb)).cell (i := 0) (v := .slice A N Cc) rfl
      have z1_1 := (((x2_w3).set 0 (.slice A N Cc)).set 1 (.int .i64 Bb)).cell (i := 1) (v := .int .i64 Bb) rfl
      refine bodyPost_ret (v := .tuple #[.agg #[.slice A N Cc, .int .i64 Bb], .bool true]) (by simp [results, Tryz.results58, go_sem, z0_0, z0_1, z1_1]) rfl ?_
      clear z0_0 z0_1 z1_1
      exact head_end hF.out (by omega) B_w3 HT.out (by rw [← Ho.out, headTy_0, List.getElem?_reverse Hi1.out, Hm2.out, List.getElem?_eq_getElem i2]; rfl) _ (by rw [← Ho.out, headTy_0, List.getElem?_reverse Hi1.out, Hm2.out, List.getElem?_eq_getElem i2]; rfl)
    · skip
      go_enter Tryz.func58, Tryz.ntmps58
      go_wp2_with fail
      obtain ⟨w3, hw3⟩ : ∃ w3, ((w.alloc (.cells #[.int .i64 b, .slice ca C.length cc, .slice ma M.length mc] 24)).alloc (.cells #[.int .i64 0, .int .i64 (j : Int)] 44)).alloc (.cells #[.slice none 0 0, .int .i64 0] 104) = w3 := ⟨_, rfl⟩
      have B_w3 : Below w.heap.size w w3 := by rw [← hw3]; exact (((Below.refl _ _).alloc (Nat.le_refl _) _).alloc (by simp) _).alloc (by simp; omega) _
      have x0_w3 : Blk w3 w.heap.size #[.int .i64 b, .slice ca C.length cc, .slice ma M.length mc] 24 := by rw [← hw3]; exact ((Blk.new _ _ _ rfl).alloc _).alloc _
      have x1_w3 : Blk w3 (w.heap.size + 1) #[.int .i64 0, .int .i64 (j : Int)] 44 := by rw [← hw3]; exact (Blk.new _ _ _ (by simp)).alloc _
      have x2_w3 : Blk w3 (w.heap.size + 1 + 1) #[.slice none 0 0, .int .i64 0] 104 := by rw [← hw3]; exact Blk.new _ _ _ (by simp)
      rw [hw3]
      clear hw3
      have cx00 : w3.cell? ⟨w.heap.size, 0, none⟩ = some (.int .i64 b) := x0_w3.cell rfl
      have cx01 : w3.cell? ⟨w.heap.size, 1, none⟩ = some (.slice ca C.length cc) := x0_w3.cell rfl
      have cx02 : w3.cell? ⟨w.heap.size, 2, none⟩ = some (.slice ma M.length mc) := x0_w3.cell rfl
      have lx0 := x0_w3.lt
      have cx10 : w3.cell? ⟨w.heap.size + 1, 0, none⟩ = some (.int .i64 0) := x1_w3.cell rfl
      have cx11 : w3.cell? ⟨w.heap.size + 1, 1, none⟩ = some (.int .i64 (j : Int)) := x1_w3.cell rfl
      have lx1 := x1_w3.lt
      have cx20 : w3.cell? ⟨w.heap.size + 1 + 1, 0, none⟩ = some (.slice none 0 0) := x2_w3.cell rfl
      have cx21 : w3.cell? ⟨w.heap.size + 1 + 1, 1, none⟩ = some (.int .i64 0) := x2_w3.cell rfl
      have lx2 := x2_w3.lt
      have f0 := x2_w3.free 0
      have f1 := x2_w3.free 1
      go_wp2_with fail
      first
      | (refine bodyPost_ret (v := .tuple #[.agg #[.slice none 0 0, .int .i64 0], .bool false]) (by simp [results, Tryz.results58, go_sem, cx20, cx21]) rfl ?_
         exact head_end0 B_w3 (by rw [← Ho.out, headTy_0, List.getElem?_eq_none (by simp; omega)]))
      | (have z0 := (x2_w3.set 0 (.slice none 0 0)).cell (i := 0) (v := .slice none 0 0) rfl
         have z1 := ((x2_w3.set 0 (.slice none 0 0)).set 1 (.int .i64 0)).cell (i := 1) (v := .int .i64 0) rfl
         refine bodyPost_ret (v := .tuple #[.agg #[.slice none 0 0, .int .i64 0], .bool false]) (by simp [results, Tryz.results58, go_sem, z0, z1]) rfl ?_
         exact head_end hF.out (by omega) B_w3 (isTy_zero _ _) (by rw [← Ho.out, headTy_0, List.getElem?_eq_none (by simp; omega)]; rfl) _ (by rw [← Ho.out, headTy_0, List.getElem?_eq_none (by simp; omega)]; rfl))
  have g0 : (k == 0) = false := by simpa using k0
  have g1 : (k == 1) = false := by simpa using k1
  have g2 : (k == 2) = false := by simpa using k2
  go_enter Tryz.func58, Tryz.ntmps58
  go_wp2_with fail
  obtain ⟨w3, hw3⟩ : ∃ w3, ((w.alloc (.cells #[.int .i64 b, .slice ca C.length cc, .slice ma M.length mc] 24)).alloc (.cells #[.int .i64 k, .int .i64 (j : Int)] 44)).alloc (.cells #[.slice none 0 0, .int .i64 0] 104) = w3 := ⟨_, rfl⟩
  have B_w3 : Below w.heap.size w w3 := by rw [← hw3]; exact (((Below.refl _ _).alloc (Nat.le_refl _) _).alloc (by simp) _).alloc (by simp; omega) _
  have x0_w3 : Blk w3 w.heap.size #[.int .i64 b, .slice ca C.length cc, .slice ma M.length mc] 24 := by rw [← hw3]; exact ((Blk.new _ _ _ rfl).alloc _).alloc _
  have x1_w3 : Blk w3 (w.heap.size + 1) #[.int .i64 k, .int .i64 (j : Int)] 44 := by rw [← hw3]; exact (Blk.new _ _ _ (by simp)).alloc _
  have x2_w3 : Blk w3 (w.heap.size + 1 + 1) #[.slice none 0 0, .int .i64 0] 104 := by rw [← hw3]; exact Blk.new _ _ _ (by simp)
  rw [hw3]
  clear hw3
  have cx00 : w3.cell? ⟨w.heap.size, 0, none⟩ = some (.int .i64 b) := x0_w3.cell rfl
  have cx01 : w3.cell? ⟨w.heap.size, 1, none⟩ = some (.slice ca C.length cc) := x0_w3.cell rfl
  have cx02 : w3.cell? ⟨w.heap.size, 2, none⟩ = some (.slice ma M.length mc) := x0_w3.cell rfl
  have lx0 := x0_w3.lt
  have cx10 : w3.cell? ⟨w.heap.size + 1, 0, none⟩ = some (.int .i64 k) := x1_w3.cell rfl
  have cx11 : w3.cell? ⟨w.heap.size + 1, 1, none⟩ = some (.int .i64 (j : Int)) := x1_w3.cell rfl
  have lx1 := x1_w3.lt
  have cx20 : w3.cell? ⟨w.heap.size + 1 + 1, 0, none⟩ = some (.slice none 0 0) := x2_w3.cell rfl
  have cx21 : w3.cell? ⟨w.heap.size + 1 + 1, 1, none⟩ = some (.int .i64 0) := x2_w3.cell rfl
  have lx2 := x2_w3.lt
  have f0 := x2_w3.free 0
  have f1 := x2_w3.free 1
  go_wp2_with fail
  first
  | (refine bodyPost_ret (v := .tuple #[.agg #[.slice none 0 0, .int .i64 0], .bool false]) (by simp [results, Tryz.results58, go_sem, cx20, cx21]) rfl ?_
     exact head_end0 B_w3 (by rw [← Ho.out, headTy_o k0 k1 k2]))
  | (have z0 := (x2_w3.set 0 (.slice none 0 0)).cell (i := 0) (v := .slice none 0 0) rfl
     have z1 := ((x2_w3.set 0 (.slice none 0 0)).set 1 (.int .i64 0)).cell (i := 1) (v := .int .i64 0) rfl
     refine bodyPost_ret (v := .tuple #[.agg #[.slice none 0 0, .int .i64 0], .bool false]) (by simp [results, Tryz.results58, go_sem, z0, z1]) rfl ?_
     exact head_end hF.out (by omega) B_w3 (isTy_zero _ _) (by rw [← Ho.out, headTy_o k0 k1 k2]; rfl) _ (by rw [← Ho.out, headTy_o k0 k1 k2]; rfl))
end Go.Proofs.YtiblklcfjakjmaaGreat

namespace Go.Proofs.YtiblklcfjakjmaaGreat
open Go.RowKit

end Go.Proofs.YtiblklcfjakjmaaGreat

namespace Go.Proofs.YtiblklcfjakjmaaGreat
open Go.RowKit

def sgn (x y : Int) : Int := if x < y then -1 else if y < x then 1 else 0
def orl (a b : Int) : Int := if a = 0 then b else a
@[simp] theorem orl_zero (b : Int) : orl 0 b = b := by simp [orl]
@[simp] theorem orl_zero_right (a : Int) : orl a 0 = a := by unfold orl; split <;> simp_all
namespace Ty
mutual
def cmp : Ty → Ty → Int
  | .mk l b, .mk l' b' => orl (orl (orl (sgn (Ty.sizes l + 1 : Nat) (Ty.sizes l' + 1 : Nat)) (sgn (l.length : Nat) (l'.length : Nat))) (cmps l l')) (sgn b b')
def cmps : List Ty → List Ty → Int
  | [], _ => 0
  | _ :: _, [] => 0
  | t :: l, u :: l' => orl (cmp t u) (cmps l l')
end
@[simp] theorem cmps_nil (l : List Ty) : cmps [] l = 0 := by rw [cmps]

end Ty
end Go.Proofs.YtiblklcfjakjmaaGreat

namespace Go.Proofs.YtiblklcfjakjmaaGreat
open Go.RowKit

namespace Tm
def cmpB (l l' : List Ty) : Int := orl (sgn (l.length : Nat) (l'.length : Nat)) (Ty.cmps l l')
mutual
def cmp : Tm → Tm → Int
  | .mk b k i a, .mk b' k' i' a' => orl (sgn (Tm.sizes a + 1 : Nat) (Tm.sizes a' + 1 : Nat)) (orl (cmpB b b') (orl (sgn k k') (orl (sgn i i') (orl (sgn (a.length : Nat) (a'.length : Nat)) (cmps a a')))))
def cmps : List Tm → List Tm → Int
  | [], _ => 0
  | _ :: _, [] => 0
  | t :: l, u :: l' => orl (cmp t u) (cmps l l')
end
@[simp] theorem cmps_nil (l : List Tm) : cmps [] l = 0 := by rw [cmps]
end Tm
end Go.Proofs.YtiblklcfjakjmaaGreat

namespace Go.Proofs.YtiblklcfjakjmaaGreat
open Go.RowKit

end Go.Proofs.YtiblklcfjakjmaaGreat

namespace Go.Proofs.YtiblklcfjakjmaaGreat
open Go.RowKit

namespace Ty
end Ty

end Go.Proofs.YtiblklcfjakjmaaGreat

namespace Go.Proofs.YtiblklcfjakjmaaGreat
open Go.RowKit

set_option maxRecDepth 100000 in
theorem size6_r : ∀ t : Tm, ∀ {F : Nat → Prop} {w0 : World} {b k i a : Value} (_ : IsTm F w0 b k i a t) (w : World), t.size ≤ 1000000 → Keep F w0 w → Calls Tryz.prog 129 #[.agg #[b, k, i, a]] w (RetI t.size w) := Tm.ind fun binds k0 i0 args ih => by
  intro F w0 b k i a ht w hsz hw
  obtain ⟨pa, pc, qa, qc, rfl, rfl, rfl, rfl⟩ := ht.shape
  simp only [Tm.binds, Tm.kind, Tm.index, Tm.args] at ht ⊢
  obtain ⟨_, _, _, hsl⟩ := ht.inv
  simp only [Tm.args] at hsl
  obtain ⟨_, hm, bl, off, PA, A, PN, PC, N', C, Kd, Ix, ha, h1, h2, h3, h4, h5⟩ := sl_cells6 hsl
  clear ht hsl hm
  have hlen : args.length ≤ 1000000 := by have := Tm.len_sizes args; rw [Tm.size_eq] at hsz; omega
  have Hsz : Hid (∀ i (h : i < args.length), args[i].size ≤ 1000000 ∧ Tm.sizes (args.take i) + args[i].size ≤ 1000000) := fun i h => by
    have := Tm.sizes_take args i h; have := Tm.sizes_take_le args (i + 1); rw [Tm.size_eq] at hsz; omega
  have Hend : Hid ((Tm.mk binds k0 i0 args).size = Tm.sizes args + 1) := Tm.size_eq _ _ _ _
  have Hih := Lib.hid ih; clear ih hsz
  go_enter Tryz.func129, Tryz.ntmps129
  go_wp2_with fail
  go_loopw [3, 4] (fun x i wr => ∃ k : Nat, i = .int .i64 k ∧ x = .int .i64 ((Tm.sizes (args.take k) : Int) + 1) ∧ k ≤ args.length ∧ Below w.heap.size w wr ∧ Blk wr w.heap.size #[.slice pa binds.length pc, .int .i64 k0, .int .i64 i0, .slice qa args.length qc] 47) (fun _ i _ => args.length - (intOf i).toNat)
  case atStart => exact ⟨0, rfl, rfl, by omega, (Below.refl _ _).alloc (Nat.le_refl _) _, Blk.new _ _ _ rfl⟩
  case round =>
    obtain ⟨k, rfl, rfl, hk, hb, hbox⟩ := hrel
    have c0 : wr.cell? ⟨w.heap.size, 3, none⟩ = some (.slice qa args.length qc) := hbox.cell rfl
    have hlt0 := hbox.lt
    by_cases hlt : k < args.length
    · obtain ⟨rfl, hF⟩ := ha (by omega)
      have e1 := (hw.below hb) _ _ _ hF (h1 k hlt)
      have e2 := (hw.below hb) _ _ _ hF (h2 k hlt)
      have e3 := (hw.below hb) _ _ _ hF (h3 k hlt)
      have e4 := (hw.below hb) _ _ _ hF (h4 k hlt)
      have hs : Tm.sizes (args.take k) ≤ 1000000 ∧ args[k].size ≤ 1000000 := by have := Hsz.out k hlt; omega
      go_wp2_with fail
      refine (Hih.out _ (List.getElem_mem hlt) (h5 k hlt) _ (Hsz.out k hlt).1 (hw.below hb)).mono ?_
      rintro e w1 ⟨rfl, hb1⟩
      go_wp2_with fail
      go_roundw
      case rel => exact ⟨k + 1, by go_num, by rw [Tm.sizes_take _ _ hlt]; go_num, by omega, hb.trans (hb1.mono (by omega)), hbox.below hb1⟩
      case measure => simp [intOf]; omega
    · go_wp2_with fail
      go_ret
      refine ⟨?_, hb⟩
      rw [Hend.out, List.take_of_length_le (by omega)]; rfl

end Go.Proofs.YtiblklcfjakjmaaGreat

namespace Go.Proofs.YtiblklcfjakjmaaGreat
open Go.RowKit

mutual
def IsOf (C M : List Ty) : Tm → List Ty → Ty → Prop
  | .mk b k i a, X, u => b = u.args ∧ ∃ h, headTy C M (X ++ b) k i = some h ∧ h.base = u.base ∧ IsOfs C M a (X ++ b) h.args
def IsOfs (C M : List Ty) : List Tm → List Ty → List Ty → Prop
  | [], _, [] => True
  | [], _, _ :: _ => False
  | _ :: _, _, [] => False
  | t :: l, X, u :: l' => IsOf C M t X u ∧ IsOfs C M l X l'
end
theorem isOf_mk {C M : List Ty} {b : List Ty} {k i : Int} {a : List Tm} {X : List Ty} {u : Ty} : IsOf C M (.mk b k i a) X u ↔ b = u.args ∧ ∃ h, headTy C M (X ++ b) k i = some h ∧ h.base = u.base ∧ IsOfs C M a (X ++ b) h.args := by rw [IsOf]
theorem isOfs_iff {C M : List Ty} {X : List Ty} : ∀ {l : List Tm} {l' : List Ty}, IsOfs C M l X l' ↔ l'.length = l.length ∧ ∀ i (h : i < l.length) (h' : i < l'.length), IsOf C M l[i] X l'[i]
  | [], [] => by simp [IsOfs]
  | [], _ :: _ => by simp [IsOfs]
  | _ :: _, [] => by simp [IsOfs]
  | t :: l, u :: l' => by
    rw [IsOfs, isOfs_iff]
    constructor
    · rintro ⟨h1, h2, h3⟩
      refine ⟨by simp [h2], fun i h h' => ?_⟩
      cases i with
      | zero => exact h1
      | succ i => exact h3 i (by simpa using h) (by simpa using h')
    · rintro ⟨h1, h2⟩
      exact ⟨h2 0 (by simp) (by simp), by simpa using h1, fun i h h' => h2 (i + 1) (by simpa using h) (by simpa using h')⟩
end Go.Proofs.YtiblklcfjakjmaaGreat

namespace Go.Proofs.YtiblklcfjakjmaaGreat
open Go.RowKit

set_option maxRecDepth 100000 in
set_option maxHeartbeats 8000000 in
theorem is_k {F : Nat → Prop} {b : Int} {C M : List Ty} : ∀ (t : Tm) (w : World) (cv mv xv tb tk ti ta s ub : Value) (X : List Ty) (u : Ty), (∀ q, F q → q < w.heap.size) → IsSl rpTy F w cv C → IsSl rpTy F w mv M → IsSl2 rpTy (fun _ => True) F w xv X → IsTm F w tb tk ti ta t → IsTy F w s ub u →
    X.length + t.full ≤ 90000 → t.Fit →
    Calls Tryz.prog 83 #[.agg #[.int .i64 b, cv, mv], xv, .agg #[tb, tk, ti, ta], .agg #[s, ub]] w (RetB (IsOf C M t X u) w) := Tm.ind fun binds k i args ih => by
  intro w cv mv xv tb tk ti ta s ub X u hF hc hm hx ht hu hz hfit
  obtain ⟨ca, cc, rfl⟩ := hc.shape
  obtain ⟨ma, mc, rfl⟩ := hm.shape
  obtain ⟨xa, xc, rfl⟩ := hx.shape
  obtain ⟨rfl, rfl, hbi, hsa⟩ := ht.inv
  obtain ⟨rfl, hus⟩ := hu.inv
  simp only [Tm.binds, Tm.kind, Tm.index, Tm.args] at hbi hsa ⊢
  obtain ⟨pa, pc, rfl⟩ := hbi.shape
  obtain ⟨qa, qc, rfl⟩ := hsa.shape
  obtain ⟨ua, uc, rfl⟩ := hus.shape
  obtain ⟨_, hma, bl, off, PA, A, PN, PC, N, Cc, Kd, Ix, ha, h1, h2, h3, h4, h5⟩ := sl_cells6 hsa
  unfold maxLen at hma
  have hi : i ≤ 9223372036854775807 := (Tm.fit_iff.1 hfit).2.1
  have Hfit : Hid (∀ t ∈ args, Tm.Fit t) := (Tm.fit_iff.1 hfit).2.2
  obtain ⟨Y, hY⟩ : ∃ Y, X ++ binds = Y := ⟨_, rfl⟩
  have hYl : Y.length = X.length + binds.length := by rw [← hY]; simp
  have hbl : binds.length ≤ Ty.sizes binds := Ty.le_sizes binds
  have Hz : Hid (∀ t ∈ args, Y.length + t.full ≤ 90000) := fun t ht => by have := Tm.full_mem ht; rw [Tm.full_eq] at hz; omega
  have hla : X.length + binds.length ≤ 100000 := by rw [Tm.full_eq] at hz; omega
  have H0 := Lib.hid hF; have Hc := Lib.hid hc; have Hm := Lib.hid hm
  have Heq := Lib.hid fun (w' : World) (hb : Below w.heap.size w w') => equalFunc_k hbi hus (fun t _ => equal_k t) w' ((Keep.refl _ _).below hb) ((Keep.refl _ _).below hb)
  have Hwi := Lib.hid fun (w' : World) (hb : Below w.heap.size w w') => within_k (hx.bel hb) (IsSl2.of (hbi.bel hb)) hla
  have Hhd := Lib.hid fun (w' : World) (yv : Value) (hb : Below w.heap.size w w') (hy : IsSl2 rpTy (fun _ => True) F w' yv Y) => headType_k (b := b) (fun q hq => Nat.lt_of_lt_of_le (hF q hq) hb.size) (hc.bel hb) (hm.bel hb) hy k i hi
  have H5 := Lib.hid h5; have Hih := Lib.hid ih
  have Hh : Hid (∀ o, headTy C M Y k i = o → (IsOf C M (.mk binds k i args) X u ↔ binds = u.args ∧ ∃ h, o = some h ∧ h.base = u.base ∧ IsOfs C M args Y h.args)) := fun o ho => by rw [isOf_mk, hY, ho]
  rw [hY] at Hwi
  obtain ⟨P, hP⟩ : ∃ P, IsOf C M (.mk binds k i args) X u = P := ⟨_, rfl⟩
  rw [hP] at Hh ⊢
  obtain ⟨o, ho⟩ : ∃ o, headTy C M Y k i = o := ⟨_, rfl⟩
  have HP := Lib.hid (Hh.out o ho)
  rw [ho] at Hhd
  obtain ⟨ul, hul⟩ : ∃ ul, u.args = ul := ⟨_, rfl⟩
  obtain ⟨ud, hud⟩ : ∃ ud, u.base = ud := ⟨_, rfl⟩
  rw [hul] at Heq HP hus ⊢
  rw [hud] at HP ⊢
  clear hP ho hul hud Hh hY hF hc hm hx ht hu hz hfit hbi hsa hus h5 ih hla hYl hbl
  go_enter Tryz.func83, Tryz.ntmps83
  go_wp2_with fail
  obtain ⟨w3, hw3⟩ : ∃ w3, ((w.alloc (.cells #[.int .i64 b, .slice ca C.length cc, .slice ma M.length mc] 36)).alloc (.cells #[.slice pa binds.length pc, .int .i64 k, .int .i64 i, .slice qa args.length qc] 52)).alloc (.cells #[.slice ua ul.length uc, .int .i64 ud] 77) = w3 := ⟨_, rfl⟩
  have B_w3 : Below w.heap.size w w3 := by rw [← hw3]; exact (((Below.refl _ _).alloc (Nat.le_refl _) _).alloc (by simp) _).alloc (by simp; omega) _
  have x0_w3 : Blk w3 w.heap.size #[.int .i64 b, .slice ca C.length cc, .slice ma M.length mc] 36 := by rw [← hw3]; exact ((Blk.new _ _ _ rfl).alloc _).alloc _
  have x1_w3 : Blk w3 (w.heap.size + 1) #[.slice pa binds.length pc, .int .i64 k, .int .i64 i, .slice qa args.length qc] 52 := by rw [← hw3]; exact (Blk.new _ _ _ (by simp)).alloc _
  have x2_w3 : Blk w3 (w.heap.size + 1 + 1) #[.slice ua ul.length uc, .int .i64 ud] 77 := by rw [← hw3]; exact Blk.new _ _ _ (by simp)
  rw [hw3]
  clear hw3
  refine (Heq.out w3 B_w3).mono ?_
  intro e w4 h
  obtain ⟨r, Hr, rfl, hbx0⟩ := of_retB' h
  clear h
  have hbx : Below w3.heap.size w3 w4 := hbx0
  clear hbx0
  have x0_w4 := x0_w3.below hbx
  have x1_w4 := x1_w3.below hbx
  have x2_w4 := x2_w3.below hbx
  have B_w4 := B_w3.trans (hbx.mono B_w3.size)
  clear x0_w3 x1_w3 x2_w3 B_w3 hbx
  cases r
  · have hn : ¬ P := fun hp => no_of Hr ((HP.out.1 hp).1)
    go_wp2_with fail
    go_ret
    exact ⟨false, by simp [hn], rfl, B_w4⟩
  have hbu := yes_of Hr
  subst hbu
  clear Hr
  have cx00 : w4.cell? ⟨w.heap.size, 0, none⟩ = some (.int .i64 b) := x0_w4.cell rfl
  have cx01 : w4.cell? ⟨w.heap.size, 1, none⟩ = some (.slice ca C.length cc) := x0_w4.cell rfl
  have cx02 : w4.cell? ⟨w.heap.size, 2, none⟩ = some (.slice ma M.length mc) := x0_w4.cell rfl
  have lx0 := x0_w4.lt
  have cx10 : w4.cell? ⟨w.heap.size + 1, 0, none⟩ = some (.slice pa binds.length pc) := x1_w4.cell rfl
  have cx11 : w4.cell? ⟨w.heap.size + 1, 1, none⟩ = some (.int .i64 k) := x1_w4.cell rfl
  have cx12 : w4.cell? ⟨w.heap.size + 1, 2, none⟩ = some (.int .i64 i) := x1_w4.cell rfl
  have cx13 : w4.cell? ⟨w.heap.size + 1, 3, none⟩ = some (.slice qa args.length qc) := x1_w4.cell rfl
  have lx1 := x1_w4.lt
  have cx20 : w4.cell? ⟨w.heap.size + 1 + 1, 0, none⟩ = some (.slice ua binds.length uc) := x2_w4.cell rfl
  have cx21 : w4.cell? ⟨w.heap.size + 1 + 1, 1, none⟩ = some (.int .i64 ud) := x2_w4.cell rfl
  have lx2 := x2_w4.lt
  go_wp2_with fail
  refine (Hwi.out w4 B_w4).mono ?_
  rintro e w5 ⟨ya, yc, rfl, hT, hbx0⟩
  have hbx : Below w4.heap.size w4 w5 := hbx0
  clear hbx0
  clear cx00 cx01 cx02 lx0 cx10 cx11 cx12 cx13 lx1 cx20 cx21 lx2
  have x0_w5 := x0_w4.below hbx
  have x1_w5 := x1_w4.below hbx
  have x2_w5 := x2_w4.below hbx
  have B_w5 := B_w4.trans (hbx.mono B_w4.size)
  clear x0_w4 x1_w4 x2_w4 B_w4 hbx
  have T_w5 := Lib.hid (hT.anyRow (by decide))
  clear hT
  have cx00 : w5.cell? ⟨w.heap.size, 0, none⟩ = some (.int .i64 b) := x0_w5.cell rfl
  have cx01 : w5.cell? ⟨w.heap.size, 1, none⟩ = some (.slice ca C.length cc) := x0_w5.cell rfl
  have cx02 : w5.cell? ⟨w.heap.size, 2, none⟩ = some (.slice ma M.length mc) := x0_w5.cell rfl
  have lx0 := x0_w5.lt
  have cx10 : w5.cell? ⟨w.heap.size + 1, 0, none⟩ = some (.slice pa binds.length pc) := x1_w5.cell rfl
  have cx11 : w5.cell? ⟨w.heap.size + 1, 1, none⟩ = some (.int .i64 k) := x1_w5.cell rfl
  have cx12 : w5.cell? ⟨w.heap.size + 1, 2, none⟩ = some (.int .i64 i) := x1_w5.cell rfl
  have cx13 : w5.cell? ⟨w.heap.size + 1, 3, none⟩ = some (.slice qa args.length qc) := x1_w5.cell rfl
  have lx1 := x1_w5.lt
  have cx20 : w5.cell? ⟨w.heap.size + 1 + 1, 0, none⟩ = some (.slice ua binds.length uc) := x2_w5.cell rfl
  have cx21 : w5.cell? ⟨w.heap.size + 1 + 1, 1, none⟩ = some (.int .i64 ud) := x2_w5.cell rfl
  have lx2 := x2_w5.lt
  go_wp2_with fail
  refine (Hhd.out w5 _ B_w5 T_w5.out).mono ?_
  rintro e w6 ⟨s6, b6, rfl, hT, hbx0⟩
  have hbx : Below w5.heap.size w5 w6 := hbx0
  clear hbx0
  clear cx00 cx01 cx02 lx0 cx10 cx11 cx12 cx13 lx1 cx20 cx21 lx2
  have x0_w6 := x0_w5.below hbx
  have x1_w6 := x1_w5.below hbx
  have x2_w6 := x2_w5.below hbx
  have T_w6 := Lib.hid (T_w5.out.bel hbx)
  have B_w6 := B_w5.trans (hbx.mono B_w5.size)
  clear x0_w5 x1_w5 x2_w5 T_w5 B_w5 hbx
  obtain ⟨h0, hh0⟩ : ∃ h0, o.getD tyZ = h0 := ⟨_, rfl⟩
  have Hh0 := Lib.hid hh0
  rw [hh0] at hT
  clear hh0
  obtain ⟨ha6, hc6, rfl, rfl⟩ := hT.shape
  have hat := sl_at (IsSl2.of hT.inv.2)
  obtain ⟨n0, hn0⟩ : ∃ n0, h0.args.length = n0 := ⟨_, rfl⟩
  obtain ⟨d0, hd0⟩ : ∃ d0, h0.base = d0 := ⟨_, rfl⟩
  rw [hn0] at hT ⊢
  rw [hd0] at hT ⊢
  have Hn0 := Lib.hid hn0; have Hd0 := Lib.hid hd0
  have Hat := Lib.hid hat
  clear hT hn0 hd0 hat
  cases hs : o.isSome
  · have hn : ¬ P := fun hp => by
      obtain ⟨_, h, e, _⟩ := HP.out.1 hp
      rw [e] at hs; cases hs
    have cx00 : w6.cell? ⟨w.heap.size, 0, none⟩ = some (.int .i64 b) := x0_w6.cell rfl
    have cx01 : w6.cell? ⟨w.heap.size, 1, none⟩ = some (.slice ca C.length cc) := x0_w6.cell rfl
    have cx02 : w6.cell? ⟨w.heap.size, 2, none⟩ = some (.slice ma M.length mc) := x0_w6.cell rfl
    have lx0 := x0_w6.lt
    have cx10 : w6.cell? ⟨w.heap.size + 1, 0, none⟩ = some (.slice pa binds.length pc) := x1_w6.cell rfl
    have cx11 : w6.cell? ⟨w.heap.size + 1, 1, none⟩ = some (.int .i64 k) := x1_w6.cell rfl
    have cx12 : w6.cell? ⟨w.heap.size + 1, 2, none⟩ = some (.int .i64 i) := x1_w6.cell rfl
    have cx13 : w6.cell? ⟨w.heap.size + 1, 3, none⟩ = some (.slice qa args.length qc) := x1_w6.cell rfl
    have lx1 := x1_w6.lt
    have cx20 : w6.cell? ⟨w.heap.size + 1 + 1, 0, none⟩ = some (.slice ua binds.length uc) := x2_w6.cell rfl
    have cx21 : w6.cell? ⟨w.heap.size + 1 + 1, 1, none⟩ = some (.int .i64 ud) := x2_w6.cell rfl
    have lx2 := x2_w6.lt
    go_wp2_with fail
    go_ret
    exact ⟨false, by simp [hn], rfl, by first | exact B_w6.alloc B_w6.size _ | exact B_w6⟩
  obtain ⟨h0', rfl⟩ := Option.isSome_iff_exists.1 hs
  obtain rfl : h0' = h0 := Hh0.out
  have HP2 : Hid (P ↔ d0 = ud ∧ IsOfs C M args Y h0'.args) := by
    show P ↔ _
    rw [HP.out, ← Hd0.out]
    simp
  clear HP hs Hh0
  have cx00 : w6.cell? ⟨w.heap.size, 0, none⟩ = some (.int .i64 b) := x0_w6.cell rfl
  have cx01 : w6.cell? ⟨w.heap.size, 1, none⟩ = some (.slice ca C.length cc) := x0_w6.cell rfl
  have cx02 : w6.cell? ⟨w.heap.size, 2, none⟩ = some (.slice ma M.length mc) := x0_w6.cell rfl
  have lx0 := x0_w6.lt
  have cx10 : w6.cell? ⟨w.heap.size + 1, 0, none⟩ = some (.slice pa binds.length pc) := x1_w6.cell rfl
  have cx11 : w6.cell? ⟨w.heap.size + 1, 1, none⟩ = some (.int .i64 k) := x1_w6.cell rfl
  have cx12 : w6.cell? ⟨w.heap.size + 1, 2, none⟩ = some (.int .i64 i) := x1_w6.cell rfl
  have cx13 : w6.cell? ⟨w.heap.size + 1, 3, none⟩ = some (.slice qa args.length qc) := x1_w6.cell rfl
  have lx1 := x1_w6.lt
  have cx20 : w6.cell? ⟨w.heap.size + 1 + 1, 0, none⟩ = some (.slice ua binds.length uc) := x2_w6.cell rfl
  have cx21 : w6.cell? ⟨w.heap.size + 1 + 1, 1, none⟩ = some (.int .i64 ud) := x2_w6.cell rfl
  have lx2 := x2_w6.lt
  by_cases hd : d0 = ud
  rotate_left
  · have hn : ¬ P := fun hp => hd (HP2.out.1 hp).1
    have g1 : (d0 == ud) = false := by simpa using hd
    have g2 : (d0 != ud) = true := by simpa using hd
    go_wp2_with fail
    go_ret
    exact ⟨false, by simp [hn], rfl, by first | exact B_w6.alloc B_w6.size _ | exact B_w6⟩
  subst hd
  by_cases hn : (n0 : Int) = (args.length : Int)
  rotate_left
  · have hnn : ¬ P := fun hp => by
      have h := (isOfs_iff.1 (HP2.out.1 hp).2).1
      have := Hn0.out
      omega
    have g1 : ((n0 : Int) == (args.length : Int)) = false := by simpa using hn
    have g2 : ((n0 : Int) != (args.length : Int)) = true := by simpa using hn
    go_wp2_with fail
    go_ret
    exact ⟨false, by simp [hnn], rfl, by first | exact B_w6.alloc B_w6.size _ | exact B_w6⟩
  have hnn : n0 = args.length := by omega
  subst hnn
  clear hn
  have HP3 : Hid (P ↔ ∀ j (h : j < args.length) (h' : j < h0'.args.length), IsOf C M args[j] Y h0'.args[j]) := by
    show P ↔ _
    rw [HP2.out, isOfs_iff]
    simp [Hn0.out]
  clear HP2
  go_wp2_with fail
  obtain ⟨w7, hw7⟩ : ∃ w7, w6.alloc (.cells #[.slice ha6 args.length hc6, .int .i64 d0] 77) = w7 := ⟨_, rfl⟩
  have hbx : Below w6.heap.size w6 w7 := by rw [← hw7]; exact (Below.refl _ _).alloc (Nat.le_refl _) _
  obtain ⟨p, hp⟩ : ∃ p, w6.heap.size = p := ⟨_, rfl⟩
  have xh_w7 : Blk w7 p #[.slice ha6 args.length hc6, .int .i64 d0] 77 := by rw [← hw7]; exact Blk.new _ _ _ hp.symm
  try rw [hw7]
  try rw [hp]
  clear cx00 cx01 cx02 cx10 cx11 cx12 cx13 cx20 cx21 lx0 lx1 lx2 hw7
  have Hbx := Lib.hid hbx
  have x0_w7 := x0_w6.below hbx
  have x1_w7 := x1_w6.below hbx
  have x2_w7 := x2_w6.below hbx
  have T_w7 := Lib.hid (T_w6.out.bel hbx)
  have B_w7 := B_w6.trans (hbx.mono B_w6.size)
  clear x0_w6 x1_w6 x2_w6 T_w6 B_w6 hbx
  clear hp
  have H0' := Lib.hid fun q hq => Nat.lt_of_lt_of_le (H0.out q hq) B_w7.size
  have Bw7 := Lib.hid B_w7
  clear B_w7
  go_loopw [12, 13, 53] (fun _ _ c wr => ∃ j : Nat, c = .int .i64 j ∧ j ≤ args.length ∧ Hid (∀ m (h : m < args.length) (h' : m < h0'.args.length), m < j → IsOf C M args[m] Y h0'.args[m]) ∧ Below w7.heap.size w7 wr) (fun _ _ c _ => args.length - (intOf c).toNat)
  case atStart => exact ⟨0, rfl, by omega, fun m _ _ h => absurd h (by omega), Below.refl _ _⟩
  case round =>
    obtain ⟨j, rfl, hj, hrel, hbr⟩ := hrel
    have Hbr := Lib.hid hbr
    have B_wr := Bw7.out.trans (hbr.mono Bw7.out.size)
    have x0_wr := x0_w7.below hbr; have x1_wr := x1_w7.below hbr; have x2_wr := x2_w7.below hbr; have xh_wr := xh_w7.below hbr
    have T_wr := Lib.hid (T_w7.out.bel hbr)
    clear x0_w7 x1_w7 x2_w7 xh_w7 T_w7 hbr
    by_cases hlt : j < args.length
    · obtain ⟨rfl, hF⟩ := ha (by omega)
      have i1 : (j : Int) < (args.length : Int) := by omega
      have hj' : j < h0'.args.length := by have := Hn0.out; omega
      obtain ⟨bl', off', A', N', C', B', rfl, hF', e5, e6, hU⟩ := Hat.out j hj'
      have Kp : Keep F w wr := (Keep.refl _ _).below B_wr
      have e1 := Kp _ _ _ hF (h1 j hlt)
      have e2 := Kp _ _ _ hF (h2 j hlt)
      have e3 := Kp _ _ _ hF (h3 j hlt)
      have e4 := Kp _ _ _ hF (h4 j hlt)
      have B6r : Below w6.heap.size w6 wr := Hbx.out.trans (Hbr.out.mono Hbx.out.size)
      have e5wr := ((Keep.refl (fun _ => True) _).below B6r) _ _ _ trivial e5
      have e6wr := ((Keep.refl (fun _ => True) _).below B6r) _ _ _ trivial e6
      have U_wr := Lib.hid (hU.bel B6r)
      have V_wr := Lib.hid ((H5.out j hlt).bel B_wr)
      clear e5 e6 hU B6r Kp
      go_wp2_with fail
      clear e1 e2 e3 e4
      obtain ⟨v1, hv1⟩ : ∃ v1, wr.alloc (.cells #[.slice (PA j) (PN j) (PC j), .int .i64 (Kd j), .int .i64 (Ix j), .slice (A j) (N j) (Cc j)] 52) = v1 := ⟨_, rfl⟩
      have hbx : Below wr.heap.size wr v1 := by rw [← hv1]; exact (Below.refl _ _).alloc (Nat.le_refl _) _
      obtain ⟨q, hq⟩ : ∃ q, wr.heap.size = q := ⟨_, rfl⟩
      have xa_v1 : Blk v1 q #[.slice (PA j) (PN j) (PC j), .int .i64 (Kd j), .int .i64 (Ix j), .slice (A j) (N j) (Cc j)] 52 := by rw [← hv1]; exact Blk.new _ _ _ hq.symm
      try rw [hv1]
      try rw [hq]
      have e5v1 := ((Keep.refl (fun _ => True) _).below hbx) _ _ _ trivial e5wr
      have e6v1 := ((Keep.refl (fun _ => True) _).below hbx) _ _ _ trivial e6wr
      clear e5wr e6wr hv1
      have B7v : Below w7.heap.size w7 v1 := Hbr.out.trans (hbx.mono Hbr.out.size)
      have x0_v1 := x0_wr.below hbx
      have xh_v1 := xh_wr.below hbx
      have T_v1 := Lib.hid (T_wr.out.bel hbx)
      have U_v1 := Lib.hid (U_wr.out.bel hbx)
      have V_v1 := Lib.hid (V_wr.out.bel hbx)
      have B_v1 := B_wr.trans (hbx.mono B_wr.size)
      clear x0_wr xh_wr T_wr U_wr V_wr B_wr hbx
      clear hq
      refine wp_region_noPanic (wp_region_need (S := fun w' => w'.cell? ⟨w.heap.size, 0, none⟩ = some (.int .i64 b) ∧ w'.cell? ⟨w.heap.size, 1, none⟩ = some (.slice ca C.length cc) ∧ w'.cell? ⟨w.heap.size, 2, none⟩ = some (.slice ma M.length mc) ∧ w'.cell? ⟨p, 0, none⟩ = some (.slice (some ⟨bl', off', none⟩) args.length hc6) ∧ w'.cell? ⟨p, 1, none⟩ = some (.int .i64 d0) ∧ w'.cell? ⟨q, 0, none⟩ = some (.slice (PA j) (PN j) (PC j)) ∧ w'.cell? ⟨q, 1, none⟩ = some (.int .i64 (Kd j)) ∧ w'.cell? ⟨q, 2, none⟩ = some (.int .i64 (Ix j)) ∧ w'.cell? ⟨q, 3, none⟩ = some (.slice (A j) (N j) (Cc j)) ∧ w'.cell? ⟨bl', off' + j * 2, none⟩ = some (.slice A' N' C') ∧ w'.cell? ⟨bl', off' + j * 2 + 1, none⟩ = some (.int .i64 B')) (by kernel_rfl) ?_)
      have hS : (v1.drew).cell? ⟨w.heap.size, 0, none⟩ = some (.int .i64 b) ∧ (v1.drew).cell? ⟨w.heap.size, 1, none⟩ = some (.slice ca C.length cc) ∧ (v1.drew).cell? ⟨w.heap.size, 2, none⟩ = some (.slice ma M.length mc) ∧ (v1.drew).cell? ⟨p, 0, none⟩ = some (.slice (some ⟨bl', off', none⟩) args.length hc6) ∧ (v1.drew).cell? ⟨p, 1, none⟩ = some (.int .i64 d0) ∧ (v1.drew).cell? ⟨q, 0, none⟩ = some (.slice (PA j) (PN j) (PC j)) ∧ (v1.drew).cell? ⟨q, 1, none⟩ = some (.int .i64 (Kd j)) ∧ (v1.drew).cell? ⟨q, 2, none⟩ = some (.int .i64 (Ix j)) ∧ (v1.drew).cell? ⟨q, 3, none⟩ = some (.slice (A j) (N j) (Cc j)) ∧ (v1.drew).cell? ⟨bl', off' + j * 2, none⟩ = some (.slice A' N' C') ∧ (v1.drew).cell? ⟨bl', off' + j * 2 + 1, none⟩ = some (.int .i64 B') := ⟨x0_v1.drew.cell rfl, x0_v1.drew.cell rfl, x0_v1.drew.cell rfl, xh_v1.drew.cell rfl, xh_v1.drew.cell rfl, xa_v1.drew.cell rfl, xa_v1.drew.cell rfl, xa_v1.drew.cell rfl, xa_v1.drew.cell rfl, e5v1, e6v1⟩
      refine wpN_take (i := 0) (v := ?v1) rfl (by kernel_rfl) (fun _ _ _ h => h) hS (Or.inl ⟨by rfl, ?hy1⟩) ?hr1
      case hy1 => (intro wS hSw; (try dsimp only at hSw); go_simp; (try with_reducible rfl))
      try simp only [Act.put, List.setIfInBounds_toArray, List.set_cons_zero, List.set_cons_succ, List.getElem_toArray, List.getElem_cons_zero, List.getElem_cons_succ]
      refine wpN_take (i := 1) (v := ?v2) rfl (by kernel_rfl) (fun _ _ _ h => h) hS (Or.inl ⟨by rfl, ?hy2⟩) ?hr2
      case hy2 => (intro wS hSw; (try dsimp only at hSw); go_simp; (try with_reducible rfl))
      try simp only [Act.put, List.setIfInBounds_toArray, List.set_cons_zero, List.set_cons_succ, List.getElem_toArray, List.getElem_cons_zero, List.getElem_cons_succ]
      refine wpN_take (i := 2) (v := ?v3) rfl (by kernel_rfl) (fun _ _ _ h => h) hS (Or.inl ⟨by rfl, ?hy3⟩) ?hr3
      case hy3 => (intro wS hSw; (try dsimp only at hSw); go_simp; (try with_reducible rfl))
      try simp only [Act.put, List.setIfInBounds_toArray, List.set_cons_zero, List.set_cons_succ, List.getElem_toArray, List.getElem_cons_zero, List.getElem_cons_succ]
      refine wpN_take (i := 3) (v := ?v4) rfl (by kernel_rfl) (fun _ _ _ h => h) hS (Or.inl ⟨by rfl, ?hy4⟩) ?hr4
      case hy4 => (intro wS hSw; (try dsimp only at hSw); go_simp; (try with_reducible rfl))
      try simp only [Act.put, List.setIfInBounds_toArray, List.set_cons_zero, List.set_cons_succ, List.getElem_toArray, List.getElem_cons_zero, List.getElem_cons_succ]
      refine wpN_take (i := 4) (v := ?v5) rfl (by kernel_rfl) (fun _ _ _ h => h) hS (Or.inl ⟨by rfl, ?hy5⟩) ?hr5
      case hy5 => (intro wS hSw; (try dsimp only at hSw); go_simp; (try with_reducible rfl))
      try simp only [Act.put, List.setIfInBounds_toArray, List.set_cons_zero, List.set_cons_succ, List.getElem_toArray, List.getElem_cons_zero, List.getElem_cons_succ]
      refine wpN_take (i := 5) (v := ?v6) rfl (by kernel_rfl) (fun _ _ _ h => h) hS (Or.inl ⟨by rfl, ?hy6⟩) ?hr6
      case hy6 => (intro wS hSw; (try dsimp only at hSw); go_simp; (try with_reducible rfl))
      try simp only [Act.put, List.setIfInBounds_toArray, List.set_cons_zero, List.set_cons_succ, List.getElem_toArray, List.getElem_cons_zero, List.getElem_cons_succ]
      refine wpN_take (i := 6) (v := ?v7) rfl (by kernel_rfl) (fun _ _ _ h => h) hS (Or.inl ⟨by rfl, ?hy7⟩) ?hr7
      case hy7 => (intro wS hSw; (try dsimp only at hSw); go_simp; (try with_reducible rfl))
      try simp only [Act.put, List.setIfInBounds_toArray, List.set_cons_zero, List.set_cons_succ, List.getElem_toArray, List.getElem_cons_zero, List.getElem_cons_succ]
      refine wpN_take (i := 7) (v := ?v8) rfl (by kernel_rfl) (fun _ _ _ h => h) hS (Or.inl ⟨by rfl, ?hy8⟩) ?hr8
      case hy8 => (intro wS hSw; (try dsimp only at hSw); go_simp; (try with_reducible rfl))
      try simp only [Act.put, List.setIfInBounds_toArray, List.set_cons_zero, List.set_cons_succ, List.getElem_toArray, List.getElem_cons_zero, List.getElem_cons_succ]
      refine wpN_step (i := 8) (by kernel_rfl) rfl (fun K hK => ?_)
      go_simp
      have hb0 : Below w.heap.size w v1.drew := B_v1.drew
      refine (Hih.out _ (List.getElem_mem hlt) v1.drew _ _ _ _ _ _ _ _ _ Y h0'.args[j] (fun q hq => Nat.lt_of_lt_of_le (H0.out q hq) hb0.size) (Hc.out.bel hb0) (Hm.out.bel hb0) (T_v1.out.bel (Below.refl _ _).drew) (V_v1.out.bel (Below.refl _ _).drew) (U_v1.out.bel (Below.refl _ _).drew) (Hz.out _ (List.getElem_mem hlt)) (Hfit.out _ (List.getElem_mem hlt))).mono ?_
      intro e v2 h
      obtain ⟨r, Hr, rfl, hbx0⟩ := of_retB' h
      clear h
      have hbx : Below v1.heap.size v1 v2 := (Below.refl _ _).drew.trans hbx0
      have e5v2 := ((Keep.refl (fun _ => True) _).below hbx) _ _ _ trivial e5v1
      have e6v2 := ((Keep.refl (fun _ => True) _).below hbx) _ _ _ trivial e6v1
      have B72 : Below w7.heap.size w7 v2 := B7v.trans (hbx.mono B7v.size)
      have xa_v2 := xa_v1.below hbx
      clear hbx0 hb0 e5v1 e6v1 B7v xa_v1
      have x0_v2 := x0_v1.below hbx
      have xh_v2 := xh_v1.below hbx
      have T_v2 := Lib.hid (T_v1.out.bel hbx)
      have U_v2 := Lib.hid (U_v1.out.bel hbx)
      have V_v2 := Lib.hid (V_v1.out.bel hbx)
      have B_v2 := B_v1.trans (hbx.mono B_v1.size)
      clear x0_v1 xh_v1 T_v1 U_v1 V_v1 B_v1 hbx
      have hS : (v2).cell? ⟨w.heap.size, 0, none⟩ = some (.int .i64 b) ∧ (v2).cell? ⟨w.heap.size, 1, none⟩ = some (.slice ca C.length cc) ∧ (v2).cell? ⟨w.heap.size, 2, none⟩ = some (.slice ma M.length mc) ∧ (v2).cell? ⟨p, 0, none⟩ = some (.slice (some ⟨bl', off', none⟩) args.length hc6) ∧ (v2).cell? ⟨p, 1, none⟩ = some (.int .i64 d0) ∧ (v2).cell? ⟨q, 0, none⟩ = some (.slice (PA j) (PN j) (PC j)) ∧ (v2).cell? ⟨q, 1, none⟩ = some (.int .i64 (Kd j)) ∧ (v2).cell? ⟨q, 2, none⟩ = some (.int .i64 (Ix j)) ∧ (v2).cell? ⟨q, 3, none⟩ = some (.slice (A j) (N j) (Cc j)) ∧ (v2).cell? ⟨bl', off' + j * 2, none⟩ = some (.slice A' N' C') ∧ (v2).cell? ⟨bl', off' + j * 2 + 1, none⟩ = some (.int .i64 B') := ⟨x0_v2.cell rfl, x0_v2.cell rfl, x0_v2.cell rfl, xh_v2.cell rfl, xh_v2.cell rfl, xa_v2.cell rfl, xa_v2.cell rfl, xa_v2.cell rfl, xa_v2.cell rfl, e5v2, e6v2⟩
      refine hK.out _ _ (fun _ => hS) ?_
      clear hK K
      try simp only [Act.put, List.setIfInBounds_toArray, List.set_cons_zero, List.set_cons_succ, List.getElem_toArray, List.getElem_cons_zero, List.getElem_cons_succ]
      refine wpN_take (i := 9) (v := ?v9) rfl (by kernel_rfl) (fun _ _ _ h => h) hS (Or.inl ⟨by rfl, ?hy9⟩) ?hr9
      case hy9 => (intro wS hSw; (try dsimp only at hSw); go_simp; (try with_reducible rfl))
      try simp only [Act.put, List.setIfInBounds_toArray, List.set_cons_zero, List.set_cons_succ, List.getElem_toArray, List.getElem_cons_zero, List.getElem_cons_succ]
      refine wpN_done (by kernel_rfl) ?_
      refine NoPanic.normal ?_
      clear hS
      cases r
      · have hn : ¬ P := fun hp => no_of Hr.out (HP3.out.1 hp j hlt hj')
        go_wp2_with fail
        go_ret
        exact ⟨false, by simp [hn], rfl, B_v2⟩
      · have Hy := Lib.hid (yes_of Hr.out)
        go_wp2_with fail
        go_roundw
        case rel => exact ⟨j + 1, by go_num, by omega, fun m h h' hm => by
          by_cases hmj : m < j
          · exact hrel.out m h h' hmj
          · obtain rfl : m = j := by omega
            exact Hy.out, B72⟩
        case measure => simp [intOf]; omega
    · have hp : P := HP3.out.2 fun m h h' => hrel.out m h h' (by omega)
      go_wp2_with fail
      go_ret
      exact ⟨true, by simp [hp], rfl, B_wr⟩
end Go.Proofs.YtiblklcfjakjmaaGreat

