/-
  How many terms: exactly what the reference counts; the laws' Few. What the laws' Few tells of a term. Lists of pairs in the laws of layer 9: To, Few. The type of a head: the program's and the document's. A context with more binders: the program's and the document's. What the members of a gathering yield: a list of standard shapes. term.HeadType, term.TypeOf. The type of a head: the document's. The document's TypeOf. Which of two types is less: by size, by how many arguments, argument by argument, by base; and what that order promises. Which of two terms is less: the plain law. sign, cmp.Compare and cmp.Or of ints. The document's order of types. The document's order of terms. Whether a term is of a type: the plain law. term.is: whether a term is of a type. The document's Is: whether a term is of a type. The document's Depth, Right, Check; term.Check. Whether a world may be: the program's RightWorld and the document's. The laws' worlds: World, Small; the document's RightWorld. The contracts of heads and types once more, where all of memory may be read. Checks of substitutions: what is called, as deep contracts. Worlds and types in the laws of layers 6 and 9, as deep contracts (great seat). Package subst, walked in the deep way: Apply. Package subst, walked in the deep way: through, Apply. subst.Apply, walked in the deep way. The known answer of the laws of layer 9. SubstChecks, walked in the deep way (great seat). SubstLists, walked in the deep way (great seat).
-/
import Derived.Test.YtiblklcfjakjmaaGreatRowSubstListsp8
import Derived.Test.YtiblklcfjakjmaaGreatRowSubstListsp1
import Derived.Deep.QuietTactic
import Derived.BigQuiet
import Derived.WalkSmall
import Derived.Test.YtiblklcfjakjmaaGreatRowSubstListsp4
import Derived.Test.YtiblklcfjakjmaaGreatRowSubstListsp5
set_option maxRecDepth 100000
set_option maxHeartbeats 1000000
set_option linter.unusedVariables false
set_option linter.unusedSimpArgs false
namespace Go.Proofs.YtiblklcfjakjmaaGreat
open Go.RowKit
def TF6_3 : TI := ⟨1, false, [Value.int IntKind.i64 0], [], none, 8, 2, none, false⟩
theorem TF6_3_ok : TypOk Tryz.prog 3 TF6_3 := ⟨by kernel_rfl, by kernel_rfl, by kernel_rfl, by kernel_rfl, by kernel_rfl⟩
def TF6_47 : TI := ⟨4, true, [Value.slice none 0 0, Value.int IntKind.i64 0, Value.int IntKind.i64 0, Value.slice none 0 0], [(0, 1, false), (1, 2, true), (3, 1, false)], none, 64, 6, none, false⟩
theorem TF6_47_ok : TypOk Tryz.prog 47 TF6_47 := ⟨by kernel_rfl, by kernel_rfl, by kernel_rfl, by kernel_rfl, by kernel_rfl⟩
def TF6_22 : TI := ⟨1, false, [Value.slice none 0 0], [], some 104, 24, 5, none, false⟩
theorem TF6_22_ok : TypOk Tryz.prog 22 TF6_22 := ⟨by kernel_rfl, by kernel_rfl, by kernel_rfl, by kernel_rfl, by kernel_rfl⟩
def TF6_45 : TI := ⟨1, false, [Value.slice none 0 0], [], some 47, 24, 5, none, false⟩
theorem TF6_45_ok : TypOk Tryz.prog 45 TF6_45 := ⟨by kernel_rfl, by kernel_rfl, by kernel_rfl, by kernel_rfl, by kernel_rfl⟩
def TF6_104 : TI := ⟨2, true, [Value.slice none 0 0, Value.int IntKind.i64 0], [(0, 1, false), (1, 1, false)], none, 32, 6, none, false⟩
theorem TF6_104_ok : TypOk Tryz.prog 104 TF6_104 := ⟨by kernel_rfl, by kernel_rfl, by kernel_rfl, by kernel_rfl, by kernel_rfl⟩
def TF6 : List (Nat × TI) := [(3, TF6_3), (47, TF6_47), (22, TF6_22), (45, TF6_45), (104, TF6_104)]
theorem TF6_ok : TabOk Tryz.prog TF6 := ((((((TabOk.nil _).cons TF6_104_ok).cons TF6_45_ok).cons TF6_22_ok).cons TF6_47_ok).cons TF6_3_ok)

def fewB1 (most d : Int) : List Ty → Int → Option Int
  | [], n => some n
  | t :: l, n => if n ≤ most then (if fewT most t d ≤ most then fewB1 most d l (n + t.size) else none) else some n
mutual
def fewM (most : Int) : Tm → Int → Int
  | .mk bs _ _ a, d => if d ≤ 0 then most + 1 else match fewB1 most d bs 1 with
    | none => most + 1
    | some n => fewMs most a (d - 1) n
def fewMs (most : Int) : List Tm → Int → Int → Int
  | [], _, n => n
  | t :: l, d, n => if n ≤ most then fewMs most l d (n + fewM most t d) else n
end
theorem fewB1_le {most d : Int} (hm : 1 ≤ most) (hd : d ≤ 1000) : ∀ (l : List Ty) (n : Int), 1 ≤ n → n ≤ 2 * most → ∀ r, fewB1 most d l n = some r → 1 ≤ r ∧ r ≤ 2 * most
  | [], n, h0, h1, r, h => by rw [fewB1] at h; cases h; exact ⟨h0, h1⟩
  | t :: l, n, h0, h1, r, h => by
    rw [fewB1] at h
    split at h
    · split at h
      · rename_i h2
        have := fewT_size hm 1000 t d hd h2
        have := (fewT_le hm 1000 t d hd).1
        exact fewB1_le hm hd l _ (by omega) (by omega) r h
      · cases h
    · cases h; exact ⟨h0, h1⟩
theorem fewMs_le {most : Int} (hm : 1 ≤ most) {B : Int} (hB : most ≤ B) : ∀ (l : List Tm) (d n : Int), (∀ t ∈ l, 1 ≤ fewM most t d ∧ fewM most t d ≤ B) → 1 ≤ n → n ≤ most + B → 1 ≤ fewMs most l d n ∧ fewMs most l d n ≤ most + B
  | [], d, n, _, h0, h1 => by rw [fewMs]; exact ⟨h0, h1⟩
  | t :: l, d, n, h, h0, h1 => by
    rw [fewMs]
    split
    · have := h t (by simp)
      exact fewMs_le hm hB l d _ (fun u hu => h u (by simp [hu])) (by omega) (by omega)
    · exact ⟨h0, h1⟩
theorem fewM_le {most : Int} (hm : 1 ≤ most) : ∀ (k : Nat) (t : Tm) (d : Int), k ≤ 1000 → d ≤ k → 1 ≤ fewM most t d ∧ fewM most t d ≤ most * k + most + 1
  | 0, .mk bs kd i a, d, hk, hd => by
    rw [fewM, if_pos (by omega)]
    have e : most * ((0 : Nat) : Int) = 0 := Int.mul_zero _
    rw [e]; omega
  | k + 1, .mk bs kd i a, d, hk, hd => by
    rw [fewM]
    have e : most * ((k + 1 : Nat) : Int) = most * (k : Int) + most := by rw [Int.natCast_add, Int.mul_add]; simp
    have h0 : 0 ≤ most * (k : Int) := Int.mul_nonneg (by omega) (by omega)
    rw [e]
    split
    · omega
    · cases hb : fewB1 most d bs 1 with
      | none => dsimp only; omega
      | some n =>
        have hn := fewB1_le hm (by omega) bs 1 (by omega) (by omega) n hb
        have := fewMs_le hm (B := most * k + most + 1) (by omega) a (d - 1) n (fun t _ => fewM_le hm k t (d - 1) (by omega) (by omega)) hn.1 (by omega)
        dsimp only
        omega
set_option maxHeartbeats 4000000 in
theorem few6_d (most : Int) (h1 : 1 ≤ most) (h2 : most ≤ 1000) : ∀ (t : Tm) (d : Int), -1000 ≤ d → d ≤ 1000 → PureC Tryz.prog 72 [.ag (eTm t), .v (.int .i64 most), .v (.int .i64 d)] (.v (.int .i64 (fewM most t d))) := by
  intro t
  induction t using Tm.ind with
  | h bs k i a ih =>
  intro d hd1 hd2
  obtain ⟨V, hV⟩ : ∃ V, fewM most (.mk bs k i a) d = V := ⟨_, rfl⟩
  rw [hV]
  rw [fewM] at hV
  refine call_of_dw 0 69 [ResultVar.tmp 6] TF6_ok (by kernel_rfl) Tryz.func72 rfl Tryz.ntmps72 rfl (by simp) ?dwords ?dbody
  case dwords => simp [wordsOk, D.ok, D.oks, rnames, eTm_ok]
  case dbody =>
    intro cx hnt hn0
    refine dw_seq ?_
    refine dw_k [] TF6_ok (by kernel_rfl) hnt (by kernel_rfl) (by simp; rfl) ?_
    intro K hK
    refine hK _ _ ?_
    clear hK K
    refine dw_seq (dw_seq ?_)
    by_cases hd : d ≤ 0
    · rw [if_pos hd] at hV
      subst hV
      refine dw_k [(11, .v (.bool true))] TF6_ok (by kernel_rfl) hnt (by kernel_rfl) (by simp; rfl) ?_
      intro K hK
      refine And.intro (dtrue hd) ?_
      refine hK _ _ ?_
      clear hK K
      refine dw_cond (t := true) rfl ?_
      rw [if_pos rfl]
      refine dw_seq ?_
      refine dw_k [(13, .v (.int .i64 (most + 1)))] TF6_ok (by kernel_rfl) hnt (by kernel_rfl) (by simp; rfl) ?_
      intro K hK
      refine And.intro (dintE (IntWalk.i64_in _ (by omega))) ?_
      refine hK _ _ ?_
      clear hK K
      refine dw_ret ?_
      exact retv (N := 0) (.inr rfl) rfl (VLe.refl _) trivial
    · rw [if_neg hd] at hV
      refine dw_k [(11, .v (.bool false))] TF6_ok (by kernel_rfl) hnt (by kernel_rfl) (by simp; rfl) ?_
      intro K hK
      refine And.intro (dfalse hd) ?_
      refine hK _ _ ?_
      clear hK K
      refine dw_cond (t := false) rfl ?_
      rw [if_neg (by simp)]
      refine dw_skip ?_
      refine dw_seq ?_
      refine dw_k [] TF6_ok (by kernel_rfl) hnt (by kernel_rfl) (by simp; rfl) ?_
      intro K hK
      refine hK _ _ ?_
      clear hK K
      refine dw_cutE (ι := { n : Int // 1 ≤ n ∧ n ≤ 2 * most ∧ V = fewMs most a (d - 1) n }) (fun n => [(.t 1, .v (.int .i64 most)), (.t 2, .v (.int .i64 d)), (.t 3, .p 0 0), (.t 7, .v (.int .i64 n.1)), (.c 0 0, .sl 2 (eTys bs) none), (.c 0 1, .v (.int .i64 k)), (.c 0 2, .v (.int .i64 i)), (.c 0 3, .sl 4 (eTms a) none)]) 1 ?_ fun n => ?_
      · refine dw_seq ?_
        refine dw_k [] TF6_ok (by kernel_rfl) hnt (by kernel_rfl) (by simp; rfl) ?_
        intro K hK
        refine hK _ _ ?_
        clear hK K
        refine dw_block ?_
        refine dw_loop (ι := { p : Nat × Int // fewB1 most d (bs.drop p.1) p.2 = fewB1 most d bs 1 ∧ (p.1 : Int) + 1 ≤ p.2 ∧ p.2 ≤ 2 * most ∧ p.1 ≤ bs.length }) (fun p => [(.t 1, .v (.int .i64 most)), (.t 2, .v (.int .i64 d)), (.t 3, .p 0 0), (.t 7, .v (.int .i64 p.1.2)), (.t 8, .v (.int .i64 (p.1.1 : Int))), (.c 0 0, .sl 2 (eTys bs) none), (.c 0 1, .v (.int .i64 k)), (.c 0 2, .v (.int .i64 i)), (.c 0 3, .sl 4 (eTms a) none)]) 1 (fun p => bs.length - p.1.1) ⟨(0, 1), by simp, by simp, by dsimp only; omega, by simp⟩ (VS.toK (by first | omega | simp [hn0]) (by repeat first | exact trivial | refine And.intro (And.intro (by first | rfl | simp [D.ok, D.oks, D.okss, D.okm, eTm_ok, eTy_ok, eTys_ok, eTms_ok, upto, keyOk]) (by first | exact Or.inl rfl | exact Or.inr ⟨_, rfl, (by repeat first | exact VLe.refl _ | exact VLe.nil _ | exact VLe.untag _ _ _ | refine VLe.ag ?_ | refine VLe.tu ?_ | refine VLeL.cons ?_ ?_ | exact VLeL.nil), trivial⟩ | simp [get, Key.eq])) ?_)) fun p => ?_
        obtain ⟨⟨j, n⟩, hj1, hj2, hj3, hj4⟩ := p
        dsimp only at hj1 hj2 hj3 hj4 ⊢
        refine dw_seq (dw_seq ?_)
        by_cases hlt : j < bs.length
        · have hdr : bs.drop j = bs[j] :: bs.drop (j + 1) := List.drop_eq_getElem_cons hlt
          rw [hdr, fewB1] at hj1
          by_cases hn : n ≤ most
          · rw [if_pos hn] at hj1
            have hF := Few4_d most h1 h2 bs[j] d hd1 hd2
            rw [eTy_eq] at hF
            have hq : (eTys bs).getD (j : Int).toNat [] = [.sl 2 (eTys bs[j].args) none, .v (.int .i64 bs[j].base)] := by rw [Int.toNat_natCast, eTys_getD bs j hlt, eTy_eq]
            have hb : (0 : Int) ≤ (j : Int) ∧ (j : Int) < ((eTys bs).length : Int) := ⟨by omega, by rw [eTys_len]; omega⟩
            refine dw_k [(18, .v (.bool true)), (22, .v (.bool true))] TF6_ok (by kernel_rfl) hnt (by kernel_rfl) (by simp; rfl) ?_
            intro K hK
            refine And.intro (dtrue (by rw [eTys_len]; omega)) ?_
            refine And.intro (dtrue hn) ?_
            refine hK _ _ ?_
            clear hK K
            refine dw_cond (t := true) rfl ?_
            rw [if_pos rfl]
            refine dw_skip ?_
            refine dw_seq (dw_block ?_)
            refine dw_seq (dw_seq ?_)
            by_cases hff : fewT most bs[j] d ≤ most
            · rw [if_pos hff] at hj1
              rw [decide_eq_true hff] at hF
              have hs1 := fewT_size h1 1000 bs[j] d (by omega) hff
              have hs2 := (fewT_le h1 1000 bs[j] d (by omega)).1
              have hS := Size4_d bs[j] (by omega)
              rw [eTy_eq] at hS
              refine dw_k [(29, .q [.sl 2 (eTys bs[j].args) none, .v (.int .i64 bs[j].base)])] TF6_ok (by kernel_rfl) hnt (by kernel_rfl) (by simp; rfl) ?_
              intro K hK
              refine And.intro (hb) ?_
              refine And.intro (VLe.of_eq (by rw [hq])) ?_
              refine ⟨_, _, _, Or.inl (hF), by repeat first | exact trivial | refine And.intro ⟨rfl, rfl⟩ ?_, ?_⟩
              refine hK _ _ ?_
              clear hK K
              refine dw_cond (t := false) rfl ?_
              rw [if_neg (by simp)]
              refine dw_skip ?_
              refine dw_k [(41, .q [.sl 2 (eTys bs[j].args) none, .v (.int .i64 bs[j].base)]), (44, .v (.int .i64 (n + (bs[j].size : Int))))] TF6_ok (by kernel_rfl) hnt (by kernel_rfl) (by simp; rfl) ?_
              intro K hK
              refine And.intro (hb) ?_
              refine And.intro (VLe.of_eq (by rw [hq])) ?_
              refine ⟨_, _, _, Or.inl (hS), by repeat first | exact trivial | refine And.intro ⟨rfl, rfl⟩ ?_, ?_⟩
              refine And.intro (dintE (IntWalk.i64_in _ (by omega))) ?_
              refine hK _ _ ?_
              clear hK K
              refine dw_k [(25, .v (.int .i64 ((j + 1 : Nat) : Int)))] TF6_ok (by kernel_rfl) hnt (by kernel_rfl) (by simp; rfl) ?_
              intro K hK
              refine And.intro (dintE (by rw [IntWalk.i64_in _ (by omega)]; omega)) ?_
              refine hK _ _ ?_
              clear hK K
              exact ⟨⟨(j + 1, n + (bs[j].size : Int)), hj1, by dsimp only; omega, by dsimp only; omega, hlt⟩, by dsimp only; omega, (VS.toK (by first | omega | simp [hn0]) (by repeat first | exact trivial | refine And.intro (And.intro (by first | rfl | simp [D.ok, D.oks, D.okss, D.okm, eTm_ok, eTy_ok, eTys_ok, eTms_ok, upto, keyOk]) (by first | exact Or.inl rfl | exact Or.inr ⟨_, rfl, (by repeat first | exact VLe.refl _ | exact VLe.nil _ | exact VLe.untag _ _ _ | refine VLe.ag ?_ | refine VLe.tu ?_ | refine VLeL.cons ?_ ?_ | exact VLeL.nil), trivial⟩ | simp [get, Key.eq])) ?_))⟩
            · rw [if_neg hff] at hj1
              rw [decide_eq_false hff] at hF
              rw [← hj1] at hV
              dsimp only at hV
              subst hV
              refine dw_k [(29, .q [.sl 2 (eTys bs[j].args) none, .v (.int .i64 bs[j].base)])] TF6_ok (by kernel_rfl) hnt (by kernel_rfl) (by simp; rfl) ?_
              intro K hK
              refine And.intro (hb) ?_
              refine And.intro (VLe.of_eq (by rw [hq])) ?_
              refine ⟨_, _, _, Or.inl (hF), by repeat first | exact trivial | refine And.intro ⟨rfl, rfl⟩ ?_, ?_⟩
              refine hK _ _ ?_
              clear hK K
              refine dw_cond (t := true) rfl ?_
              rw [if_pos rfl]
              refine dw_seq ?_
              refine dw_k [(36, .v (.int .i64 (most + 1)))] TF6_ok (by kernel_rfl) hnt (by kernel_rfl) (by simp; rfl) ?_
              intro K hK
              refine And.intro (dintE (IntWalk.i64_in _ (by omega))) ?_
              refine hK _ _ ?_
              clear hK K
              refine dw_ret ?_
              exact retv (N := 0) (.inr rfl) rfl (VLe.refl _) trivial
          · rw [if_neg hn] at hj1
            rw [← hj1] at hV
            dsimp only at hV
            refine dw_k [(18, .v (.bool true)), (22, .v (.bool false))] TF6_ok (by kernel_rfl) hnt (by kernel_rfl) (by simp; rfl) ?_
            intro K hK
            refine And.intro (dtrue (by rw [eTys_len]; omega)) ?_
            refine And.intro (dfalse hn) ?_
            refine hK _ _ ?_
            clear hK K
            refine dw_cond (t := false) rfl ?_
            rw [if_neg (by simp)]
            refine dw_exit ?_
            exact cutE_ok (Q := RetOk TF6 [ResultVar.tmp 6] (.v (.int .i64 V)) []) ⟨n, by omega, hj3, hV.symm⟩ (VS.toK (by first | omega | simp [hn0]) (by repeat first | exact trivial | refine And.intro (And.intro (by first | rfl | simp [D.ok, D.oks, D.okss, D.okm, eTm_ok, eTy_ok, eTys_ok, eTms_ok, upto, keyOk]) (by first | exact Or.inl rfl | exact Or.inr ⟨_, rfl, (by repeat first | exact VLe.refl _ | exact VLe.nil _ | exact VLe.untag _ _ _ | refine VLe.ag ?_ | refine VLe.tu ?_ | refine VLeL.cons ?_ ?_ | exact VLeL.nil), trivial⟩ | simp [get, Key.eq])) ?_))
        · rw [List.drop_eq_nil_of_le (by omega), fewB1] at hj1
          rw [← hj1] at hV
          dsimp only at hV
          refine dw_k [(18, .v (.bool false))] TF6_ok (by kernel_rfl) hnt (by kernel_rfl) (by simp; rfl) ?_
          intro K hK
          refine And.intro (dfalse (by rw [eTys_len]; omega)) ?_
          refine hK _ _ ?_
          clear hK K
          refine dw_cond (t := false) rfl ?_
          rw [if_neg (by simp)]
          refine dw_exit ?_
          exact cutE_ok (Q := RetOk TF6 [ResultVar.tmp 6] (.v (.int .i64 V)) []) ⟨n, by omega, hj3, hV.symm⟩ (VS.toK (by first | omega | simp [hn0]) (by repeat first | exact trivial | refine And.intro (And.intro (by first | rfl | simp [D.ok, D.oks, D.okss, D.okm, eTm_ok, eTy_ok, eTys_ok, eTms_ok, upto, keyOk]) (by first | exact Or.inl rfl | exact Or.inr ⟨_, rfl, (by repeat first | exact VLe.refl _ | exact VLe.nil _ | exact VLe.untag _ _ _ | refine VLe.ag ?_ | refine VLe.tu ?_ | refine VLeL.cons ?_ ?_ | exact VLeL.nil), trivial⟩ | simp [get, Key.eq])) ?_))
      · obtain ⟨n0, hn1, hn2, hVn⟩ := n
        dsimp only
        rw [hVn]
        refine dw_seq (dw_seq ?_)
        refine dw_k [] TF6_ok (by kernel_rfl) hnt (by kernel_rfl) (by simp; rfl) ?_
        intro K hK
        refine hK _ _ ?_
        clear hK K
        refine dw_block ?_
        refine dw_loop (ι := { p : Nat × Int // fewMs most (a.drop p.1) (d - 1) p.2 = fewMs most a (d - 1) n0 ∧ (p.1 : Int) + 1 ≤ p.2 ∧ p.2 ≤ 2000000 ∧ p.1 ≤ a.length }) (fun p => [(.t 1, .v (.int .i64 most)), (.t 2, .v (.int .i64 d)), (.t 3, .p 0 0), (.t 7, .v (.int .i64 p.1.2)), (.t 9, .v (.int .i64 (p.1.1 : Int))), (.c 0 0, .sl 2 (eTys bs) none), (.c 0 1, .v (.int .i64 k)), (.c 0 2, .v (.int .i64 i)), (.c 0 3, .sl 4 (eTms a) none)]) 1 (fun p => a.length - p.1.1) ⟨(0, n0), by simp, by dsimp only; omega, by dsimp only; omega, by simp⟩ (VS.toK (by first | omega | simp [hn0]) (by repeat first | exact trivial | refine And.intro (And.intro (by first | rfl | simp [D.ok, D.oks, D.okss, D.okm, eTm_ok, eTy_ok, eTys_ok, eTms_ok, upto, keyOk]) (by first | exact Or.inl rfl | exact Or.inr ⟨_, rfl, (by repeat first | exact VLe.refl _ | exact VLe.nil _ | exact VLe.untag _ _ _ | refine VLe.ag ?_ | refine VLe.tu ?_ | refine VLeL.cons ?_ ?_ | exact VLeL.nil), trivial⟩ | simp [get, Key.eq])) ?_)) fun p => ?_
        obtain ⟨⟨j, n⟩, hj1, hj2, hj3, hj4⟩ := p
        dsimp only at hj1 hj2 hj3 hj4 ⊢
        refine dw_seq (dw_seq ?_)
        by_cases hlt : j < a.length
        · have hdr : a.drop j = a[j] :: a.drop (j + 1) := List.drop_eq_getElem_cons hlt
          rw [hdr, fewMs] at hj1
          by_cases hn : n ≤ most
          · rw [if_pos hn] at hj1
            have hih := ih a[j] (List.getElem_mem hlt) (d - 1) (by omega) (by omega)
            rw [eTm_eq] at hih
            have hbd := fewM_le h1 1000 a[j] (d - 1) (by omega) (by omega)
            have hbd2 : most * ((1000 : Nat) : Int) ≤ 1000000 := by
              have : most * ((1000 : Nat) : Int) = 1000 * most := by rw [Int.mul_comm]; rfl
              omega
            refine dw_k [(49, .v (.bool true)), (53, .v (.bool true))] TF6_ok (by kernel_rfl) hnt (by kernel_rfl) (by simp; rfl) ?_
            intro K hK
            refine And.intro (dtrue (by rw [eTms_len]; omega)) ?_
            refine And.intro (dtrue hn) ?_
            refine hK _ _ ?_
            clear hK K
            refine dw_cond (t := true) rfl ?_
            rw [if_pos rfl]
            refine dw_skip ?_
            refine dw_seq (dw_block ?_)
            refine dw_k [(61, .q [.sl 2 (eTys a[j].binds) none, .v (.int .i64 a[j].kind), .v (.int .i64 a[j].index), .sl 4 (eTms a[j].args) none]), (65, .v (.int .i64 (d - 1))), (67, .v (.int .i64 (n + fewM most a[j] (d - 1))))] TF6_ok (by kernel_rfl) hnt (by kernel_rfl) (by simp; rfl) ?_
            intro K hK
            refine And.intro (⟨by omega, by rw [eTms_len]; omega⟩) ?_
            refine And.intro (VLe.of_eq (by rw [Int.toNat_natCast, eTms_getD a j hlt, eTm_eq])) ?_
            refine And.intro (dintE (IntWalk.i64_in _ (by omega))) ?_
            refine ⟨_, _, _, Or.inl (hih), by repeat first | exact trivial | refine And.intro ⟨rfl, rfl⟩ ?_, ?_⟩
            refine And.intro (dintE (IntWalk.i64_in _ (by omega))) ?_
            refine hK _ _ ?_
            clear hK K
            refine dw_k [(56, .v (.int .i64 ((j + 1 : Nat) : Int)))] TF6_ok (by kernel_rfl) hnt (by kernel_rfl) (by simp; rfl) ?_
            intro K hK
            refine And.intro (dintE (by rw [IntWalk.i64_in _ (by omega)]; omega)) ?_
            refine hK _ _ ?_
            clear hK K
            exact ⟨⟨(j + 1, n + fewM most a[j] (d - 1)), hj1, by dsimp only; omega, by dsimp only; omega, hlt⟩, by dsimp only; omega, (VS.toK (by first | omega | simp [hn0]) (by repeat first | exact trivial | refine And.intro (And.intro (by first | rfl | simp [D.ok, D.oks, D.okss, D.okm, eTm_ok, eTy_ok, eTys_ok, eTms_ok, upto, keyOk]) (by first | exact Or.inl rfl | exact Or.inr ⟨_, rfl, (by repeat first | exact VLe.refl _ | exact VLe.nil _ | exact VLe.untag _ _ _ | refine VLe.ag ?_ | refine VLe.tu ?_ | refine VLeL.cons ?_ ?_ | exact VLeL.nil), trivial⟩ | simp [get, Key.eq])) ?_))⟩
          · rw [if_neg hn] at hj1
            rw [← hj1]
            refine dw_k [(49, .v (.bool true)), (53, .v (.bool false))] TF6_ok (by kernel_rfl) hnt (by kernel_rfl) (by simp; rfl) ?_
            intro K hK
            refine And.intro (dtrue (by rw [eTms_len]; omega)) ?_
            refine And.intro (dfalse hn) ?_
            refine hK _ _ ?_
            clear hK K
            refine dw_cond (t := false) rfl ?_
            rw [if_neg (by simp)]
            refine dw_exit ?_
            refine dw_seq ?_
            refine dw_k [] TF6_ok (by kernel_rfl) hnt (by kernel_rfl) (by simp; rfl) ?_
            intro K hK
            refine hK _ _ ?_
            clear hK K
            refine dw_ret ?_
            exact retv (N := 0) (.inr rfl) rfl (VLe.refl _) trivial
        · rw [List.drop_eq_nil_of_le (by omega), fewMs] at hj1
          rw [← hj1]
          refine dw_k [(49, .v (.bool false))] TF6_ok (by kernel_rfl) hnt (by kernel_rfl) (by simp; rfl) ?_
          intro K hK
          refine And.intro (dfalse (by rw [eTms_len]; omega)) ?_
          refine hK _ _ ?_
          clear hK K
          refine dw_cond (t := false) rfl ?_
          rw [if_neg (by simp)]
          refine dw_exit ?_
          refine dw_seq ?_
          refine dw_k [] TF6_ok (by kernel_rfl) hnt (by kernel_rfl) (by simp; rfl) ?_
          intro K hK
          refine hK _ _ ?_
          clear hK K
          refine dw_ret ?_
          exact retv (N := 0) (.inr rfl) rfl (VLe.refl _) trivial
theorem Few6_d (most : Int) (h1 : 1 ≤ most) (h2 : most ≤ 1000) (t : Tm) (d : Int) (h3 : -1000 ≤ d) (h4 : d ≤ 1000) : PureC Tryz.prog 35 [.ag (eTm t), .v (.int .i64 most), .v (.int .i64 d)] (.v (.bool (decide (fewM most t d ≤ most)))) := by
  have h := few6_d most h1 h2 t d h3 h4
  rw [eTm_eq] at h ⊢
  refine call_of_dw 0 13 [ResultVar.tmp 6] TF6_ok (by kernel_rfl) Tryz.func35 rfl Tryz.ntmps35 rfl (by simp) ?dwords ?dbody
  case dwords => simp [wordsOk, D.ok, D.oks, rnames, eTys_ok, eTms_ok]
  case dbody =>
    intro cx hnt hn0
    refine dw_seq ?_
    refine dw_k [] TF6_ok (by kernel_rfl) hnt (by kernel_rfl) (by simp; rfl) ?_
    intro K hK
    refine hK _ _ ?_
    clear hK K
    refine dw_seq ?_
    refine dw_k [] TF6_ok (by kernel_rfl) hnt (by kernel_rfl) (by simp; rfl) ?_
    intro K hK
    refine ⟨_, _, _, Or.inl (h), by repeat first | exact trivial | refine And.intro ⟨rfl, rfl⟩ ?_, ?_⟩
    refine hK _ _ ?_
    clear hK K
    refine dw_ret ?_
    exact retv (N := 0) (.inr rfl) rfl (VLe.refl _) trivial
def fewB (t : Tm) : Bool := decide (fewM 150 t 70 ≤ 150)
set_option maxHeartbeats 1000000 in
theorem lawFew_d (l : List Tm) (hl : l.length ≤ 1000000) : PureC Tryz.prog 17 [.sl 4 (eTms l) none] (.v (.bool (l.all fewB))) := by
  refine call_of_dw 0 16 [ResultVar.tmp 2] TF6_ok (by kernel_rfl) Tryz.func17 rfl Tryz.ntmps17 rfl (by simp) ?dwords ?dbody
  case dwords => simp [wordsOk, D.ok, D.oks, rnames, eTms_ok]
  case dbody =>
    intro cx hnt hn0
    refine dw_seq ?_
    refine dw_k [] TF6_ok (by kernel_rfl) hnt (by kernel_rfl) (by simp; rfl) ?_
    intro K hK
    refine hK _ _ ?_
    clear hK K
    refine dw_seq (dw_seq ?_)
    refine dw_k [] TF6_ok (by kernel_rfl) hnt (by kernel_rfl) (by simp; rfl) ?_
    intro K hK
    refine hK _ _ ?_
    clear hK K
    refine dw_block ?_
    refine dw_loop (ι := { j : Nat // ∀ i (h : i < l.length), i < j → fewB l[i] = true }) (fun j => [(.t 0, .sl 4 (eTms l) none), (.t 3, .v (.int .i64 (j.1 : Int)))]) 1 (fun j => l.length - j.1) ⟨0, fun i h1 h2 => by omega⟩ (VS.toK (by first | omega | simp [hn0]) (by repeat first | exact trivial | refine And.intro (And.intro (by first | rfl | simp [D.ok, D.oks, D.okss, D.okm, eTm_ok, eTy_ok, eTys_ok, eTms_ok, upto, keyOk]) (by first | exact Or.inl rfl | exact Or.inr ⟨_, rfl, (by repeat first | exact VLe.refl _ | exact VLe.nil _ | exact VLe.untag _ _ _ | refine VLe.ag ?_ | refine VLe.tu ?_ | refine VLeL.cons ?_ ?_ | exact VLeL.nil), trivial⟩ | simp [get, Key.eq])) ?_)) fun j => ?_
    obtain ⟨j, hj⟩ := j
    dsimp only
    refine dw_seq (dw_seq ?_)
    by_cases hlt : j < l.length
    · have hi := Few6_d 150 (by decide) (by decide) l[j] 70 (by decide) (by decide)
      rw [eTm_eq] at hi
      have hq : (eTms l).getD (j : Int).toNat [] = [.sl 2 (eTys l[j].binds) none, .v (.int .i64 l[j].kind), .v (.int .i64 l[j].index), .sl 4 (eTms l[j].args) none] := by rw [Int.toNat_natCast, eTms_getD l j hlt, eTm_eq]
      have hb : (0 : Int) ≤ (j : Int) ∧ (j : Int) < ((eTms l).length : Int) := ⟨by omega, by rw [eTms_len]; omega⟩
      refine dw_k [(7, .v (.bool true))] TF6_ok (by kernel_rfl) hnt (by kernel_rfl) (by simp; rfl) ?_
      intro K hK
      refine And.intro (dtrue (by rw [eTms_len]; omega)) ?_
      refine hK _ _ ?_
      clear hK K
      refine dw_cond (t := true) rfl ?_
      rw [if_pos rfl]
      refine dw_skip ?_
      refine dw_seq (dw_block (dw_seq ?_))
      cases hf : fewB l[j] with
      | true =>
        have hf2 := hf
        unfold fewB at hf2
        rw [hf2] at hi
        refine dw_k [(12, .q [.sl 2 (eTys l[j].binds) none, .v (.int .i64 l[j].kind), .v (.int .i64 l[j].index), .sl 4 (eTms l[j].args) none])] TF6_ok (by kernel_rfl) hnt (by kernel_rfl) (by simp; rfl) ?_
        intro K hK
        refine And.intro (hb) ?_
        refine And.intro (VLe.of_eq (by rw [hq])) ?_
        refine ⟨_, _, _, Or.inl (hi), by repeat first | exact trivial | refine And.intro ⟨rfl, rfl⟩ ?_, ?_⟩
        refine hK _ _ ?_
        clear hK K
        refine dw_cond (t := false) rfl ?_
        rw [if_neg (by simp)]
        refine dw_skip ?_
        refine dw_k [(9, .v (.int .i64 ((j + 1 : Nat) : Int)))] TF6_ok (by kernel_rfl) hnt (by kernel_rfl) (by simp; rfl) ?_
        intro K hK
        refine And.intro (dintE (by rw [IntWalk.i64_in _ (by omega)]; omega)) ?_
        refine hK _ _ ?_
        clear hK K
        refine ⟨⟨j + 1, fun i h1 h2 => ?_⟩, by dsimp only; omega, (VS.toK (by first | omega | simp [hn0]) (by repeat first | exact trivial | refine And.intro (And.intro (by first | rfl | simp [D.ok, D.oks, D.okss, D.okm, eTm_ok, eTy_ok, eTys_ok, eTms_ok, upto, keyOk]) (by first | exact Or.inl rfl | exact Or.inr ⟨_, rfl, (by repeat first | exact VLe.refl _ | exact VLe.nil _ | exact VLe.untag _ _ _ | refine VLe.ag ?_ | refine VLe.tu ?_ | refine VLeL.cons ?_ ?_ | exact VLeL.nil), trivial⟩ | simp [get, Key.eq])) ?_))⟩
        by_cases he : i = j
        · subst he; exact hf
        · exact hj i h1 (by omega)
      | false =>
        have hf2 := hf
        unfold fewB at hf2
        rw [hf2] at hi
        have ha : l.all fewB = false := by rw [List.all_eq_false]; exact ⟨l[j], List.getElem_mem hlt, by rw [hf]; simp⟩
        rw [ha]
        refine dw_k [(12, .q [.sl 2 (eTys l[j].binds) none, .v (.int .i64 l[j].kind), .v (.int .i64 l[j].index), .sl 4 (eTms l[j].args) none])] TF6_ok (by kernel_rfl) hnt (by kernel_rfl) (by simp; rfl) ?_
        intro K hK
        refine And.intro (hb) ?_
        refine And.intro (VLe.of_eq (by rw [hq])) ?_
        refine ⟨_, _, _, Or.inl (hi), by repeat first | exact trivial | refine And.intro ⟨rfl, rfl⟩ ?_, ?_⟩
        refine hK _ _ ?_
        clear hK K
        refine dw_cond (t := true) rfl ?_
        rw [if_pos rfl]
        refine dw_seq ?_
        refine dw_k [] TF6_ok (by kernel_rfl) hnt (by kernel_rfl) (by simp; rfl) ?_
        intro K hK
        refine hK _ _ ?_
        clear hK K
        refine dw_ret ?_
        exact retv (N := 0) (.inr rfl) rfl (VLe.refl _) trivial
    · have ha : l.all fewB = true := by
        rw [List.all_eq_true]
        intro t ht
        obtain ⟨i, hi, rfl⟩ := List.getElem_of_mem ht
        exact hj i hi (by omega)
      rw [ha]
      refine dw_k [(7, .v (.bool false))] TF6_ok (by kernel_rfl) hnt (by kernel_rfl) (by simp; rfl) ?_
      intro K hK
      refine And.intro (dfalse (by rw [eTms_len]; omega)) ?_
      refine hK _ _ ?_
      clear hK K
      refine dw_cond (t := false) rfl ?_
      rw [if_neg (by simp)]
      refine dw_exit ?_
      refine dw_seq ?_
      refine dw_k [] TF6_ok (by kernel_rfl) hnt (by kernel_rfl) (by simp; rfl) ?_
      intro K hK
      refine hK _ _ ?_
      clear hK K
      refine dw_ret ?_
      exact retv (N := 0) (.inr rfl) rfl (VLe.refl _) trivial
end Go.Proofs.YtiblklcfjakjmaaGreat

namespace Go.Proofs.YtiblklcfjakjmaaGreat
open Go.RowKit

theorem fewB1_full {most d : Int} (hm : 1 ≤ most) (hd : d ≤ 1000) : ∀ (l : List Ty) (n r : Int), fewB1 most d l n = some r → r ≤ most → r = n + Ty.sizes l
  | [], n, r, h, _ => by rw [fewB1] at h; cases h; simp [Ty.sizes]
  | t :: l, n, r, h, hr => by
    rw [fewB1] at h
    split at h
    · split at h
      · have := fewB1_full hm hd l _ r h hr
        rw [this, Ty.sizes]; omega
      · cases h
    · cases h; omega
theorem fewMs_full {most : Int} : ∀ (l : List Tm) (d n : Int), (∀ t ∈ l, fewM most t d ≤ most → (t.full : Int) = fewM most t d ∧ (t.depth : Int) ≤ d) → (∀ t ∈ l, 1 ≤ fewM most t d) → 1 ≤ n → fewMs most l d n ≤ most → fewMs most l d n = n + Tm.fulls l ∧ (∀ t ∈ l, (t.depth : Int) ≤ d) ∧ n ≤ most
  | [], d, n, _, _, _, h => by rw [fewMs] at h ⊢; exact ⟨by simp [Tm.fulls], nofun, h⟩
  | t :: l, d, n, h, h1, hn, hf => by
    rw [fewMs] at hf ⊢
    split at hf
    · rename_i hm
      rw [if_pos hm]
      have h2 := h1 t (by simp)
      obtain ⟨h3, h4, h5⟩ := fewMs_full l d _ (fun u hu => h u (by simp [hu])) (fun u hu => h1 u (by simp [hu])) (by omega) hf
      obtain ⟨h6, h7⟩ := h t (by simp) (by omega)
      refine ⟨by rw [h3, Tm.fulls]; omega, fun u hu => ?_, hm⟩
      rcases List.mem_cons.1 hu with rfl | hu
      · exact h7
      · exact h4 u hu
    · rename_i hm; omega
theorem depths_max {d : Int} (hd : 0 ≤ d) : ∀ (l : List Tm), (∀ t ∈ l, (t.depth : Int) ≤ d) → (Tm.depths l : Int) ≤ d
  | [], _ => by simp [Tm.depths]; exact hd
  | t :: l, h => by
    have h1 := h t (by simp)
    have h2 := depths_max hd l fun u hu => h u (by simp [hu])
    simp only [Tm.depths]; omega
theorem fewM_full {most : Int} (hm : 1 ≤ most) : ∀ (k : Nat) (t : Tm) (d : Int), k ≤ 1000 → d ≤ k → fewM most t d ≤ most → (t.full : Int) = fewM most t d ∧ (t.depth : Int) ≤ d
  | 0, .mk bs kd i a, d, hk, hd, h => by rw [fewM, if_pos (by omega)] at h; omega
  | k + 1, .mk bs kd i a, d, hk, hd, h => by
    rw [fewM] at h ⊢
    split at h
    · omega
    · rename_i hp
      rw [if_neg hp]
      cases hb : fewB1 most d bs 1 with
      | none => rw [hb] at h; dsimp only at h; omega
      | some n =>
        rw [hb] at h
        dsimp only at h ⊢
        have hn := fewB1_le hm (by omega) bs 1 (by omega) (by omega) n hb
        obtain ⟨h3, h4, h5⟩ := fewMs_full a (d - 1) n (fun t _ => fewM_full hm k t (d - 1) (by omega) (by omega)) (fun t _ => (fewM_le hm k t (d - 1) (by omega) (by omega)).1) hn.1 h
        have h6 := fewB1_full hm (by omega) bs 1 n hb h5
        have h7 := depths_max (by omega) a h4
        rw [Tm.full_eq, Tm.depth_eq]
        constructor
        · omega
        · omega
theorem fewB_full {t : Tm} (h : fewB t = true) : t.full ≤ 150 ∧ t.depth ≤ 70 := by
  unfold fewB at h
  rw [decide_eq_true_eq] at h
  obtain ⟨h1, h2⟩ := fewM_full (by decide) 1000 t 70 (by decide) (by decide) h
  omega
end Go.Proofs.YtiblklcfjakjmaaGreat

namespace Go.Proofs.YtiblklcfjakjmaaGreat
open Go.RowKit
def TL10_3 : TI := ⟨1, false, [Value.int IntKind.i64 0], [], none, 8, 2, none, false⟩
theorem TL10_3_ok : TypOk Tryz.prog 3 TL10_3 := ⟨by kernel_rfl, by kernel_rfl, by kernel_rfl, by kernel_rfl, by kernel_rfl⟩
def TL10_25 : TI := ⟨1, false, [Value.slice none 0 0], [], some 63, 24, 5, none, false⟩
theorem TL10_25_ok : TypOk Tryz.prog 25 TL10_25 := ⟨by kernel_rfl, by kernel_rfl, by kernel_rfl, by kernel_rfl, by kernel_rfl⟩
def TL10_63 : TI := ⟨5, true, [Value.int IntKind.i64 0, Value.slice none 0 0, Value.int IntKind.i64 0, Value.int IntKind.i64 0, Value.slice none 0 0], [(0, 1, false), (1, 4, true)], none, 72, 6, none, false⟩
theorem TL10_63_ok : TypOk Tryz.prog 63 TL10_63 := ⟨by kernel_rfl, by kernel_rfl, by kernel_rfl, by kernel_rfl, by kernel_rfl⟩
def TL10_47 : TI := ⟨4, true, [Value.slice none 0 0, Value.int IntKind.i64 0, Value.int IntKind.i64 0, Value.slice none 0 0], [(0, 1, false), (1, 2, true), (3, 1, false)], none, 64, 6, none, false⟩
theorem TL10_47_ok : TypOk Tryz.prog 47 TL10_47 := ⟨by kernel_rfl, by kernel_rfl, by kernel_rfl, by kernel_rfl, by kernel_rfl⟩
def TL10_45 : TI := ⟨1, false, [Value.slice none 0 0], [], some 47, 24, 5, none, false⟩
theorem TL10_45_ok : TypOk Tryz.prog 45 TL10_45 := ⟨by kernel_rfl, by kernel_rfl, by kernel_rfl, by kernel_rfl, by kernel_rfl⟩
def TL10_30 : TI := ⟨1, false, [Value.slice none 0 0], [], some 99, 24, 5, none, false⟩
theorem TL10_30_ok : TypOk Tryz.prog 30 TL10_30 := ⟨by kernel_rfl, by kernel_rfl, by kernel_rfl, by kernel_rfl, by kernel_rfl⟩
def TL10_99 : TI := ⟨5, true, [Value.int IntKind.i64 0, Value.slice none 0 0, Value.int IntKind.i64 0, Value.int IntKind.i64 0, Value.slice none 0 0], [(0, 1, false), (1, 4, true)], none, 72, 6, none, false⟩
theorem TL10_99_ok : TypOk Tryz.prog 99 TL10_99 := ⟨by kernel_rfl, by kernel_rfl, by kernel_rfl, by kernel_rfl, by kernel_rfl⟩
def TL10 : List (Nat × TI) := [(3, TL10_3), (25, TL10_25), (63, TL10_63), (47, TL10_47), (45, TL10_45), (30, TL10_30), (99, TL10_99)]
theorem TL10_ok : TabOk Tryz.prog TL10 := ((((((((TabOk.nil _).cons TL10_99_ok).cons TL10_30_ok).cons TL10_45_ok).cons TL10_47_ok).cons TL10_63_ok).cons TL10_25_ok).cons TL10_3_ok)

theorem to6_d (t : Tm) (h : t.full ≤ 900000) : PureC Tryz.prog 29 [.ag (eTm t)] (.ag (eTm t)) := to6D_d t h
set_option maxHeartbeats 1000000 in
theorem to9_d (l : List (Int × Tm)) (hl : l.length ≤ 9223372036854775807) (hf : ∀ p ∈ l.take 10, p.2.full ≤ 900000) : PureC Tryz.prog 11 [.sl 5 (ePairs l) none] (.sl 5 (ePairs (l.take 10)) none) := by
  refine call_of_dw 0 31 [ResultVar.tmp 2] TL10_ok (by kernel_rfl) Tryz.func11 rfl Tryz.ntmps11 rfl (by simp) ?dwords ?dbody
  case dwords => simp [wordsOk, D.ok, D.oks, rnames, ePairs_ok]
  case dbody =>
    intro cx hnt hn0
    refine dw_seq ?_
    refine dw_k [] TL10_ok (by kernel_rfl) hnt (by kernel_rfl) (by simp; rfl) ?_
    intro K hK
    refine hK _ _ ?_
    clear hK K
    refine dw_seq ?_
    refine dw_k [] TL10_ok (by kernel_rfl) hnt (by kernel_rfl) (by simp; rfl) ?_
    intro K hK
    refine hK _ _ ?_
    clear hK K
    refine dw_seq (dw_seq ?_)
    refine dw_k [] TL10_ok (by kernel_rfl) hnt (by kernel_rfl) (by simp; rfl) ?_
    intro K hK
    refine hK _ _ ?_
    clear hK K
    refine dw_block ?_
    refine dw_loop (ι := { j : Nat // j ≤ 10 }) (fun j => (.t 0, .sl 5 (ePairs l) none) :: (.t 4, .v (.int .i64 (j.1 : Int))) :: (.t 3, .sl 5 (ePairs (l.take j.1)) (some 3)) :: (.r 3, .rw 99 5 (l.take j.1).length) :: []) 4 (fun j => l.length - j.1) ⟨0, by decide⟩ (VS.trans (VS.rowT (x := 3) (by rw [hnt]; decide) 99 5 rfl) (VS.toK (by first | omega | simp [hn0]) (by repeat first | exact trivial | refine And.intro (And.intro (by first | rfl | simp [D.ok, D.oks, D.okss, D.okm, eTm_ok, eTy_ok, eTys_ok, eTms_ok, upto, keyOk, ePairs_ok]) (by first | exact Or.inl rfl | exact Or.inr ⟨_, rfl, (by repeat first | exact VLe.refl _ | exact VLe.nil _ | exact VLe.untag _ _ _ | refine VLe.ag ?_ | refine VLe.tu ?_ | refine VLeL.cons ?_ ?_ | exact VLeL.nil), trivial⟩ | simp [get, Key.eq, ePairs_ok])) ?_))) fun j => ?_
    obtain ⟨j, hj⟩ := j
    dsimp only
    refine dw_seq (dw_seq ?_)
    have end_ : ¬ (j < l.length ∧ j < 10) → l.take j = l.take 10 := fun h => by
      by_cases h1 : j < 10
      · have : l.length ≤ j := by omega
        rw [List.take_of_length_le this, List.take_of_length_le (by omega)]
      · rw [show j = 10 by omega]
    by_cases hlt : j < l.length
    · by_cases h10 : j < 10
      · have hjt : l[j] ∈ l.take 10 := by
          have : j < (l.take 10).length := by rw [List.length_take]; omega
          have h2 : (l.take 10)[j] = l[j] := by simp
          rw [← h2]; exact List.getElem_mem this
        have ho := to6_d l[j].2 (hf _ hjt)
        rw [eTm_eq] at ho
        have hq : (ePairs l).getD (j : Int).toNat [] = [.v (.int .i64 l[j].1), .sl 2 (eTys l[j].2.binds) none, .v (.int .i64 l[j].2.kind), .v (.int .i64 l[j].2.index), .sl 4 (eTms l[j].2.args) none] := by rw [Int.toNat_natCast, ePairs_getD l j hlt, ePair_eq]
        have hb : (0 : Int) ≤ (j : Int) ∧ (j : Int) < ((ePairs l).length : Int) := ⟨by omega, by rw [ePairs_len]; omega⟩
        refine dw_k [(8, .v (.bool true)), (11, .v (.bool true))] TL10_ok (by kernel_rfl) hnt (by kernel_rfl) (by simp; rfl) ?_
        intro K hK
        refine And.intro (dtrue (by rw [ePairs_len]; omega)) ?_
        refine And.intro (dtrue (by omega)) ?_
        refine hK _ _ ?_
        clear hK K
        refine dw_cond (t := true) rfl ?_
        rw [if_pos rfl]
        refine dw_skip ?_
        refine dw_seq (dw_block ?_)
        refine dw_kD [(18, .q [.v (.int .i64 l[j].1), .sl 2 (eTys l[j].2.binds) none, .v (.int .i64 l[j].2.kind), .v (.int .i64 l[j].2.index), .sl 4 (eTms l[j].2.args) none]), (23, .q [.v (.int .i64 l[j].1), .sl 2 (eTys l[j].2.binds) none, .v (.int .i64 l[j].2.kind), .v (.int .i64 l[j].2.index), .sl 4 (eTms l[j].2.args) none]), (29, .sl 5 (ePairs (l.take (j + 1))) (some 3))] TL10_ok (by kernel_rfl) hnt (by kernel_rfl) (by simp; rfl) ?_
        intro K hK
        refine And.intro (hb) ?_
        refine And.intro (VLe.of_eq (by rw [hq])) ?_
        refine And.intro (hb) ?_
        refine And.intro (VLe.of_eq (by rw [hq])) ?_
        refine ⟨_, _, _, Or.inl (ho), by repeat first | exact trivial | refine And.intro ⟨rfl, rfl⟩ ?_, ?_⟩
        refine And.intro (⟨by rw [ePairs_len], by rw [ePairs_len, List.length_take]; simp; omega⟩) ?_
        refine And.intro (VLe.of_eq (by rw [ePairs_take l j hlt, ePair_eq])) ?_
        refine hK _ _ (by kernel_rfl) ?_
        clear hK K
        refine dw_k [(14, .v (.int .i64 ((j + 1 : Nat) : Int)))] TL10_ok (by kernel_rfl) hnt (by kernel_rfl) (by simp; rfl) ?_
        intro K hK
        refine And.intro (dintE (by rw [IntWalk.i64_in _ (by omega)]; omega)) ?_
        refine hK _ _ ?_
        clear hK K
        have hl2 : (l.take (j + 1)).length = j + 1 := by rw [List.length_take]; omega
        have hl3 : (ePairs (l.take j)).length = j := by rw [ePairs_len, List.length_take]; omega
        refine ⟨⟨j + 1, by omega⟩, by dsimp only; omega, ?_⟩
        rw [hl2]
        exact (VS.toK (by first | omega | simp [hn0]) (by repeat first | exact trivial | refine And.intro (And.intro (by first | rfl | simp [D.ok, D.oks, D.okss, D.okm, eTm_ok, eTy_ok, eTys_ok, eTms_ok, upto, keyOk, ePairs_ok, hl3]) (by first | exact Or.inl rfl | exact Or.inr ⟨_, rfl, (by repeat first | exact VLe.refl _ | exact VLe.nil _ | exact VLe.untag _ _ _ | refine VLe.ag ?_ | refine VLe.tu ?_ | refine VLeL.cons ?_ ?_ | exact VLeL.nil), trivial⟩ | simp [get, Key.eq, ePairs_ok, hl3])) ?_))
      · skip
        refine dw_k [(8, .v (.bool true)), (11, .v (.bool false))] TL10_ok (by kernel_rfl) hnt (by kernel_rfl) (by simp; rfl) ?_
        intro K hK
        refine And.intro (dtrue (by rw [ePairs_len]; omega)) ?_
        refine And.intro (dfalse (by omega)) ?_
        refine hK _ _ ?_
        clear hK K
        refine dw_cond (t := false) rfl ?_
        rw [if_neg (by simp)]
        refine dw_exit ?_
        refine dw_seq ?_
        rw [end_ (fun h => h10 h.2)]
        refine dw_k [] TL10_ok (by kernel_rfl) hnt (by kernel_rfl) (by simp; rfl) ?_
        intro K hK
        refine hK _ _ ?_
        clear hK K
        refine dw_ret ?_
        exact retv (N := 0) (.inr rfl) rfl (by repeat first | exact VLe.refl _ | exact VLe.nil _ | exact VLe.untag _ _ _ | refine VLe.ag ?_ | refine VLe.tu ?_ | refine VLeL.cons ?_ ?_ | exact VLeL.nil) trivial
    · skip
      refine dw_k [(8, .v (.bool false))] TL10_ok (by kernel_rfl) hnt (by kernel_rfl) (by simp; rfl) ?_
      intro K hK
      refine And.intro (dfalse (by rw [ePairs_len]; omega)) ?_
      refine hK _ _ ?_
      clear hK K
      refine dw_cond (t := false) rfl ?_
      rw [if_neg (by simp)]
      refine dw_exit ?_
      refine dw_seq ?_
      rw [end_ (fun h => hlt h.1)]
      refine dw_k [] TL10_ok (by kernel_rfl) hnt (by kernel_rfl) (by simp; rfl) ?_
      intro K hK
      refine hK _ _ ?_
      clear hK K
      refine dw_ret ?_
      exact retv (N := 0) (.inr rfl) rfl (by repeat first | exact VLe.refl _ | exact VLe.nil _ | exact VLe.untag _ _ _ | refine VLe.ag ?_ | refine VLe.tu ?_ | refine VLeL.cons ?_ ?_ | exact VLeL.nil) trivial
def few9 (l : List (Int × Tm)) : Bool := (l.take 10).all fun p => fewB p.2 && lowB p.2
set_option maxHeartbeats 1000000 in
theorem few9_d (l : List (Int × Tm)) (hl : l.length ≤ 9223372036854775807) (hw : ∀ p ∈ l.take 10, fewB p.2 = true → Wide p.2) : PureC Tryz.prog 8 [.sl 5 (ePairs l) none] (.v (.bool (few9 l))) := by
  refine call_of_dw 0 32 [ResultVar.tmp 2] TL10_ok (by kernel_rfl) Tryz.func8 rfl Tryz.ntmps8 rfl (by simp) ?dwords ?dbody
  case dwords => simp [wordsOk, D.ok, D.oks, rnames, ePairs_ok]
  case dbody =>
    intro cx hnt hn0
    refine dw_seq ?_
    refine dw_k [] TL10_ok (by kernel_rfl) hnt (by kernel_rfl) (by simp; rfl) ?_
    intro K hK
    refine hK _ _ ?_
    clear hK K
    refine dw_seq (dw_seq ?_)
    refine dw_k [] TL10_ok (by kernel_rfl) hnt (by kernel_rfl) (by simp; rfl) ?_
    intro K hK
    refine hK _ _ ?_
    clear hK K
    refine dw_block ?_
    refine dw_loop (ι := { j : Nat // j ≤ 10 ∧ ∀ i (h : i < l.length), i < j → (fewB l[i].2 && lowB l[i].2) = true }) (fun j => [(.t 0, .sl 5 (ePairs l) none), (.t 3, .v (.int .i64 (j.1 : Int)))]) 1 (fun j => l.length - j.1) ⟨0, by decide, fun i h1 h2 => by omega⟩ (VS.toK (by first | omega | simp [hn0]) (by repeat first | exact trivial | refine And.intro (And.intro (by first | rfl | simp [D.ok, D.oks, D.okss, D.okm, eTm_ok, eTy_ok, eTys_ok, eTms_ok, upto, keyOk, ePairs_ok]) (by first | exact Or.inl rfl | exact Or.inr ⟨_, rfl, (by repeat first | exact VLe.refl _ | exact VLe.nil _ | exact VLe.untag _ _ _ | refine VLe.ag ?_ | refine VLe.tu ?_ | refine VLeL.cons ?_ ?_ | exact VLeL.nil), trivial⟩ | simp [get, Key.eq, ePairs_ok])) ?_)) fun j => ?_
    obtain ⟨j, hj10, hj⟩ := j
    dsimp only
    refine dw_seq (dw_seq ?_)
    have end_ : ¬ (j < l.length ∧ j < 10) → few9 l = true := fun h => by
      unfold few9
      rw [List.all_eq_true]
      intro p hp
      obtain ⟨i, hi, rfl⟩ := List.getElem_of_mem hp
      rw [List.length_take] at hi
      have := hj i (by omega) (by omega)
      simpa using this
    by_cases hlt : j < l.length
    · by_cases h10 : j < 10
      · have hjt : l[j] ∈ l.take 10 := by
          have : j < (l.take 10).length := by rw [List.length_take]; omega
          have h2 : (l.take 10)[j] = l[j] := by simp
          rw [← h2]; exact List.getElem_mem this
        have hF := lawFew_d [l[j].2] (by simp)
        have hq : (ePairs l).getD (j : Int).toNat [] = [.v (.int .i64 l[j].1), .sl 2 (eTys l[j].2.binds) none, .v (.int .i64 l[j].2.kind), .v (.int .i64 l[j].2.index), .sl 4 (eTms l[j].2.args) none] := by rw [Int.toNat_natCast, ePairs_getD l j hlt, ePair_eq]
        have hb : (0 : Int) ≤ (j : Int) ∧ (j : Int) < ((ePairs l).length : Int) := ⟨by omega, by rw [ePairs_len]; omega⟩
        have hs : ∀ g, VLe (.sl 4 [[.sl 2 (eTys l[j].2.binds) none, .v (.int .i64 l[j].2.kind), .v (.int .i64 l[j].2.index), .sl 4 (eTms l[j].2.args) none]] g) (.sl 4 (eTms [l[j].2]) none) := fun g => by
          rw [eTms, eTms, eTm_eq]; exact VLe.untag _ _ _
        refine dw_k [(7, .v (.bool true)), (10, .v (.bool true))] TL10_ok (by kernel_rfl) hnt (by kernel_rfl) (by simp; rfl) ?_
        intro K hK
        refine And.intro (dtrue (by rw [ePairs_len]; omega)) ?_
        refine And.intro (dtrue (by omega)) ?_
        refine hK _ _ ?_
        clear hK K
        refine dw_cond (t := true) rfl ?_
        rw [if_pos rfl]
        refine dw_skip ?_
        refine dw_seq (dw_block (dw_seq ?_))
        cases hf : fewB l[j].2 with
        | false =>
          have hn : few9 l = false := by
            unfold few9; rw [List.all_eq_false]; exact ⟨l[j], hjt, by rw [hf]; simp⟩
          rw [hn]
          simp only [List.all_cons, List.all_nil, Bool.and_true, hf] at hF
          refine dw_k [(16, .q [.v (.int .i64 l[j].1), .sl 2 (eTys l[j].2.binds) none, .v (.int .i64 l[j].2.kind), .v (.int .i64 l[j].2.index), .sl 4 (eTms l[j].2.args) none]), (19, .sl 4 (eTms [l[j].2]) none)] TL10_ok (by kernel_rfl) hnt (by kernel_rfl) (by simp; rfl) ?_
          intro K hK
          refine And.intro (hb) ?_
          refine And.intro (VLe.of_eq (by rw [hq])) ?_
          refine And.intro (hs _) ?_
          refine ⟨_, _, _, Or.inl (hF), by repeat first | exact trivial | refine And.intro ⟨rfl, rfl⟩ ?_, ?_⟩
          refine hK _ _ ?_
          clear hK K
          refine dw_cond (t := true) rfl ?_
          rw [if_pos rfl]
          refine dw_seq ?_
          refine dw_k [] TL10_ok (by kernel_rfl) hnt (by kernel_rfl) (by simp; rfl) ?_
          intro K hK
          refine hK _ _ ?_
          clear hK K
          refine dw_ret ?_
          exact retv (N := 0) (.inr rfl) rfl (VLe.refl _) trivial
        | true =>
          have hL := low_d [l[j].2] (by simp) (fun t ht => by simp at ht; subst ht; exact hw _ hjt hf)
          simp only [List.all_cons, List.all_nil, Bool.and_true, hf] at hF
          simp only [lowsB, Bool.and_true] at hL
          cases hlo : lowB l[j].2 with
          | false =>
            have hn : few9 l = false := by
              unfold few9; rw [List.all_eq_false]; exact ⟨l[j], hjt, by rw [hlo]; simp⟩
            rw [hn]
            rw [hlo] at hL
            refine dw_k [(16, .q [.v (.int .i64 l[j].1), .sl 2 (eTys l[j].2.binds) none, .v (.int .i64 l[j].2.kind), .v (.int .i64 l[j].2.index), .sl 4 (eTms l[j].2.args) none]), (19, .sl 4 (eTms [l[j].2]) none), (25, .q [.v (.int .i64 l[j].1), .sl 2 (eTys l[j].2.binds) none, .v (.int .i64 l[j].2.kind), .v (.int .i64 l[j].2.index), .sl 4 (eTms l[j].2.args) none]), (28, .sl 4 (eTms [l[j].2]) none)] TL10_ok (by kernel_rfl) hnt (by kernel_rfl) (by simp; rfl) ?_
            intro K hK
            refine And.intro (hb) ?_
            refine And.intro (VLe.of_eq (by rw [hq])) ?_
            refine And.intro (hs _) ?_
            refine ⟨_, _, _, Or.inl (hF), by repeat first | exact trivial | refine And.intro ⟨rfl, rfl⟩ ?_, ?_⟩
            refine And.intro (hb) ?_
            refine And.intro (VLe.of_eq (by rw [hq])) ?_
            refine And.intro (hs _) ?_
            refine ⟨_, _, _, Or.inl (hL), by repeat first | exact trivial | refine And.intro ⟨rfl, rfl⟩ ?_, ?_⟩
            refine hK _ _ ?_
            clear hK K
            refine dw_cond (t := true) rfl ?_
            rw [if_pos rfl]
            refine dw_seq ?_
            refine dw_k [] TL10_ok (by kernel_rfl) hnt (by kernel_rfl) (by simp; rfl) ?_
            intro K hK
            refine hK _ _ ?_
            clear hK K
            refine dw_ret ?_
            exact retv (N := 0) (.inr rfl) rfl (VLe.refl _) trivial
          | true =>
            rw [hlo] at hL
            refine dw_k [(16, .q [.v (.int .i64 l[j].1), .sl 2 (eTys l[j].2.binds) none, .v (.int .i64 l[j].2.kind), .v (.int .i64 l[j].2.index), .sl 4 (eTms l[j].2.args) none]), (19, .sl 4 (eTms [l[j].2]) none), (25, .q [.v (.int .i64 l[j].1), .sl 2 (eTys l[j].2.binds) none, .v (.int .i64 l[j].2.kind), .v (.int .i64 l[j].2.index), .sl 4 (eTms l[j].2.args) none]), (28, .sl 4 (eTms [l[j].2]) none)] TL10_ok (by kernel_rfl) hnt (by kernel_rfl) (by simp; rfl) ?_
            intro K hK
            refine And.intro (hb) ?_
            refine And.intro (VLe.of_eq (by rw [hq])) ?_
            refine And.intro (hs _) ?_
            refine ⟨_, _, _, Or.inl (hF), by repeat first | exact trivial | refine And.intro ⟨rfl, rfl⟩ ?_, ?_⟩
            refine And.intro (hb) ?_
            refine And.intro (VLe.of_eq (by rw [hq])) ?_
            refine And.intro (hs _) ?_
            refine ⟨_, _, _, Or.inl (hL), by repeat first | exact trivial | refine And.intro ⟨rfl, rfl⟩ ?_, ?_⟩
            refine hK _ _ ?_
            clear hK K
            refine dw_cond (t := false) rfl ?_
            rw [if_neg (by simp)]
            refine dw_skip ?_
            refine dw_k [(13, .v (.int .i64 ((j + 1 : Nat) : Int)))] TL10_ok (by kernel_rfl) hnt (by kernel_rfl) (by simp; rfl) ?_
            intro K hK
            refine And.intro (dintE (by rw [IntWalk.i64_in _ (by omega)]; omega)) ?_
            refine hK _ _ ?_
            clear hK K
            refine ⟨⟨j + 1, by omega, fun i h1 h2 => ?_⟩, by dsimp only; omega, (VS.toK (by first | omega | simp [hn0]) (by repeat first | exact trivial | refine And.intro (And.intro (by first | rfl | simp [D.ok, D.oks, D.okss, D.okm, eTm_ok, eTy_ok, eTys_ok, eTms_ok, upto, keyOk, ePairs_ok]) (by first | exact Or.inl rfl | exact Or.inr ⟨_, rfl, (by repeat first | exact VLe.refl _ | exact VLe.nil _ | exact VLe.untag _ _ _ | refine VLe.ag ?_ | refine VLe.tu ?_ | refine VLeL.cons ?_ ?_ | exact VLeL.nil), trivial⟩ | simp [get, Key.eq, ePairs_ok])) ?_))⟩
            by_cases he : i = j
            · subst he; rw [hf, hlo]; rfl
            · exact hj i h1 (by omega)
      · rw [end_ (fun h => h10 h.2)]
        refine dw_k [(7, .v (.bool true)), (10, .v (.bool false))] TL10_ok (by kernel_rfl) hnt (by kernel_rfl) (by simp; rfl) ?_
        intro K hK
        refine And.intro (dtrue (by rw [ePairs_len]; omega)) ?_
        refine And.intro (dfalse (by omega)) ?_
        refine hK _ _ ?_
        clear hK K
        refine dw_cond (t := false) rfl ?_
        rw [if_neg (by simp)]
        refine dw_exit ?_
        refine dw_seq ?_
        refine dw_k [] TL10_ok (by kernel_rfl) hnt (by kernel_rfl) (by simp; rfl) ?_
        intro K hK
        refine hK _ _ ?_
        clear hK K
        refine dw_ret ?_
        exact retv (N := 0) (.inr rfl) rfl (VLe.refl _) trivial
    · rw [end_ (fun h => hlt h.1)]
      refine dw_k [(7, .v (.bool false))] TL10_ok (by kernel_rfl) hnt (by kernel_rfl) (by simp; rfl) ?_
      intro K hK
      refine And.intro (dfalse (by rw [ePairs_len]; omega)) ?_
      refine hK _ _ ?_
      clear hK K
      refine dw_cond (t := false) rfl ?_
      rw [if_neg (by simp)]
      refine dw_exit ?_
      refine dw_seq ?_
      refine dw_k [] TL10_ok (by kernel_rfl) hnt (by kernel_rfl) (by simp; rfl) ?_
      intro K hK
      refine hK _ _ ?_
      clear hK K
      refine dw_ret ?_
      exact retv (N := 0) (.inr rfl) rfl (VLe.refl _) trivial
end Go.Proofs.YtiblklcfjakjmaaGreat

namespace Go.Proofs.YtiblklcfjakjmaaGreat
open Go.RowKit

def headTy (C M X : List Ty) (k i : Int) : Option Ty :=
  if i < 0 then none else if k = 0 then X.reverse[i.toNat]? else if k = 1 then C[i.toNat]? else if k = 2 then M[i.toNat]? else none
end Go.Proofs.YtiblklcfjakjmaaGreat

namespace Go.Proofs.YtiblklcfjakjmaaGreat
open Go.RowKit

theorem IsSl.bel {α : Type} {r : Rp α} {F : Nat → Prop} {w w' : World} {v : Value} {l : List α} (h : IsSl r F w v l) (hb : Below w.heap.size w w') : IsSl r F w' v l := h.keep ((Keep.refl _ _).below hb)
end Go.Proofs.YtiblklcfjakjmaaGreat

namespace Go.Proofs.YtiblklcfjakjmaaGreat
open Go.RowKit

end Go.Proofs.YtiblklcfjakjmaaGreat

namespace Go.Proofs.YtiblklcfjakjmaaGreat
open Go.RowKit

end Go.Proofs.YtiblklcfjakjmaaGreat

namespace Go.Proofs.YtiblklcfjakjmaaGreat
open Go.RowKit

end Go.Proofs.YtiblklcfjakjmaaGreat

namespace Go.Proofs.YtiblklcfjakjmaaGreat
open Go.RowKit

end Go.Proofs.YtiblklcfjakjmaaGreat

namespace Go.Proofs.YtiblklcfjakjmaaGreat
open Go.RowKit

def sgn (x y : Int) : Int := if x < y then -1 else if y < x then 1 else 0
def orl (a b : Int) : Int := if a = 0 then b else a
@[simp] theorem orl_zero (b : Int) : orl 0 b = b := by simp [orl]
@[simp] theorem orl_zero_right (a : Int) : orl a 0 = a := by unfold orl; split <;> simp_all
namespace Ty
mutual
def cmp : Ty → Ty → Int
  | .mk l b, .mk l' b' => orl (orl (orl (sgn (Ty.sizes l + 1 : Nat) (Ty.sizes l' + 1 : Nat)) (sgn (l.length : Nat) (l'.length : Nat))) (cmps l l')) (sgn b b')
def cmps : List Ty → List Ty → Int
  | [], _ => 0
  | _ :: _, [] => 0
  | t :: l, u :: l' => orl (cmp t u) (cmps l l')
end
@[simp] theorem cmps_nil (l : List Ty) : cmps [] l = 0 := by rw [cmps]

end Ty
end Go.Proofs.YtiblklcfjakjmaaGreat

namespace Go.Proofs.YtiblklcfjakjmaaGreat
open Go.RowKit

namespace Tm
def cmpB (l l' : List Ty) : Int := orl (sgn (l.length : Nat) (l'.length : Nat)) (Ty.cmps l l')
mutual
def cmp : Tm → Tm → Int
  | .mk b k i a, .mk b' k' i' a' => orl (sgn (Tm.sizes a + 1 : Nat) (Tm.sizes a' + 1 : Nat)) (orl (cmpB b b') (orl (sgn k k') (orl (sgn i i') (orl (sgn (a.length : Nat) (a'.length : Nat)) (cmps a a')))))
def cmps : List Tm → List Tm → Int
  | [], _ => 0
  | _ :: _, [] => 0
  | t :: l, u :: l' => orl (cmp t u) (cmps l l')
end
@[simp] theorem cmps_nil (l : List Tm) : cmps [] l = 0 := by rw [cmps]
end Tm
end Go.Proofs.YtiblklcfjakjmaaGreat

namespace Go.Proofs.YtiblklcfjakjmaaGreat
open Go.RowKit

end Go.Proofs.YtiblklcfjakjmaaGreat

namespace Go.Proofs.YtiblklcfjakjmaaGreat
open Go.RowKit

namespace Ty
end Ty

end Go.Proofs.YtiblklcfjakjmaaGreat

namespace Go.Proofs.YtiblklcfjakjmaaGreat
open Go.RowKit

end Go.Proofs.YtiblklcfjakjmaaGreat

namespace Go.Proofs.YtiblklcfjakjmaaGreat
open Go.RowKit

mutual
def IsOf (C M : List Ty) : Tm → List Ty → Ty → Prop
  | .mk b k i a, X, u => b = u.args ∧ ∃ h, headTy C M (X ++ b) k i = some h ∧ h.base = u.base ∧ IsOfs C M a (X ++ b) h.args
def IsOfs (C M : List Ty) : List Tm → List Ty → List Ty → Prop
  | [], _, [] => True
  | [], _, _ :: _ => False
  | _ :: _, _, [] => False
  | t :: l, X, u :: l' => IsOf C M t X u ∧ IsOfs C M l X l'
end
end Go.Proofs.YtiblklcfjakjmaaGreat

namespace Go.Proofs.YtiblklcfjakjmaaGreat
open Go.RowKit

end Go.Proofs.YtiblklcfjakjmaaGreat

namespace Go.Proofs.YtiblklcfjakjmaaGreat
open Go.RowKit

end Go.Proofs.YtiblklcfjakjmaaGreat

namespace Go.Proofs.YtiblklcfjakjmaaGreat
open Go.RowKit

end Go.Proofs.YtiblklcfjakjmaaGreat

namespace Go.Proofs.YtiblklcfjakjmaaGreat
open Go.RowKit

end Go.Proofs.YtiblklcfjakjmaaGreat

namespace Go.Proofs.YtiblklcfjakjmaaGreat
open Go.RowKit

end Go.Proofs.YtiblklcfjakjmaaGreat

namespace Go.Proofs.YtiblklcfjakjmaaGreat
open Go.RowKit

section
variable {w : World} {b : Int} {cv mv xv tb tk ti ta s ub : Value} {C M X : List Ty} {t : Tm} {u : Ty}
end
end Go.Proofs.YtiblklcfjakjmaaGreat

namespace Go.Proofs.YtiblklcfjakjmaaGreat
open Go.RowKit

def TC9_3 : TI := ⟨1, false, [Value.int IntKind.i64 0], [], none, 8, 2, none, false⟩
theorem TC9_3_ok : TypOk Tryz.prog 3 TC9_3 := ⟨by kernel_rfl, by kernel_rfl, by kernel_rfl, by kernel_rfl, by kernel_rfl⟩
def TC9_104 : TI := ⟨2, true, [Value.slice none 0 0, Value.int IntKind.i64 0], [(0, 1, false), (1, 1, false)], none, 32, 6, none, false⟩
theorem TC9_104_ok : TypOk Tryz.prog 104 TC9_104 := ⟨by kernel_rfl, by kernel_rfl, by kernel_rfl, by kernel_rfl, by kernel_rfl⟩
def TC9_44 : TI := ⟨2, true, [Value.int IntKind.i64 0, Value.int IntKind.i64 0], [(0, 1, false), (1, 1, false)], none, 16, 6, none, false⟩
theorem TC9_44_ok : TypOk Tryz.prog 44 TC9_44 := ⟨by kernel_rfl, by kernel_rfl, by kernel_rfl, by kernel_rfl, by kernel_rfl⟩
def TC9_22 : TI := ⟨1, false, [Value.slice none 0 0], [], some 104, 24, 5, none, false⟩
theorem TC9_22_ok : TypOk Tryz.prog 22 TC9_22 := ⟨by kernel_rfl, by kernel_rfl, by kernel_rfl, by kernel_rfl, by kernel_rfl⟩
def TC9_24 : TI := ⟨3, true, [Value.int IntKind.i64 0, Value.slice none 0 0, Value.slice none 0 0], [(0, 1, false), (1, 1, false), (2, 1, false)], none, 56, 6, none, false⟩
theorem TC9_24_ok : TypOk Tryz.prog 24 TC9_24 := ⟨by kernel_rfl, by kernel_rfl, by kernel_rfl, by kernel_rfl, by kernel_rfl⟩
def TC9_25 : TI := ⟨1, false, [Value.slice none 0 0], [], some 63, 24, 5, none, false⟩
theorem TC9_25_ok : TypOk Tryz.prog 25 TC9_25 := ⟨by kernel_rfl, by kernel_rfl, by kernel_rfl, by kernel_rfl, by kernel_rfl⟩
def TC9_36 : TI := ⟨3, true, [Value.int IntKind.i64 0, Value.slice none 0 0, Value.slice none 0 0], [(0, 1, false), (1, 1, false), (2, 1, false)], none, 56, 6, none, false⟩
theorem TC9_36_ok : TypOk Tryz.prog 36 TC9_36 := ⟨by kernel_rfl, by kernel_rfl, by kernel_rfl, by kernel_rfl, by kernel_rfl⟩
def TC9_99 : TI := ⟨5, true, [Value.int IntKind.i64 0, Value.slice none 0 0, Value.int IntKind.i64 0, Value.int IntKind.i64 0, Value.slice none 0 0], [(0, 1, false), (1, 4, true)], none, 72, 6, none, false⟩
theorem TC9_99_ok : TypOk Tryz.prog 99 TC9_99 := ⟨by kernel_rfl, by kernel_rfl, by kernel_rfl, by kernel_rfl, by kernel_rfl⟩
def TC9_77 : TI := ⟨2, true, [Value.slice none 0 0, Value.int IntKind.i64 0], [(0, 1, false), (1, 1, false)], none, 32, 6, none, false⟩
theorem TC9_77_ok : TypOk Tryz.prog 77 TC9_77 := ⟨by kernel_rfl, by kernel_rfl, by kernel_rfl, by kernel_rfl, by kernel_rfl⟩
def TC9_63 : TI := ⟨5, true, [Value.int IntKind.i64 0, Value.slice none 0 0, Value.int IntKind.i64 0, Value.int IntKind.i64 0, Value.slice none 0 0], [(0, 1, false), (1, 4, true)], none, 72, 6, none, false⟩
theorem TC9_63_ok : TypOk Tryz.prog 63 TC9_63 := ⟨by kernel_rfl, by kernel_rfl, by kernel_rfl, by kernel_rfl, by kernel_rfl⟩
def TC9_30 : TI := ⟨1, false, [Value.slice none 0 0], [], some 99, 24, 5, none, false⟩
theorem TC9_30_ok : TypOk Tryz.prog 30 TC9_30 := ⟨by kernel_rfl, by kernel_rfl, by kernel_rfl, by kernel_rfl, by kernel_rfl⟩
def TC9_49 : TI := ⟨2, true, [Value.int IntKind.i64 0, Value.int IntKind.i64 0], [(0, 1, false), (1, 1, false)], none, 16, 6, none, false⟩
theorem TC9_49_ok : TypOk Tryz.prog 49 TC9_49 := ⟨by kernel_rfl, by kernel_rfl, by kernel_rfl, by kernel_rfl, by kernel_rfl⟩
def TC9_52 : TI := ⟨4, true, [Value.slice none 0 0, Value.int IntKind.i64 0, Value.int IntKind.i64 0, Value.slice none 0 0], [(0, 1, false), (1, 2, true), (3, 1, false)], none, 64, 6, none, false⟩
theorem TC9_52_ok : TypOk Tryz.prog 52 TC9_52 := ⟨by kernel_rfl, by kernel_rfl, by kernel_rfl, by kernel_rfl, by kernel_rfl⟩
def TC9_32 : TI := ⟨1, false, [Value.int IntKind.i64 0], [], none, 8, 2, none, false⟩
theorem TC9_32_ok : TypOk Tryz.prog 32 TC9_32 := ⟨by kernel_rfl, by kernel_rfl, by kernel_rfl, by kernel_rfl, by kernel_rfl⟩
def TC9_34 : TI := ⟨1, false, [Value.slice none 0 0], [], some 77, 24, 5, none, false⟩
theorem TC9_34_ok : TypOk Tryz.prog 34 TC9_34 := ⟨by kernel_rfl, by kernel_rfl, by kernel_rfl, by kernel_rfl, by kernel_rfl⟩
def TC9_47 : TI := ⟨4, true, [Value.slice none 0 0, Value.int IntKind.i64 0, Value.int IntKind.i64 0, Value.slice none 0 0], [(0, 1, false), (1, 2, true), (3, 1, false)], none, 64, 6, none, false⟩
theorem TC9_47_ok : TypOk Tryz.prog 47 TC9_47 := ⟨by kernel_rfl, by kernel_rfl, by kernel_rfl, by kernel_rfl, by kernel_rfl⟩
def TC9 : List (Nat × TI) := [(3, TC9_3), (104, TC9_104), (44, TC9_44), (22, TC9_22), (24, TC9_24), (25, TC9_25), (36, TC9_36), (99, TC9_99), (77, TC9_77), (63, TC9_63), (30, TC9_30), (49, TC9_49), (52, TC9_52), (32, TC9_32), (34, TC9_34), (47, TC9_47)]
theorem TC9_ok : TabOk Tryz.prog TC9 := (((((((((((((((((TabOk.nil _).cons TC9_47_ok).cons TC9_34_ok).cons TC9_32_ok).cons TC9_52_ok).cons TC9_49_ok).cons TC9_30_ok).cons TC9_63_ok).cons TC9_77_ok).cons TC9_99_ok).cons TC9_36_ok).cons TC9_25_ok).cons TC9_24_ok).cons TC9_22_ok).cons TC9_44_ok).cons TC9_104_ok).cons TC9_3_ok)
set_option maxHeartbeats 1000000 in
theorem rright_d (l : List (Int × Tm)) (hl : l.length ≤ 1000000) : PureC Tryz.prog 22 [.sl 5 (ePairs l) none] (.v (.bool (Sb.right l))) := by
  refine call_of_dw 0 22 [ResultVar.tmp 2] TC9_ok (by kernel_rfl) Tryz.func22 rfl Tryz.ntmps22 rfl (by simp) ?dwords ?dbody
  case dwords => simp [wordsOk, D.ok, D.oks, rnames, ePairs_ok]
  case dbody =>
    intro cx hnt hn0
    refine dw_seq ?_
    refine dw_k [] TC9_ok (by kernel_rfl) hnt (by kernel_rfl) (by simp; rfl) ?_
    intro K hK
    refine hK _ _ ?_
    clear hK K
    refine dw_seq (dw_seq ?_)
    refine dw_k [] TC9_ok (by kernel_rfl) hnt (by kernel_rfl) (by simp; rfl) ?_
    intro K hK
    refine hK _ _ ?_
    clear hK K
    refine dw_block ?_
    refine dw_loop (ι := { j : Nat // ∀ i (_ : 0 < i) (h2 : i < l.length), i < j + 1 → (l[i - 1]'(by omega)).1 < l[i].1 }) (fun j => [(.t 0, .sl 5 (ePairs l) none), (.t 3, .v (.int .i64 ((j.1 : Int) + 1)))]) 2 (fun j => l.length - j.1) ⟨0, fun i h1 h2 h3 => by omega⟩ (VS.toK (by first | omega | simp [hn0]) (by repeat first | exact trivial | refine And.intro (And.intro (by first | rfl | simp [D.ok, D.oks, D.okss, D.okm, eTm_ok, eTy_ok, eTys_ok, eTms_ok, upto, keyOk, ePairs_ok]) (by first | exact Or.inl rfl | exact Or.inr ⟨_, rfl, (by repeat first | exact VLe.refl _ | exact VLe.nil _ | exact VLe.untag _ _ _ | refine VLe.ag ?_ | refine VLe.tu ?_ | refine VLeL.cons ?_ ?_ | exact VLeL.nil), trivial⟩ | simp [get, Key.eq, ePairs_ok])) ?_)) fun j => ?_
    obtain ⟨j, hj⟩ := j
    dsimp only
    refine dw_seq (dw_seq ?_)
    by_cases hlt : j + 1 < l.length
    · skip
      refine dw_k [(7, .v (.bool true))] TC9_ok (by kernel_rfl) hnt (by kernel_rfl) (by simp; rfl) ?_
      intro K hK
      refine And.intro (dtrue (by rw [ePairs_len]; omega)) ?_
      refine hK _ _ ?_
      clear hK K
      refine dw_cond (t := true) rfl ?_
      rw [if_pos rfl]
      refine dw_skip ?_
      refine dw_seq (dw_block (dw_seq ?_))
      by_cases hc : l[j].1 < l[j + 1].1
      · skip
        refine dw_kD [(12, .v (.int .i64 (j : Int))), (13, .q [.v (.int .i64 l[j].1), .sl 2 (eTys l[j].2.binds) none, .v (.int .i64 l[j].2.kind), .v (.int .i64 l[j].2.index), .sl 4 (eTms l[j].2.args) none]), (18, .q [.v (.int .i64 l[j + 1].1), .sl 2 (eTys l[j + 1].2.binds) none, .v (.int .i64 l[j + 1].2.kind), .v (.int .i64 l[j + 1].2.index), .sl 4 (eTms l[j + 1].2.args) none]), (21, .v (.bool false))] TC9_ok (by kernel_rfl) hnt (by kernel_rfl) (by simp; rfl) ?_
        intro K hK
        refine And.intro (dintE (by rw [IntWalk.i64_in _ (by omega)]; omega)) ?_
        refine And.intro (⟨by omega, by rw [ePairs_len]; omega⟩) ?_
        refine And.intro (VLe.of_eq (by rw [Int.toNat_natCast, ePairs_getD l j (by omega), ePair_eq])) ?_
        refine And.intro (⟨by omega, by rw [ePairs_len]; omega⟩) ?_
        refine And.intro (VLe.of_eq (by rw [show ((j : Int) + 1).toNat = j + 1 by omega, ePairs_getD l (j + 1) hlt, ePair_eq])) ?_
        refine And.intro (dfalse (by omega)) ?_
        refine hK _ _ (by kernel_rfl) ?_
        clear hK K
        refine dw_cond (t := false) rfl ?_
        rw [if_neg (by simp)]
        refine dw_skip ?_
        refine dw_k [(9, .v (.int .i64 (((j + 1 : Nat) : Int) + 1)))] TC9_ok (by kernel_rfl) hnt (by kernel_rfl) (by simp; rfl) ?_
        intro K hK
        refine And.intro (dintE (by rw [IntWalk.i64_in _ (by omega)]; omega)) ?_
        refine hK _ _ ?_
        clear hK K
        refine ⟨⟨j + 1, fun i h1 h2 h3 => ?_⟩, by dsimp only; omega, (VS.toK (by first | omega | simp [hn0]) (by repeat first | exact trivial | refine And.intro (And.intro (by first | rfl | simp [D.ok, D.oks, D.okss, D.okm, eTm_ok, eTy_ok, eTys_ok, eTms_ok, upto, keyOk, ePairs_ok]) (by first | exact Or.inl rfl | exact Or.inr ⟨_, rfl, (by repeat first | exact VLe.refl _ | exact VLe.nil _ | exact VLe.untag _ _ _ | refine VLe.ag ?_ | refine VLe.tu ?_ | refine VLeL.cons ?_ ?_ | exact VLeL.nil), trivial⟩ | simp [get, Key.eq, ePairs_ok])) ?_))⟩
        by_cases he : i = j + 1
        · subst he; simpa using hc
        · exact hj i h1 h2 (by omega)
      · have hr : Sb.right l = false := not_right (i := j + 1) (by omega) hlt (by simpa using hc)
        rw [hr]
        refine dw_kD [(12, .v (.int .i64 (j : Int))), (13, .q [.v (.int .i64 l[j].1), .sl 2 (eTys l[j].2.binds) none, .v (.int .i64 l[j].2.kind), .v (.int .i64 l[j].2.index), .sl 4 (eTms l[j].2.args) none]), (18, .q [.v (.int .i64 l[j + 1].1), .sl 2 (eTys l[j + 1].2.binds) none, .v (.int .i64 l[j + 1].2.kind), .v (.int .i64 l[j + 1].2.index), .sl 4 (eTms l[j + 1].2.args) none]), (21, .v (.bool true))] TC9_ok (by kernel_rfl) hnt (by kernel_rfl) (by simp; rfl) ?_
        intro K hK
        refine And.intro (dintE (by rw [IntWalk.i64_in _ (by omega)]; omega)) ?_
        refine And.intro (⟨by omega, by rw [ePairs_len]; omega⟩) ?_
        refine And.intro (VLe.of_eq (by rw [Int.toNat_natCast, ePairs_getD l j (by omega), ePair_eq])) ?_
        refine And.intro (⟨by omega, by rw [ePairs_len]; omega⟩) ?_
        refine And.intro (VLe.of_eq (by rw [show ((j : Int) + 1).toNat = j + 1 by omega, ePairs_getD l (j + 1) hlt, ePair_eq])) ?_
        refine And.intro (dtrue (by omega)) ?_
        refine hK _ _ (by kernel_rfl) ?_
        clear hK K
        refine dw_cond (t := true) rfl ?_
        rw [if_pos rfl]
        refine dw_seq ?_
        refine dw_k [] TC9_ok (by kernel_rfl) hnt (by kernel_rfl) (by simp; rfl) ?_
        intro K hK
        refine hK _ _ ?_
        clear hK K
        refine dw_ret ?_
        exact retv (N := 0) (.inr rfl) rfl (VLe.refl _) trivial
    · have hr : Sb.right l = true := right_of fun i h1 h2 => hj i h1 h2 (by omega)
      rw [hr]
      refine dw_k [(7, .v (.bool false))] TC9_ok (by kernel_rfl) hnt (by kernel_rfl) (by simp; rfl) ?_
      intro K hK
      refine And.intro (dfalse (by rw [ePairs_len]; omega)) ?_
      refine hK _ _ ?_
      clear hK K
      refine dw_cond (t := false) rfl ?_
      rw [if_neg (by simp)]
      refine dw_exit ?_
      refine dw_seq ?_
      refine dw_k [] TC9_ok (by kernel_rfl) hnt (by kernel_rfl) (by simp; rfl) ?_
      intro K hK
      refine hK _ _ ?_
      clear hK K
      refine dw_ret ?_
      exact retv (N := 0) (.inr rfl) rfl (VLe.refl _) trivial
end Go.Proofs.YtiblklcfjakjmaaGreat

namespace Go.Proofs.YtiblklcfjakjmaaGreat
open Go.RowKit
end Go.Proofs.YtiblklcfjakjmaaGreat

namespace Go.Proofs.YtiblklcfjakjmaaGreat
open Go.RowKit
def TS2_52 : TI := ⟨4, true, [Value.slice none 0 0, Value.int IntKind.i64 0, Value.int IntKind.i64 0, Value.slice none 0 0], [(0, 1, false), (1, 2, true), (3, 1, false)], none, 64, 6, none, false⟩
theorem TS2_52_ok : TypOk Tryz.prog 52 TS2_52 := ⟨by kernel_rfl, by kernel_rfl, by kernel_rfl, by kernel_rfl, by kernel_rfl⟩
def TS2_140 : TI := ⟨3, true, [Value.pointer none, Value.slice none 0 0, Value.int IntKind.i64 0], [(0, 1, false), (1, 1, false), (2, 1, false)], none, 40, 6, none, false⟩
theorem TS2_140_ok : TypOk Tryz.prog 140 TS2_140 := ⟨by kernel_rfl, by kernel_rfl, by kernel_rfl, by kernel_rfl, by kernel_rfl⟩
def TS2_32 : TI := ⟨1, false, [Value.int IntKind.i64 0], [], none, 8, 2, none, false⟩
theorem TS2_32_ok : TypOk Tryz.prog 32 TS2_32 := ⟨by kernel_rfl, by kernel_rfl, by kernel_rfl, by kernel_rfl, by kernel_rfl⟩
def TS2_3 : TI := ⟨1, false, [Value.int IntKind.i64 0], [], none, 8, 2, none, false⟩
theorem TS2_3_ok : TypOk Tryz.prog 3 TS2_3 := ⟨by kernel_rfl, by kernel_rfl, by kernel_rfl, by kernel_rfl, by kernel_rfl⟩
def TS2_50 : TI := ⟨1, false, [Value.slice none 0 0], [], some 52, 24, 5, none, false⟩
theorem TS2_50_ok : TypOk Tryz.prog 50 TS2_50 := ⟨by kernel_rfl, by kernel_rfl, by kernel_rfl, by kernel_rfl, by kernel_rfl⟩
def TS2_34 : TI := ⟨1, false, [Value.slice none 0 0], [], some 77, 24, 5, none, false⟩
theorem TS2_34_ok : TypOk Tryz.prog 34 TS2_34 := ⟨by kernel_rfl, by kernel_rfl, by kernel_rfl, by kernel_rfl, by kernel_rfl⟩
def TS2_85 : TI := ⟨1, false, [Value.pointer none], [], none, 8, 4, none, false⟩
theorem TS2_85_ok : TypOk Tryz.prog 85 TS2_85 := ⟨by kernel_rfl, by kernel_rfl, by kernel_rfl, by kernel_rfl, by kernel_rfl⟩
def TS2_49 : TI := ⟨2, true, [Value.int IntKind.i64 0, Value.int IntKind.i64 0], [(0, 1, false), (1, 1, false)], none, 16, 6, none, false⟩
theorem TS2_49_ok : TypOk Tryz.prog 49 TS2_49 := ⟨by kernel_rfl, by kernel_rfl, by kernel_rfl, by kernel_rfl, by kernel_rfl⟩
def TS2_30 : TI := ⟨1, false, [Value.slice none 0 0], [], some 99, 24, 5, none, false⟩
theorem TS2_30_ok : TypOk Tryz.prog 30 TS2_30 := ⟨by kernel_rfl, by kernel_rfl, by kernel_rfl, by kernel_rfl, by kernel_rfl⟩
def TS2_138 : TI := ⟨1, false, [Value.pointer none], [], none, 8, 4, none, false⟩
theorem TS2_138_ok : TypOk Tryz.prog 138 TS2_138 := ⟨by kernel_rfl, by kernel_rfl, by kernel_rfl, by kernel_rfl, by kernel_rfl⟩
def TS2_99 : TI := ⟨5, true, [Value.int IntKind.i64 0, Value.slice none 0 0, Value.int IntKind.i64 0, Value.int IntKind.i64 0, Value.slice none 0 0], [(0, 1, false), (1, 4, true)], none, 72, 6, none, false⟩
theorem TS2_99_ok : TypOk Tryz.prog 99 TS2_99 := ⟨by kernel_rfl, by kernel_rfl, by kernel_rfl, by kernel_rfl, by kernel_rfl⟩
def TS2_112 : TI := ⟨1, false, [Value.pointer none], [], none, 8, 4, none, false⟩
theorem TS2_112_ok : TypOk Tryz.prog 112 TS2_112 := ⟨by kernel_rfl, by kernel_rfl, by kernel_rfl, by kernel_rfl, by kernel_rfl⟩
def TS2_77 : TI := ⟨2, true, [Value.slice none 0 0, Value.int IntKind.i64 0], [(0, 1, false), (1, 1, false)], none, 32, 6, none, false⟩
theorem TS2_77_ok : TypOk Tryz.prog 77 TS2_77 := ⟨by kernel_rfl, by kernel_rfl, by kernel_rfl, by kernel_rfl, by kernel_rfl⟩
def TS2 : List (Nat × TI) := [(52, TS2_52), (140, TS2_140), (32, TS2_32), (3, TS2_3), (50, TS2_50), (34, TS2_34), (85, TS2_85), (49, TS2_49), (30, TS2_30), (138, TS2_138), (99, TS2_99), (112, TS2_112), (77, TS2_77)]
theorem TS2_ok : TabOk Tryz.prog TS2 := ((((((((((((((TabOk.nil _).cons TS2_77_ok).cons TS2_112_ok).cons TS2_99_ok).cons TS2_138_ok).cons TS2_30_ok).cons TS2_49_ok).cons TS2_85_ok).cons TS2_34_ok).cons TS2_50_ok).cons TS2_3_ok).cons TS2_32_ok).cons TS2_140_ok).cons TS2_52_ok)

def swE (l : List (Int × Tm)) (s : Nm.St) : List (Key × D) := [(.c 0 0, .o 1), (.c 0 1, .sl 5 (ePairs l) none), (.c 0 2, .v (.int .i64 s.e)), (.o 1, .ob (BudJ s.left s.dry))]
theorem replaced_d (l : List (Int × Tm)) (t u : Tm) (s : Nm.St) (h0 : 0 ≤ s.left) (h1 : s.left ≤ 1000000000) (hu : Wide u) (ha : ∀ a ∈ t.args, Wide a)
    (ho : u.binds.length = t.args.length → (Nm.put 100001 u t.args ⟨s.left, s.dry, 0, 0⟩).2.e = 0 → DoneOk (Nm.put 100001 u t.args ⟨s.left, s.dry, 0, 0⟩).1) (he : s.e = 0) :
    CallC Tryz.prog 118 [.p 0 0, .ag (eTm t), .ag (eTm u)] (swE l s) (swE l (Sb.replaced t u s).2) (.ag (eTm (Sb.replaced t u s).1)) := by
  have hP := Put_d u t.args s.left s.dry h0 h1 hu ha
  obtain ⟨left, dry, count, er⟩ := s
  dsimp only at he h0 h1 ho hP
  subst he
  obtain ⟨bs, k, i, a⟩ := t
  dsimp only [Tm.args] at ho hP ha
  obtain ⟨p, hp⟩ : ∃ p, Sb.replaced (.mk bs k i a) u ⟨left, dry, count, 0⟩ = p := ⟨_, rfl⟩
  rw [hp]
  have hpd := hp.symm
  clear hp
  have hp1 : u.binds.length ≠ a.length → p = (Nm.tz, ⟨left, dry, count, 1⟩) := fun h => hpd.trans (if_pos h)
  have hp2 : u.binds.length = a.length → p = if (Nm.Put u a left dry).2.e ≠ 0 then (Nm.tz, ⟨(Nm.Put u a left dry).2.left, (Nm.Put u a left dry).2.dry, count, (Nm.Put u a left dry).2.e⟩) else (.mk bs (Nm.Put u a left dry).1.kind (Nm.Put u a left dry).1.index (Nm.Put u a left dry).1.args, ⟨(Nm.Put u a left dry).2.left, (Nm.Put u a left dry).2.dry, count, 0⟩) := fun h => hpd.trans (if_neg (fun h' => h' h))
  clear hpd
  obtain ⟨ub, uk, ui, ua⟩ := u
  rw [eTm_eq, eTm_eq (.mk ub uk ui ua)]
  dsimp only [Tm.binds] at hp1 hp2 ho
  refine call_of_dw 2 42 [ResultVar.cell 6 52] TS2_ok (by kernel_rfl) Tryz.func118 rfl Tryz.ntmps118 rfl (by simp) ?dwords ?dbody
  case dwords => simp [wordsOk, swE, D.ok, D.oks, rnames, inN, ckey, eTm_ok, eTms_ok, eTys_ok, ePairs_ok]
  case dbody =>
    intro cx hnt hn0
    dsimp only [Tm.binds, Tm.kind, Tm.index, Tm.args]
    refine dw_seq ?_
    refine dw_k [] TS2_ok (by kernel_rfl) hnt (by kernel_rfl) (by simp; rfl) ?_
    intro K hK
    refine hK _ _ ?_
    clear hK K
    refine dw_seq (dw_seq ?_)
    by_cases hl : ub.length = a.length
    · have hpd := hp2 hl
      have hP := hP (ho hl)
      obtain ⟨r, hr⟩ : ∃ r, Nm.Put (.mk ub uk ui ua) a left dry = r := ⟨_, rfl⟩
      rw [hr] at hP hpd
      clear hr
      obtain ⟨rt, rs⟩ := r
      dsimp only at hP hpd
      rw [eTm_eq, eTm_eq rt] at hP
      refine dw_k [(15, .v (.bool false))] TS2_ok (by kernel_rfl) hnt (by kernel_rfl) (by simp; rfl) ?_
      intro K hK
      refine And.intro (VLe.of_eq (by simp [eTys_len, eTms_len, hl])) ?_
      refine hK _ _ ?_
      clear hK K
      refine dw_cond (t := false) rfl ?_
      rw [if_neg (by simp)]
      refine dw_skip ?_
      refine dw_seq ?_
      refine dw_kD [] TS2_ok (by kernel_rfl) hnt (by kernel_rfl) (by simp; rfl) ?_
      intro K hK
      refine ⟨_, _, _, Or.inl (hP), by repeat first | exact trivial | refine And.intro ⟨rfl, rfl⟩ ?_, ?_⟩
      refine hK _ _ (by kernel_rfl) ?_
      clear hK K
      refine dw_seq (dw_seq ?_)
      by_cases hre : rs.e = 0
      · rw [if_neg (by simp [hre])] at hpd
        subst hpd
        refine dw_k [(32, .v (.bool false))] TS2_ok (by kernel_rfl) hnt (by kernel_rfl) (by simp; rfl) ?_
        intro K hK
        refine And.intro (VLe.of_eq (by simp [hre])) ?_
        refine hK _ _ ?_
        clear hK K
        refine dw_cond (t := false) rfl ?_
        rw [if_neg (by simp)]
        refine dw_skip ?_
        refine dw_seq ?_
        refine dw_k [] TS2_ok (by kernel_rfl) hnt (by kernel_rfl) (by simp; rfl) ?_
        intro K hK
        refine hK _ _ ?_
        clear hK K
        refine dw_seq ?_
        refine dw_k [] TS2_ok (by kernel_rfl) hnt (by kernel_rfl) (by simp; rfl) ?_
        intro K hK
        refine hK _ _ ?_
        clear hK K
        refine dw_ret ?_
        rw [eTm_eq]
        exact retv (N := 0) (.inr rfl) rfl (by repeat first | exact VLe.refl _ | exact VLe.nil _ | exact VLe.untag _ _ _ | refine VLe.ag ?_ | refine VLe.tu ?_ | refine VLeL.cons ?_ ?_ | exact VLeL.nil) (by repeat first | exact trivial | refine And.intro rfl ?_)
      · rw [if_pos hre] at hpd
        subst hpd
        refine dw_k [(32, .v (.bool true))] TS2_ok (by kernel_rfl) hnt (by kernel_rfl) (by simp; rfl) ?_
        intro K hK
        refine And.intro (VLe.of_eq (by simp [hre])) ?_
        refine hK _ _ ?_
        clear hK K
        refine dw_cond (t := true) rfl ?_
        rw [if_pos rfl]
        refine dw_seq ?_
        refine dw_k [] TS2_ok (by kernel_rfl) hnt (by kernel_rfl) (by simp; rfl) ?_
        intro K hK
        refine hK _ _ ?_
        clear hK K
        refine dw_seq ?_
        refine dw_k [] TS2_ok (by kernel_rfl) hnt (by kernel_rfl) (by simp; rfl) ?_
        intro K hK
        refine hK _ _ ?_
        clear hK K
        refine dw_ret ?_
        rw [tz_eq]
        exact retv (N := 0) (.inr rfl) rfl (by repeat first | exact VLe.refl _ | exact VLe.nil _ | exact VLe.untag _ _ _ | refine VLe.ag ?_ | refine VLe.tu ?_ | refine VLeL.cons ?_ ?_ | exact VLeL.nil) (by repeat first | exact trivial | refine And.intro rfl ?_)
    · have hpd := hp1 hl
      subst hpd
      refine dw_k [(15, .v (.bool true))] TS2_ok (by kernel_rfl) hnt (by kernel_rfl) (by simp; rfl) ?_
      intro K hK
      refine And.intro (VLe.of_eq (by simp [eTys_len, eTms_len]; omega)) ?_
      refine hK _ _ ?_
      clear hK K
      refine dw_cond (t := true) rfl ?_
      rw [if_pos rfl]
      refine dw_seq ?_
      refine dw_k [] TS2_ok (by kernel_rfl) hnt (by kernel_rfl) (by simp; rfl) ?_
      intro K hK
      refine hK _ _ ?_
      clear hK K
      refine dw_seq ?_
      refine dw_k [] TS2_ok (by kernel_rfl) hnt (by kernel_rfl) (by simp; rfl) ?_
      intro K hK
      refine hK _ _ ?_
      clear hK K
      refine dw_ret ?_
      rw [tz_eq]
      exact retv (N := 0) (.inr rfl) rfl (by repeat first | exact VLe.refl _ | exact VLe.nil _ | exact VLe.untag _ _ _ | refine VLe.ag ?_ | refine VLe.tu ?_ | refine VLeL.cons ?_ ?_ | exact VLeL.nil) (by repeat first | exact trivial | refine And.intro rfl ?_)
end Go.Proofs.YtiblklcfjakjmaaGreat

namespace Go.Proofs.YtiblklcfjakjmaaGreat
open Go.RowKit

def repOk (l : List (Int × Tm)) (k i ins : Int) (q : List Tm × Nm.St) : Prop := k = 2 → q.2.e = 0 → ∀ u, Sb.find l i = some u →
  Wide u ∧ Wide (Nm.lift ins u 0) ∧ (∀ a ∈ q.1, Wide a) ∧ ((Nm.lift ins u 0).binds.length = q.1.length → (Nm.put 100001 (Nm.lift ins u 0) q.1 ⟨q.2.left, q.2.dry, 0, 0⟩).2.e = 0 → DoneOk (Nm.put 100001 (Nm.lift ins u 0) q.1 ⟨q.2.left, q.2.dry, 0, 0⟩).1)
mutual
def thOk (l : List (Int × Tm)) : Tm → Int → Nm.St → Prop
  | .mk b k i a, ins, s => s.e = 0 → (Nm.spend s).1 = true → thOks l a (Nm.wr (ins + b.length)) (Nm.spend s).2 ∧ repOk l k i (Nm.wr (ins + b.length)) (Sb.throughs l a (Nm.wr (ins + b.length)) (Nm.spend s).2)
def thOks (l : List (Int × Tm)) : List Tm → Int → Nm.St → Prop
  | [], _, _ => True
  | t :: r, ins, s => thOk l t ins s ∧ thOks l r ins (Sb.through l t ins s).2
end
def InR (s : Nm.St) : Prop := 0 ≤ s.left ∧ s.left ≤ 1000000000
theorem spend_in {s : Nm.St} (h : InR s) : InR (Nm.spend s).2 := by
  unfold InR at *
  unfold Nm.spend
  split
  · exact ⟨Int.le_refl _, by show (0 : Int) ≤ 1000000000; decide⟩
  · rename_i hc; dsimp only; omega
theorem done_in {p : Tm × Nm.St} (h : InR p.2) : InR (Nm.done p).2 := by
  unfold Nm.done
  dsimp only
  have : InR (if p.2.e = 0 ∧ ¬ (p.1.size ≤ 5000 ∧ p.1.depth ≤ 60) then Nm.fail p.2 2 else p.2) := by
    split
    · unfold Nm.fail; split <;> exact h
    · exact h
  generalize (if p.2.e = 0 ∧ ¬ (p.1.size ≤ 5000 ∧ p.1.depth ≤ 60) then Nm.fail p.2 2 else p.2) = s at this ⊢
  split <;> exact this
theorem Put_in {t : Tm} {xs : List Tm} {left : Int} {dry : Bool} (h : 0 ≤ left ∧ left ≤ 1000000000) : InR (Nm.Put t xs left dry).2 :=
  done_in (putW_wk (through_wk 100001) t xs ⟨left, dry, 0, 0⟩ ⟨h, ⟨Int.le_refl 0, (by decide : (0 : Int) ≤ 100001)⟩, fun _ => (by decide : (0 : Int) ≤ 100000)⟩).left
theorem replaced_in {t u : Tm} {s : Nm.St} (h : InR s) : InR (Sb.replaced t u s).2 := by
  unfold Sb.replaced
  dsimp only
  split
  · exact h
  · have := Put_in (t := u) (xs := t.args) (dry := s.dry) h
    split <;> exact this
theorem seqM_in {g : Tm → Nm.St → Tm × Nm.St} : ∀ (l : List Tm) (hg : ∀ t ∈ l, ∀ s, InR s → InR (g t s).2) (s : Nm.St), InR s → InR (Nm.seqM g l s).2
  | [], _, _, h => h
  | t :: l, hg, s, h => seqM_in l (fun u hu => hg u (by simp [hu])) _ (hg t (by simp) s h)
theorem through_in (l : List (Int × Tm)) : ∀ (t : Tm) (ins : Int) (s : Nm.St), InR s → InR (Sb.through l t ins s).2 := by
  intro t
  induction t using Tm.ind with
  | h bs k i a ih =>
    intro ins s h
    rw [Sb.through]
    dsimp only
    rw [Sb.throughs_seq]
    have hq := seqM_in (g := fun t s => Sb.through l t (Nm.wr (ins + bs.length)) s) a (fun t ht s hs => ih t ht _ s hs) _ (spend_in h)
    split
    · exact h
    · split
      · exact spend_in h
      · split
        · exact hq
        · split
          · exact hq
          · exact replaced_in hq
theorem thOks_at (l : List (Int × Tm)) (ins : Int) : ∀ (a : List Tm) (s : Nm.St), thOks l a ins s → ∀ j (h : j < a.length), thOk l a[j] ins (Nm.seqM (fun t s => Sb.through l t ins s) (a.take j) s).2
  | t :: a, s, h, 0, _ => by rw [thOks] at h; exact h.1
  | t :: a, s, h, j + 1, hj => by
    rw [thOks] at h
    exact thOks_at l ins a _ h.2 j (by simpa using hj)

theorem Sb_find_idx (l : List (Int × Tm)) (m : Int) : Sb.find l m = ((idxOf m l).bind fun i => l[i]?).map (·.2) := by
  rw [find_idx]
  cases idxOf m l <;> rfl
def sthE (l : List (Int × Tm)) (s : Nm.St) (bs : List Ty) (k i : Int) (a : List Tm) (ins : Int) : List (Key × D) :=
  [(.t 0, .p 0 0), (.t 2, .v (.int .i64 ins)), (.t 4, .p 2 0), (.t 6, .p 3 0), (.t 7, .p 26 0), (.c 2 0, .sl 2 (eTys bs) none), (.c 2 1, .v (.int .i64 k)), (.c 2 2, .v (.int .i64 i)), (.c 2 3, .sl 4 (eTms a) none),
   (.c 3 0, .v (.slice none 0 0)), (.c 3 1, .v (.int .i64 0)), (.c 3 2, .v (.int .i64 0)), (.c 3 3, .v (.slice none 0 0)), (.c 26 0, .sl 2 (eTys bs) none), (.c 26 1, .v (.int .i64 k)), (.c 26 2, .v (.int .i64 i)),
   (.c 0 0, .o 1), (.c 0 1, .sl 5 (ePairs l) none), (.c 0 2, .v (.int .i64 s.e)), (.o 1, .ob (BudJ s.left s.dry))]
set_option maxHeartbeats 4000000 in
theorem sthr_d (l : List (Int × Tm)) (hl : l.length ≤ 1000000) : ∀ (t : Tm) (_ : Wide t) (ins : Int) (s : Nm.St), InR s → thOk l t ins s →
    CallC Tryz.prog 85 [.p 0 0, .ag (eTm t), .v (.int .i64 ins)] (swE l s) (swE l (Sb.through l t ins s).2) (.ag (eTm (Sb.through l t ins s).1)) := by
  intro t
  induction t using Tm.ind with
  | h bs k i a ih =>
  intro ht ins s hs hok
  obtain ⟨w1, w2, w3⟩ := ht.inv
  obtain ⟨p, hp⟩ : ∃ p, Sb.through l (.mk bs k i a) ins s = p := ⟨_, rfl⟩
  rw [Sb.through, Sb.throughs_seq] at hp
  rw [thOk, Sb.throughs_seq] at hok
  obtain ⟨m, hm⟩ : ∃ m, Nm.wr (ins + (bs.length : Int)) = m := ⟨_, rfl⟩
  rw [hm] at hp hok
  have hp' : Sb.through l (.mk bs k i a) ins s = p := by rw [← hp, Sb.through, Sb.throughs_seq, hm]
  rw [hp', eTm_eq]
  have hpd := hp.symm
  dsimp only at hpd
  clear hp hp'
  have hsp := spend_d 1 s hs.1 hs.2
  have hsi := spend_in hs
  have hse := (Nm.spend_keeps s).2
  obtain ⟨g, hg⟩ : ∃ g : Tm → Nm.St → Tm × Nm.St, (fun t s => Sb.through l t m s) = g := ⟨_, rfl⟩
  have hat := thOks_at l m a (Nm.spend s).2
  rw [hg] at hpd hok hat
  obtain ⟨left, dry, count, er⟩ := s
  dsimp only at hsp hsi hse hpd hok hat
  refine call_of_dw 2 86 [ResultVar.cell 6 52] TS2_ok (by kernel_rfl) Tryz.func85 rfl Tryz.ntmps85 rfl (by simp) ?dwords ?dbody
  case dwords => simp [wordsOk, swE, D.ok, D.oks, rnames, inN, ckey, eTm_ok, eTms_ok, eTys_ok, ePairs_ok]
  case dbody =>
    intro cx hnt hn0
    dsimp only [Tm.binds, Tm.kind, Tm.index, Tm.args]
    refine dw_seq ?_
    refine dw_k [] TS2_ok (by kernel_rfl) hnt (by kernel_rfl) (by simp; rfl) ?_
    intro K hK
    refine hK _ _ ?_
    clear hK K
    refine dw_seq (dw_seq ?_)
    by_cases he : er = 0
    · subst he
      refine dw_k [(15, .v (.bool false))] TS2_ok (by kernel_rfl) hnt (by kernel_rfl) (by simp; rfl) ?_
      intro K hK
      refine And.intro (VLe.refl _) ?_
      refine hK _ _ ?_
      clear hK K
      refine dw_cond (t := false) rfl ?_
      rw [if_neg (by simp)]
      refine dw_skip ?_
      rw [if_neg (by simp)] at hpd
      refine dw_seq (dw_seq ?_)
      obtain ⟨sp, hspq⟩ : ∃ sp, Nm.spend ⟨left, dry, count, 0⟩ = sp := ⟨_, rfl⟩
      rw [hspq] at hsp hsi hse hpd hok hat
      clear hspq
      obtain ⟨b, s1⟩ := sp
      dsimp only at hsp hsi hse hpd hok hat
      cases b with
      | false =>
        rw [if_pos rfl] at hpd
        subst hpd
        refine dw_k [] TS2_ok (by kernel_rfl) hnt (by kernel_rfl) (by simp; rfl) ?_
        intro K hK
        refine ⟨_, _, _, Or.inl (hsp), by repeat first | exact trivial | refine And.intro ⟨rfl, rfl⟩ ?_, ?_⟩
        refine hK _ _ ?_
        clear hK K
        refine dw_cond (t := true) rfl ?_
        rw [if_pos rfl]
        refine dw_seq ?_
        refine dw_k [] TS2_ok (by kernel_rfl) hnt (by kernel_rfl) (by simp; rfl) ?_
        intro K hK
        refine hK _ _ ?_
        clear hK K
        refine dw_seq ?_
        refine dw_k [] TS2_ok (by kernel_rfl) hnt (by kernel_rfl) (by simp; rfl) ?_
        intro K hK
        refine hK _ _ ?_
        clear hK K
        refine dw_ret ?_
        rw [tz_eq]
        exact retv (N := 0) (.inr rfl) rfl (by repeat first | exact VLe.refl _ | exact VLe.nil _ | exact VLe.untag _ _ _ | refine VLe.ag ?_ | refine VLe.tu ?_ | refine VLeL.cons ?_ ?_ | exact VLeL.nil) (by repeat first | exact trivial | refine And.intro rfl ?_)
      | true =>
        rw [if_neg (by simp)] at hpd
        obtain ⟨hok1, hok2⟩ := hok rfl rfl
        have hat := hat hok1
        clear hok hok1
        refine dw_k [] TS2_ok (by kernel_rfl) hnt (by kernel_rfl) (by simp; rfl) ?_
        intro K hK
        refine ⟨_, _, _, Or.inl (hsp), by repeat first | exact trivial | refine And.intro ⟨rfl, rfl⟩ ?_, ?_⟩
        refine hK _ _ ?_
        clear hK K
        refine dw_cond (t := false) rfl ?_
        rw [if_neg (by simp)]
        refine dw_skip ?_
        refine dw_seq ?_
        refine dw_k [(31, .v (.int .i64 m))] TS2_ok (by kernel_rfl) hnt (by kernel_rfl) (by simp; rfl) ?_
        intro K hK
        refine And.intro (VLe.of_eq (by rw [eTys_len, ← wr_wrap, hm])) ?_
        refine hK _ _ ?_
        clear hK K
        refine dw_cut (τ := (.c 26 3, .v (.slice none 0 0)) :: sthE l ⟨s1.left, s1.dry, s1.count, 0⟩ bs k i a m) (N1 := 27) ?_ ?_
        · skip
          refine dw_k [] TS2_ok (by kernel_rfl) hnt (by kernel_rfl) (by simp; rfl) ?_
          intro K hK
          refine hK _ _ ?_
          clear hK K
          exact cut_ok (VS.toK (by first | omega | simp [hn0]) (by repeat first | exact trivial | refine And.intro (And.intro (by first | rfl | simp [D.ok, D.oks, D.okss, D.okm, eTm_ok, eTy_ok, eTys_ok, eTms_ok, upto, keyOk, ePairs_ok]) (by first | exact Or.inl rfl | exact Or.inr ⟨_, rfl, (by repeat first | exact VLe.refl _ | exact VLe.nil _ | exact VLe.untag _ _ _ | refine VLe.ag ?_ | refine VLe.tu ?_ | refine VLeL.cons ?_ ?_ | exact VLeL.nil), trivial⟩ | simp [get, Key.eq, ePairs_ok])) ?_))
        · have hs1 : (⟨s1.left, s1.dry, s1.count, 0⟩ : Nm.St) = s1 := by rw [← hse]
          rw [hs1]
          dsimp only [sthE]
          refine dw_seq ?_
          refine dw_seq ?_
          refine dw_k [(39, .v (.int .i64 a.length))] TS2_ok (by kernel_rfl) hnt (by kernel_rfl) (by simp; rfl) ?_
          intro K hK
          refine And.intro (dintE (by rw [eTms_len])) ?_
          refine hK _ _ ?_
          clear hK K
          refine dw_block ?_
          refine dw_loop (ι := Nat) (fun j => (.t 38, .sl 4 (eTms a) none) :: (.t 39, .v (.int .i64 a.length)) :: (.t 40, .v (.int .i64 j)) :: (.c 26 3, .sl 4 (eTms (Nm.seqM g (a.take j) s1).1) (some 31)) :: (.r 31, .rw 52 4 j) :: sthE l (Nm.seqM g (a.take j) s1).2 bs k i a m) 32 (fun j => a.length - j) 0 (VS.trans (VS.row (k := 26) (off := 3) 52 4 rfl) (VS.toK (by first | omega | simp [hn0]) (by repeat first | exact trivial | refine And.intro (And.intro (by first | rfl | simp [D.ok, D.oks, D.okss, D.okm, eTm_ok, eTy_ok, eTys_ok, eTms_ok, upto, keyOk, ePairs_ok]) (by first | exact Or.inl rfl | exact Or.inr ⟨_, rfl, (by repeat first | exact VLe.refl _ | exact VLe.nil _ | exact VLe.untag _ _ _ | refine VLe.ag ?_ | refine VLe.tu ?_ | refine VLeL.cons ?_ ?_ | exact VLeL.nil), trivial⟩ | simp [get, Key.eq, ePairs_ok])) ?_))) fun j => ?_
          dsimp only [sthE]
          have hst : InR (Nm.seqM g (a.take j) s1).2 := seqM_in _ (fun t _ s h => by rw [← hg]; exact through_in l t m s h) _ hsi
          have hll : (Nm.seqM g (a.take j) s1).1.length = (a.take j).length := Nm.seqM_length ..
          refine dw_seq ?_
          by_cases hlt : j < a.length
          · have hcon := ih a[j] (List.getElem_mem hlt) (w3 _ (List.getElem_mem hlt)) m (Nm.seqM g (a.take j) s1).2 hst (hat j hlt)
            have hg2 : Sb.through l a[j] m (Nm.seqM g (a.take j) s1).2 = g a[j] (Nm.seqM g (a.take j) s1).2 := by rw [← hg]
            rw [hg2] at hcon
            have hsq := Nm.seqM_take g a j hlt s1
            rw [eTm_eq, eTm_eq] at hcon
            refine dw_k [(41, .v (.bool true))] TS2_ok (by kernel_rfl) hnt (by kernel_rfl) (by simp; rfl) ?_
            intro K hK
            refine And.intro (dtrue (by omega)) ?_
            refine hK _ _ ?_
            clear hK K
            refine dw_seq (dw_cond (t := true) rfl ?_)
            rw [if_pos rfl]
            refine dw_skip (dw_seq (dw_block (dw_seq ?_)))
            refine dw_k [(42, .q [.sl 2 (eTys a[j].binds) none, .v (.int .i64 a[j].kind), .v (.int .i64 a[j].index), .sl 4 (eTms a[j].args) none])] TS2_ok (by kernel_rfl) hnt (by kernel_rfl) (by simp; rfl) ?_
            intro K hK
            refine And.intro (⟨by omega, by rw [eTms_len]; omega⟩) ?_
            refine And.intro (VLe.of_eq (by rw [Int.toNat_natCast, eTms_getD a j hlt, eTm_eq])) ?_
            refine hK _ _ ?_
            clear hK K
            refine dw_kD [(51, .sl 4 (eTms (Nm.seqM g (a.take (j + 1)) s1).1) (some 31))] TS2_ok (by kernel_rfl) hnt (by kernel_rfl) (by simp; rfl) ?_
            intro K hK
            refine ⟨_, _, _, Or.inl (hcon), by repeat first | exact trivial | refine And.intro ⟨rfl, rfl⟩ ?_, ?_⟩
            refine And.intro (⟨by rw [eTms_len, hll, List.length_take]; omega, by rw [eTms_len, hll, List.length_take]; simp; omega⟩) ?_
            refine And.intro (VLe.of_eq (by rw [hsq, eTms_append, eTms, eTms, eTm_eq (g a[j] _).1])) ?_
            refine hK _ _ (by kernel_rfl) ?_
            clear hK K
            refine dw_k [(53, .v (.int .i64 ((j + 1 : Nat) : Int)))] TS2_ok (by kernel_rfl) hnt (by kernel_rfl) (by simp; rfl) ?_
            intro K hK
            refine And.intro (dintE (by rw [IntWalk.i64_in _ (by omega)]; omega)) ?_
            refine hK _ _ ?_
            clear hK K
            refine ⟨j + 1, by omega, ?_⟩
            have hl2 : (eTms (Nm.seqM g (a.take j) s1).1).length = j := by rw [eTms_len, hll, List.length_take]; omega
            rw [hsq]
            exact (VS.toK (by first | omega | simp [hn0]) (by repeat first | exact trivial | refine And.intro (And.intro (by first | rfl | simp [D.ok, D.oks, D.okss, D.okm, eTm_ok, eTy_ok, eTys_ok, eTms_ok, upto, keyOk, hl2, ePairs_ok]) (by first | exact Or.inl rfl | exact Or.inr ⟨_, rfl, (by repeat first | exact VLe.refl _ | exact VLe.nil _ | exact VLe.untag _ _ _ | refine VLe.ag ?_ | refine VLe.tu ?_ | refine VLeL.cons ?_ ?_ | exact VLeL.nil), trivial⟩ | simp [get, Key.eq, hl2, ePairs_ok])) ?_))
          · rw [List.take_of_length_le (by omega)] at hst hll ⊢
            obtain ⟨q, hq⟩ : ∃ q, Nm.seqM g a s1 = q := ⟨_, rfl⟩
            rw [hq] at hst hll hpd hok2 ⊢
            clear hq
            obtain ⟨as', s2⟩ := q
            dsimp only at hst hll hpd hok2 ⊢
            have hen := eTms_len as'
            obtain ⟨left, dry, count, er⟩ := s2
            dsimp only at hst hpd hok2 ⊢
            refine dw_k [(41, .v (.bool false))] TS2_ok (by kernel_rfl) hnt (by kernel_rfl) (by simp; rfl) ?_
            intro K hK
            refine And.intro (dfalse (by omega)) ?_
            refine hK _ _ ?_
            clear hK K
            refine dw_seq (dw_cond (t := false) rfl ?_)
            rw [if_neg (by simp)]
            refine dw_exit ?_
            refine dw_seq ?_
            refine dw_seq ?_
            by_cases hk : k ≠ 2
            · rw [if_pos (.inl hk)] at hpd
              subst hpd
              refine dw_k [(57, .v (.bool true))] TS2_ok (by kernel_rfl) hnt (by kernel_rfl) (by simp; rfl) ?_
              intro K hK
              refine And.intro (VLe.of_eq (by simp [hk])) ?_
              refine hK _ _ ?_
              clear hK K
              refine dw_cond (t := true) rfl ?_
              rw [if_pos rfl]
              refine dw_seq ?_
              refine dw_k [] TS2_ok (by kernel_rfl) hnt (by kernel_rfl) (by simp; rfl) ?_
              intro K hK
              refine hK _ _ ?_
              clear hK K
              refine dw_ret ?_
              rw [eTm_eq]
              exact retv (N := 0) (.inr rfl) rfl (by repeat first | exact VLe.refl _ | exact VLe.nil _ | exact VLe.untag _ _ _ | refine VLe.ag ?_ | refine VLe.tu ?_ | refine VLeL.cons ?_ ?_ | exact VLeL.nil) (by repeat first | exact trivial | refine And.intro rfl ?_)
            · have hk : k = 2 := by simpa using hk
              by_cases her : er ≠ 0
              · rw [if_pos (.inr her)] at hpd
                subst hpd
                refine dw_k [(57, .v (.bool false)), (63, .v (.bool true))] TS2_ok (by kernel_rfl) hnt (by kernel_rfl) (by simp; rfl) ?_
                intro K hK
                refine And.intro (VLe.of_eq (by simp [hk])) ?_
                refine And.intro (VLe.of_eq (by simp [her])) ?_
                refine hK _ _ ?_
                clear hK K
                refine dw_cond (t := true) rfl ?_
                rw [if_pos rfl]
                refine dw_seq ?_
                refine dw_k [] TS2_ok (by kernel_rfl) hnt (by kernel_rfl) (by simp; rfl) ?_
                intro K hK
                refine hK _ _ ?_
                clear hK K
                refine dw_ret ?_
                rw [eTm_eq]
                exact retv (N := 0) (.inr rfl) rfl (by repeat first | exact VLe.refl _ | exact VLe.nil _ | exact VLe.untag _ _ _ | refine VLe.ag ?_ | refine VLe.tu ?_ | refine VLeL.cons ?_ ?_ | exact VLeL.nil) (by repeat first | exact trivial | refine And.intro rfl ?_)
              · have her : er = 0 := by simpa using her
                rw [if_neg (fun h => h.elim (fun h => h hk) fun h => h her)] at hpd
                subst her
                have hok2 := hok2 hk rfl
                have hfind := sfind_d l hl i
                rw [Sb_find_idx] at hpd hok2
                refine dw_k [(57, .v (.bool false)), (63, .v (.bool false))] TS2_ok (by kernel_rfl) hnt (by kernel_rfl) (by simp; rfl) ?_
                intro K hK
                refine And.intro (VLe.of_eq (by simp [hk])) ?_
                refine And.intro (VLe.refl _) ?_
                refine hK _ _ ?_
                clear hK K
                refine dw_cond (t := false) rfl ?_
                rw [if_neg (by simp)]
                refine dw_skip ?_
                refine dw_seq ?_
                cases hx : (idxOf i l).bind fun i => l[i]? with
                | none =>
                  rw [hx] at hfind hpd
                  dsimp only at hfind
                  simp only [Option.map_none] at hpd
                  subst hpd
                  refine dw_kD [] TS2_ok (by kernel_rfl) hnt (by kernel_rfl) (by simp; rfl) ?_
                  intro K hK
                  refine ⟨_, _, _, Or.inl (hfind), by repeat first | exact trivial | refine And.intro ⟨rfl, rfl⟩ ?_, ?_⟩
                  refine hK _ _ (by kernel_rfl) ?_
                  clear hK K
                  refine dw_seq (dw_seq ?_)
                  refine dw_k [] TS2_ok (by kernel_rfl) hnt (by kernel_rfl) (by simp; rfl) ?_
                  intro K hK
                  refine hK _ _ ?_
                  clear hK K
                  refine dw_cond (t := true) rfl ?_
                  rw [if_pos rfl]
                  refine dw_seq ?_
                  refine dw_k [] TS2_ok (by kernel_rfl) hnt (by kernel_rfl) (by simp; rfl) ?_
                  intro K hK
                  refine hK _ _ ?_
                  clear hK K
                  refine dw_ret ?_
                  rw [eTm_eq]
                  exact retv (N := 0) (.inr rfl) rfl (by repeat first | exact VLe.refl _ | exact VLe.nil _ | exact VLe.untag _ _ _ | refine VLe.ag ?_ | refine VLe.tu ?_ | refine VLeL.cons ?_ ?_ | exact VLeL.nil) (by repeat first | exact trivial | refine And.intro rfl ?_)
                | some pr =>
                  rw [hx] at hfind hpd hok2
                  simp only [Option.map_some] at hpd hok2
                  obtain ⟨o1, o2, o3, o4⟩ := hok2 pr.2 rfl
                  have hgr := grown_d pr.2 o1 m 0
                  obtain ⟨v, hv⟩ : ∃ v, Nm.lift m pr.2 0 = v := ⟨_, rfl⟩
                  rw [hv] at hpd hgr o2 o4
                  have hrep := replaced_d l (.mk bs k i as') v ⟨left, dry, count, 0⟩ hst.1 hst.2 o2 o3 o4 rfl
                  rw [← hpd] at hrep
                  dsimp only at hfind
                  rw [ePair_eq] at hfind
                  rw [eTm_eq, eTm_eq] at hgr
                  rw [eTm_eq, eTm_eq, eTm_eq] at hrep
                  refine dw_kD [] TS2_ok (by kernel_rfl) hnt (by kernel_rfl) (by simp; rfl) ?_
                  intro K hK
                  refine ⟨_, _, _, Or.inl (hfind), by repeat first | exact trivial | refine And.intro ⟨rfl, rfl⟩ ?_, ?_⟩
                  refine hK _ _ (by kernel_rfl) ?_
                  clear hK K
                  refine dw_seq (dw_seq ?_)
                  refine dw_k [] TS2_ok (by kernel_rfl) hnt (by kernel_rfl) (by simp; rfl) ?_
                  intro K hK
                  refine hK _ _ ?_
                  clear hK K
                  refine dw_cond (t := false) rfl ?_
                  rw [if_neg (by simp)]
                  refine dw_skip ?_
                  refine dw_seq ?_
                  refine dw_kD [(78, .ag [.sl 2 (eTys bs) none, .v (.int .i64 k), .v (.int .i64 i), .sl 4 (eTms as') none])] TS2_ok (by kernel_rfl) hnt (by kernel_rfl) (by simp; rfl) ?_
                  intro K hK
                  refine And.intro (by repeat first | exact VLe.refl _ | exact VLe.nil _ | exact VLe.untag _ _ _ | refine VLe.ag ?_ | refine VLe.tu ?_ | refine VLeL.cons ?_ ?_ | exact VLeL.nil) ?_
                  refine ⟨_, _, _, Or.inl (hgr), by repeat first | exact trivial | refine And.intro ⟨rfl, rfl⟩ ?_, ?_⟩
                  refine ⟨_, _, _, Or.inl (hrep), by repeat first | exact trivial | refine And.intro ⟨rfl, rfl⟩ ?_, ?_⟩
                  refine hK _ _ (by kernel_rfl) ?_
                  clear hK K
                  refine dw_ret ?_
                  rw [eTm_eq]
                  exact retv (N := 0) (.inr rfl) rfl (by repeat first | exact VLe.refl _ | exact VLe.nil _ | exact VLe.untag _ _ _ | refine VLe.ag ?_ | refine VLe.tu ?_ | refine VLeL.cons ?_ ?_ | exact VLeL.nil) (by repeat first | exact trivial | refine And.intro rfl ?_)
    · rw [if_pos he] at hpd
      subst hpd
      refine dw_k [(15, .v (.bool true))] TS2_ok (by kernel_rfl) hnt (by kernel_rfl) (by simp; rfl) ?_
      intro K hK
      refine And.intro (VLe.of_eq (by simp [he])) ?_
      refine hK _ _ ?_
      clear hK K
      refine dw_cond (t := true) rfl ?_
      rw [if_pos rfl]
      refine dw_seq ?_
      refine dw_k [] TS2_ok (by kernel_rfl) hnt (by kernel_rfl) (by simp; rfl) ?_
      intro K hK
      refine hK _ _ ?_
      clear hK K
      refine dw_ret ?_
      rw [tz_eq]
      exact retv (N := 0) (.inr rfl) rfl (by repeat first | exact VLe.refl _ | exact VLe.nil _ | exact VLe.untag _ _ _ | refine VLe.ag ?_ | refine VLe.tu ?_ | refine VLeL.cons ?_ ?_ | exact VLeL.nil) (by repeat first | exact trivial | refine And.intro rfl ?_)
end Go.Proofs.YtiblklcfjakjmaaGreat

namespace Go.Proofs.YtiblklcfjakjmaaGreat
open Go.RowKit

def swR (kw kb : Nat) (l : List (Int × Tm)) (s : Nm.St) : List (Key × D) := [(.c kw 0, .o kb), (.c kw 1, .sl 5 (ePairs l) none), (.c kw 2, .v (.int .i64 s.e)), (.o kb, .ob (BudJ s.left s.dry))]
theorem sthr_at (kw kb : Nat) (hk : kw ≠ kb) (l : List (Int × Tm)) (hl : l.length ≤ 1000000) (t : Tm) (ht : Wide t) (ins : Int) (s : Nm.St) (hs : InR s) (ho : thOk l t ins s) :
    CallC Tryz.prog 85 [.p kw 0, .ag (eTm t), .v (.int .i64 ins)] (swR kw kb l s) (swR kw kb l (Sb.through l t ins s).2) (.ag (eTm (Sb.through l t ins s).1)) := by
  have h := (sthr_d l hl t ht ins s hs ho).ren (ren2 kw kb) (by simp [renOk, swE, D.ok, D.oks, rnames, inN, ckey, eTm_ok, eTms_ok, eTys_ok, ePairs_ok]) (by
    intro k h1 k' h2
    simp [rnames, swE] at h1 h2
    rcases h1 with rfl | rfl <;> rcases h2 with rfl | rfl <;> simp [ren2, hk, hk.symm])
  simpa [D.ren, eTm_ren, eTms_ren, ePairs_ren, swE, swR, renE, Key.ren, ren2] using h

theorem app_1 {l : List (Int × Tm)} {t : Tm} {left : Int} {dry : Bool} (h : Sb.right l = false) : Sb.apply l t left dry = (Nm.tz, ⟨left, dry, 0, 1⟩) := if_pos h
theorem app_2 {l : List (Int × Tm)} {t : Tm} {left : Int} {dry : Bool} (h : Sb.right l = true) : Sb.apply l t left dry =
    (let r := Sb.through l t 0 ⟨left, dry, 0, 0⟩; let s : Nm.St := if r.2.e = 0 ∧ ¬ (r.1.size ≤ 5000 ∧ r.1.depth ≤ 60) then { r.2 with e := 2 } else r.2; if s.e ≠ 0 then (Nm.tz, s) else (r.1, s)) := if_neg (by rw [h]; simp)
def endA (t : Tm) (s : Nm.St) : Tm × Nm.St := let s' : Nm.St := if s.e = 0 ∧ ¬ (t.size ≤ 5000 ∧ t.depth ≤ 60) then { s with e := 2 } else s; if s'.e ≠ 0 then (Nm.tz, s') else (t, s')
theorem end_1 {t : Tm} (h : t.size ≤ 5000 ∧ t.depth ≤ 60) (l : Int) (d : Bool) (c : Int) : endA t ⟨l, d, c, 0⟩ = (t, ⟨l, d, c, 0⟩) := by
  have : ¬ ((0 : Int) = 0 ∧ ¬ (t.size ≤ 5000 ∧ t.depth ≤ 60)) := fun h' => h'.2 h
  unfold endA; dsimp only; rw [if_neg this]; simp
theorem end_2 {t : Tm} (h : ¬ (t.size ≤ 5000 ∧ t.depth ≤ 60)) (l : Int) (d : Bool) (c : Int) : endA t ⟨l, d, c, 0⟩ = (Nm.tz, ⟨l, d, c, 2⟩) := by
  have : (0 : Int) = 0 ∧ ¬ (t.size ≤ 5000 ∧ t.depth ≤ 60) := ⟨rfl, h⟩
  unfold endA; dsimp only; rw [if_pos this]; rfl
theorem end_3 {t : Tm} {e : Int} (h : e ≠ 0) (l : Int) (d : Bool) (c : Int) : endA t ⟨l, d, c, e⟩ = (Nm.tz, ⟨l, d, c, e⟩) := by
  have : ¬ (e = 0 ∧ ¬ (t.size ≤ 5000 ∧ t.depth ≤ 60)) := fun h' => h h'.1
  unfold endA; dsimp only; rw [if_neg this]; exact if_pos h

set_option maxHeartbeats 1000000 in
theorem apply_d (l : List (Int × Tm)) (hl : l.length ≤ 1000000) (t : Tm) (ht : Wide t) (left : Int) (dry : Bool) (h0 : 0 ≤ left ∧ left ≤ 1000000000) (ho : Sb.right l = true → thOk l t 0 ⟨left, dry, 0, 0⟩ ∧ ((Sb.through l t 0 ⟨left, dry, 0, 0⟩).2.e = 0 → DoneOk (Sb.through l t 0 ⟨left, dry, 0, 0⟩).1)) :
    CallC Tryz.prog 41 [.sl 5 (ePairs l) none, .ag (eTm t), .o 1] [(.o 1, .ob (BudJ left dry))] [(.o 1, .ob (BudJ (Sb.apply l t left dry).2.left (Sb.apply l t left dry).2.dry))] (.tu [.ag (eTm (Sb.apply l t left dry).1), .v (.int .i64 (Sb.apply l t left dry).2.e)]) := by
  obtain ⟨p, hp⟩ : ∃ p, Sb.apply l t left dry = p := ⟨_, rfl⟩
  rw [hp]
  have hrt := sright_d l hl
  have hth := fun h => sthr_at 15 1 (by decide) l hl t ht 0 ⟨left, dry, 0, 0⟩ h0 (ho h).1
  rw [eTm_eq t] at hth ⊢
  refine call_of_dw 2 50 [ResultVar.cell 6 52, ResultVar.tmp 7] TS2_ok (by kernel_rfl) Tryz.func41 rfl Tryz.ntmps41 rfl (by simp) ?dwords ?dbody
  case dwords => simp [wordsOk, D.ok, D.oks, rnames, inN, ckey, eTm_ok, eTms_ok, eTys_ok, ePairs_ok]
  case dbody =>
    intro cx hnt hn0
    refine dw_seq ?_
    refine dw_k [] TS2_ok (by kernel_rfl) hnt (by kernel_rfl) (by simp; rfl) ?_
    intro K hK
    refine hK _ _ ?_
    clear hK K
    refine dw_seq (dw_seq ?_)
    cases hr : Sb.right l with
    | false =>
      rw [hr] at hrt
      rw [app_1 hr] at hp
      subst hp
      refine dw_k [] TS2_ok (by kernel_rfl) hnt (by kernel_rfl) (by simp; rfl) ?_
      intro K hK
      refine ⟨_, _, _, Or.inl (hrt), by repeat first | exact trivial | refine And.intro ⟨rfl, rfl⟩ ?_, ?_⟩
      refine hK _ _ ?_
      clear hK K
      refine dw_cond (t := true) rfl ?_
      rw [if_pos rfl]
      refine dw_seq ?_
      refine dw_k [] TS2_ok (by kernel_rfl) hnt (by kernel_rfl) (by simp; rfl) ?_
      intro K hK
      refine hK _ _ ?_
      clear hK K
      refine dw_ret ?_
      rw [tz_eq]
      exact retv (N := 0) (.inr rfl) rfl (by repeat first | exact VLe.refl _ | exact VLe.nil _ | exact VLe.untag _ _ _ | refine VLe.ag ?_ | refine VLe.tu ?_ | refine VLeL.cons ?_ ?_ | exact VLeL.nil) (by repeat first | exact trivial | refine And.intro rfl ?_)
    | true =>
      rw [hr] at hrt
      have ho := (ho hr).2
      have hth := hth hr
      rw [app_2 hr] at hp
      obtain ⟨r, hrr⟩ : ∃ r, Sb.through l t 0 ⟨left, dry, 0, 0⟩ = r := ⟨_, rfl⟩
      rw [hrr] at hp ho hth
      have hp : endA r.1 r.2 = p := hp
      clear hrr
      obtain ⟨u, s1⟩ := r
      obtain ⟨left', dry', count, er⟩ := s1
      dsimp only at hp ho hth
      refine dw_k [] TS2_ok (by kernel_rfl) hnt (by kernel_rfl) (by simp; rfl) ?_
      intro K hK
      refine ⟨_, _, _, Or.inl (hrt), by repeat first | exact trivial | refine And.intro ⟨rfl, rfl⟩ ?_, ?_⟩
      refine hK _ _ ?_
      clear hK K
      refine dw_cond (t := false) rfl ?_
      rw [if_neg (by simp)]
      refine dw_skip ?_
      refine dw_seq ?_
      refine dw_k [] TS2_ok (by kernel_rfl) hnt (by kernel_rfl) (by simp; rfl) ?_
      intro K hK
      refine hK _ _ ?_
      clear hK K
      refine dw_seq ?_
      have hru : er = 0 → PureC Tryz.prog 82 [.ag (eTm u)] (.v (.bool (decide (u.size ≤ 5000 ∧ u.depth ≤ 60)))) := fun h => right_d u (ho h).right
      have hcu : er = 0 → (u.size ≤ 5000 ∧ u.depth ≤ 60) → PureC Tryz.prog 61 [.ag (eTm u)] (.ag (eTm u)) := fun h h' => copy_d u ((ho h).copy h').1 ((ho h).copy h').2
      rw [eTm_eq u] at hth hru hcu
      refine dw_k [] TS2_ok (by kernel_rfl) hnt (by kernel_rfl) (by simp; rfl) ?_
      intro K hK
      refine ⟨_, _, _, Or.inl (hth), by repeat first | exact trivial | refine And.intro ⟨rfl, rfl⟩ ?_, ?_⟩
      refine hK _ _ ?_
      clear hK K
      refine dw_seq (dw_seq ?_)
      by_cases he : er = 0
      · subst he
        have hru := hru rfl
        by_cases hR : u.size ≤ 5000 ∧ u.depth ≤ 60
        · have hcu := hcu rfl hR
          rw [end_1 hR] at hp
          subst hp
          rw [decide_eq_true hR] at hru
          refine dw_k [(29, .v (.bool true))] TS2_ok (by kernel_rfl) hnt (by kernel_rfl) (by simp; rfl) ?_
          intro K hK
          refine And.intro (VLe.refl _) ?_
          refine ⟨_, _, _, Or.inl (hru), by repeat first | exact trivial | refine And.intro ⟨rfl, rfl⟩ ?_, ?_⟩
          refine hK _ _ ?_
          clear hK K
          refine dw_cond (t := false) rfl ?_
          rw [if_neg (by simp)]
          refine dw_skip ?_
          refine dw_seq (dw_seq ?_)
          refine dw_k [(42, .v (.bool false))] TS2_ok (by kernel_rfl) hnt (by kernel_rfl) (by simp; rfl) ?_
          intro K hK
          refine And.intro (VLe.refl _) ?_
          refine hK _ _ ?_
          clear hK K
          refine dw_cond (t := false) rfl ?_
          rw [if_neg (by simp)]
          refine dw_skip ?_
          refine dw_seq ?_
          refine dw_k [] TS2_ok (by kernel_rfl) hnt (by kernel_rfl) (by simp; rfl) ?_
          intro K hK
          refine ⟨_, _, _, Or.inl (hcu), by repeat first | exact trivial | refine And.intro ⟨rfl, rfl⟩ ?_, ?_⟩
          refine hK _ _ ?_
          clear hK K
          refine dw_ret ?_
          rw [eTm_eq]
          exact retv (N := 0) (.inr rfl) rfl (by repeat first | exact VLe.refl _ | exact VLe.nil _ | exact VLe.untag _ _ _ | refine VLe.ag ?_ | refine VLe.tu ?_ | refine VLeL.cons ?_ ?_ | exact VLeL.nil) (by repeat first | exact trivial | refine And.intro rfl ?_)
        · rw [end_2 hR] at hp
          subst hp
          rw [decide_eq_false hR] at hru
          refine dw_k [(29, .v (.bool true))] TS2_ok (by kernel_rfl) hnt (by kernel_rfl) (by simp; rfl) ?_
          intro K hK
          refine And.intro (VLe.refl _) ?_
          refine ⟨_, _, _, Or.inl (hru), by repeat first | exact trivial | refine And.intro ⟨rfl, rfl⟩ ?_, ?_⟩
          refine hK _ _ ?_
          clear hK K
          refine dw_cond (t := true) rfl ?_
          rw [if_pos rfl]
          refine dw_k [] TS2_ok (by kernel_rfl) hnt (by kernel_rfl) (by simp; rfl) ?_
          intro K hK
          refine hK _ _ ?_
          clear hK K
          refine dw_seq (dw_seq ?_)
          refine dw_k [(42, .v (.bool true))] TS2_ok (by kernel_rfl) hnt (by kernel_rfl) (by simp; rfl) ?_
          intro K hK
          refine And.intro (VLe.refl _) ?_
          refine hK _ _ ?_
          clear hK K
          refine dw_cond (t := true) rfl ?_
          rw [if_pos rfl]
          refine dw_seq ?_
          refine dw_kD [] TS2_ok (by kernel_rfl) hnt (by kernel_rfl) (by simp; rfl) ?_
          intro K hK
          refine hK _ _ (by kernel_rfl) ?_
          clear hK K
          refine dw_ret ?_
          rw [tz_eq]
          exact retv (N := 0) (.inr rfl) rfl (by repeat first | exact VLe.refl _ | exact VLe.nil _ | exact VLe.untag _ _ _ | refine VLe.ag ?_ | refine VLe.tu ?_ | refine VLeL.cons ?_ ?_ | exact VLeL.nil) (by repeat first | exact trivial | refine And.intro rfl ?_)
      · rw [end_3 he] at hp
        subst hp
        refine dw_k [(29, .v (.bool false))] TS2_ok (by kernel_rfl) hnt (by kernel_rfl) (by simp; rfl) ?_
        intro K hK
        refine And.intro (VLe.of_eq (by simp [he])) ?_
        refine hK _ _ ?_
        clear hK K
        refine dw_cond (t := false) rfl ?_
        rw [if_neg (by simp)]
        refine dw_skip ?_
        refine dw_seq (dw_seq ?_)
        refine dw_k [(42, .v (.bool true))] TS2_ok (by kernel_rfl) hnt (by kernel_rfl) (by simp; rfl) ?_
        intro K hK
        refine And.intro (VLe.of_eq (by simp [he])) ?_
        refine hK _ _ ?_
        clear hK K
        refine dw_cond (t := true) rfl ?_
        rw [if_pos rfl]
        refine dw_seq ?_
        refine dw_kD [] TS2_ok (by kernel_rfl) hnt (by kernel_rfl) (by simp; rfl) ?_
        intro K hK
        refine hK _ _ (by kernel_rfl) ?_
        clear hK K
        refine dw_ret ?_
        rw [tz_eq]
        exact retv (N := 0) (.inr rfl) rfl (by repeat first | exact VLe.refl _ | exact VLe.nil _ | exact VLe.untag _ _ _ | refine VLe.ag ?_ | refine VLe.tu ?_ | refine VLeL.cons ?_ ?_ | exact VLeL.nil) (by repeat first | exact trivial | refine And.intro rfl ?_)
end Go.Proofs.YtiblklcfjakjmaaGreat

namespace Go.Proofs.YtiblklcfjakjmaaGreat
open Go.RowKit
def TK9_52 : TI := ⟨4, true, [Value.slice none 0 0, Value.int IntKind.i64 0, Value.int IntKind.i64 0, Value.slice none 0 0], [(0, 1, false), (1, 2, true), (3, 1, false)], none, 64, 6, none, false⟩
theorem TK9_52_ok : TypOk Tryz.prog 52 TK9_52 := ⟨by kernel_rfl, by kernel_rfl, by kernel_rfl, by kernel_rfl, by kernel_rfl⟩
def TK9_50 : TI := ⟨1, false, [Value.slice none 0 0], [], some 52, 24, 5, none, false⟩
theorem TK9_50_ok : TypOk Tryz.prog 50 TK9_50 := ⟨by kernel_rfl, by kernel_rfl, by kernel_rfl, by kernel_rfl, by kernel_rfl⟩
def TK9_77 : TI := ⟨2, true, [Value.slice none 0 0, Value.int IntKind.i64 0], [(0, 1, false), (1, 1, false)], none, 32, 6, none, false⟩
theorem TK9_77_ok : TypOk Tryz.prog 77 TK9_77 := ⟨by kernel_rfl, by kernel_rfl, by kernel_rfl, by kernel_rfl, by kernel_rfl⟩
def TK9_49 : TI := ⟨2, true, [Value.int IntKind.i64 0, Value.int IntKind.i64 0], [(0, 1, false), (1, 1, false)], none, 16, 6, none, false⟩
theorem TK9_49_ok : TypOk Tryz.prog 49 TK9_49 := ⟨by kernel_rfl, by kernel_rfl, by kernel_rfl, by kernel_rfl, by kernel_rfl⟩
def TK9_34 : TI := ⟨1, false, [Value.slice none 0 0], [], some 77, 24, 5, none, false⟩
theorem TK9_34_ok : TypOk Tryz.prog 34 TK9_34 := ⟨by kernel_rfl, by kernel_rfl, by kernel_rfl, by kernel_rfl, by kernel_rfl⟩
def TK9_30 : TI := ⟨1, false, [Value.slice none 0 0], [], some 99, 24, 5, none, false⟩
theorem TK9_30_ok : TypOk Tryz.prog 30 TK9_30 := ⟨by kernel_rfl, by kernel_rfl, by kernel_rfl, by kernel_rfl, by kernel_rfl⟩
def TK9_3 : TI := ⟨1, false, [Value.int IntKind.i64 0], [], none, 8, 2, none, false⟩
theorem TK9_3_ok : TypOk Tryz.prog 3 TK9_3 := ⟨by kernel_rfl, by kernel_rfl, by kernel_rfl, by kernel_rfl, by kernel_rfl⟩
def TK9_99 : TI := ⟨5, true, [Value.int IntKind.i64 0, Value.slice none 0 0, Value.int IntKind.i64 0, Value.int IntKind.i64 0, Value.slice none 0 0], [(0, 1, false), (1, 4, true)], none, 72, 6, none, false⟩
theorem TK9_99_ok : TypOk Tryz.prog 99 TK9_99 := ⟨by kernel_rfl, by kernel_rfl, by kernel_rfl, by kernel_rfl, by kernel_rfl⟩
def TK9_32 : TI := ⟨1, false, [Value.int IntKind.i64 0], [], none, 8, 2, none, false⟩
theorem TK9_32_ok : TypOk Tryz.prog 32 TK9_32 := ⟨by kernel_rfl, by kernel_rfl, by kernel_rfl, by kernel_rfl, by kernel_rfl⟩
def TK9_85 : TI := ⟨1, false, [Value.pointer none], [], none, 8, 4, none, false⟩
theorem TK9_85_ok : TypOk Tryz.prog 85 TK9_85 := ⟨by kernel_rfl, by kernel_rfl, by kernel_rfl, by kernel_rfl, by kernel_rfl⟩
def TK9 : List (Nat × TI) := [(52, TK9_52), (50, TK9_50), (77, TK9_77), (49, TK9_49), (34, TK9_34), (30, TK9_30), (3, TK9_3), (99, TK9_99), (32, TK9_32), (85, TK9_85)]
theorem TK9_ok : TabOk Tryz.prog TK9 := (((((((((((TabOk.nil _).cons TK9_85_ok).cons TK9_32_ok).cons TK9_99_ok).cons TK9_3_ok).cons TK9_30_ok).cons TK9_34_ok).cons TK9_49_ok).cons TK9_77_ok).cons TK9_50_ok).cons TK9_52_ok)

theorem kA_fit : ∀ t : Tm, t.full ≤ 100 → t.Fit → DoneOk t := fun t h hf => ⟨by omega, fun _ => ⟨by omega, hf⟩⟩
theorem wide_leaf (b : List Ty) (k i : Int) (h : b.length ≤ 100000) : Wide (.mk b k i []) := .mk _ _ _ _ h (by simp) fun t h => by cases h
theorem wide_one (b : List Ty) (k i : Int) (t : Tm) (h : b.length ≤ 100000) (ht : Wide t) : Wide (.mk b k i [t]) := .mk _ _ _ _ h (by simp) fun u h => by
  simp at h; subst h; exact ht
theorem kZ_wide : Wide Sb.kZ := wide_leaf _ _ _ (by decide)
theorem kF_wide : Wide Sb.kF := wide_one _ _ _ _ (by decide) (wide_leaf _ _ _ (by decide))
theorem k_q1 : Sb.throughs [(0, Sb.kF)] [Sb.kZ] 0 ⟨18, false, 0, 0⟩ = ([Sb.kZ], ⟨17, false, 0, 0⟩) := by kernel_rfl
theorem k_q2 : Sb.throughs [(0, Sb.kF)] [Sb.kX [Sb.kZ]] 0 ⟨19, false, 0, 0⟩ = ([Sb.kC [Sb.kZ]], ⟨14, false, 0, 0⟩) := by kernel_rfl
theorem k_p1 : (Nm.put 100001 Sb.kF [Sb.kZ] ⟨17, false, 0, 0⟩).1 = Sb.kC [Sb.kZ] := by kernel_rfl
theorem k_p2 : (Nm.put 100001 Sb.kF [Sb.kC [Sb.kZ]] ⟨14, false, 0, 0⟩).1 = Sb.kC [Sb.kC [Sb.kZ]] := by kernel_rfl
theorem k_t : Sb.through [(0, Sb.kF)] (Sb.kX [Sb.kX [Sb.kZ]]) 0 ⟨20, false, 0, 0⟩ = (Sb.kC [Sb.kC [Sb.kZ]], ⟨(Sb.through [(0, Sb.kF)] (Sb.kX [Sb.kX [Sb.kZ]]) 0 ⟨20, false, 0, 0⟩).2.left, false, 0, 0⟩) := by kernel_rfl
theorem k_find {u : Tm} (h : Sb.find [(0, Sb.kF)] 0 = some u) : u = Sb.kF := by
  have : Sb.find [(0, Sb.kF)] 0 = some Sb.kF := by rfl
  rw [this] at h; cases h; rfl
theorem kZ_fit : Sb.kZ.Fit := .mk _ _ _ _ (by decide) (by decide) fun t h => by cases h
theorem kC_fit (t : Tm) (h : t.Fit) : (Sb.kC [t]).Fit := .mk _ _ _ _ (by decide) (by decide) fun u hu => by
  simp at hu; subst hu; exact h
theorem k_done1 : DoneOk (Sb.kC [Sb.kZ]) := kA_fit _ (by decide) (kC_fit _ kZ_fit)
theorem k_done2 : DoneOk (Sb.kC [Sb.kC [Sb.kZ]]) := kA_fit _ (by decide) (kC_fit _ (kC_fit _ kZ_fit))
theorem k_rep1 : repOk [(0, Sb.kF)] 2 0 0 (Sb.throughs [(0, Sb.kF)] [Sb.kZ] 0 ⟨18, false, 0, 0⟩) := by
  rw [k_q1]
  intro _ _ u hu
  have := k_find hu; subst this
  have hl : Nm.lift 0 Sb.kF 0 = Sb.kF := by kernel_rfl
  rw [hl]
  refine ⟨kF_wide, kF_wide, fun a h => by simp at h; subst h; exact kZ_wide, fun _ _ => ?_⟩
  dsimp only
  rw [k_p1]; exact k_done1
theorem k_rep2 : repOk [(0, Sb.kF)] 2 0 0 (Sb.throughs [(0, Sb.kF)] [Sb.kX [Sb.kZ]] 0 ⟨19, false, 0, 0⟩) := by
  rw [k_q2]
  intro _ _ u hu
  have := k_find hu; subst this
  have hl : Nm.lift 0 Sb.kF 0 = Sb.kF := by kernel_rfl
  rw [hl]
  refine ⟨kF_wide, kF_wide, fun a h => by simp at h; subst h; exact wide_one _ _ _ _ (by decide) kZ_wide, fun _ _ => ?_⟩
  dsimp only
  rw [k_p2]; exact k_done2
theorem k_th : thOk [(0, Sb.kF)] (Sb.kX [Sb.kX [Sb.kZ]]) 0 ⟨20, false, 0, 0⟩ := by
  have hz : thOk [(0, Sb.kF)] Sb.kZ 0 ⟨18, false, 0, 0⟩ := by
    rw [Sb.kZ, thOk]
    intro _ _
    exact ⟨by rw [thOks]; trivial, fun h => by cases h⟩
  have hx : thOk [(0, Sb.kF)] (Sb.kX [Sb.kZ]) 0 ⟨19, false, 0, 0⟩ := by
    rw [Sb.kX, thOk]
    intro _ _
    have e : Nm.wr (0 + (([] : List Ty).length : Int)) = 0 := by kernel_rfl
    have e2 : (Nm.spend ⟨19, false, 0, 0⟩).2 = ⟨18, false, 0, 0⟩ := by kernel_rfl
    rw [e, e2]
    exact ⟨by rw [thOks, thOks]; exact ⟨hz, trivial⟩, k_rep1⟩
  rw [Sb.kX, thOk]
  intro _ _
  have e : Nm.wr (0 + (([] : List Ty).length : Int)) = 0 := by kernel_rfl
  have e2 : (Nm.spend ⟨20, false, 0, 0⟩).2 = ⟨19, false, 0, 0⟩ := by kernel_rfl
  rw [e, e2]
  exact ⟨by rw [thOks, thOks]; exact ⟨hx, trivial⟩, k_rep2⟩
theorem apply_at (kb : Nat) (l : List (Int × Tm)) (hl : l.length ≤ 1000000) (t : Tm) (ht : Wide t) (left : Int) (dry : Bool) (h0 : 0 ≤ left ∧ left ≤ 1000000000) (ho : Sb.right l = true → thOk l t 0 ⟨left, dry, 0, 0⟩ ∧ ((Sb.through l t 0 ⟨left, dry, 0, 0⟩).2.e = 0 → DoneOk (Sb.through l t 0 ⟨left, dry, 0, 0⟩).1)) :
    CallC Tryz.prog 41 [.sl 5 (ePairs l) none, .ag (eTm t), .o kb] [(.o kb, .ob (BudJ left dry))] [(.o kb, .ob (BudJ (Sb.apply l t left dry).2.left (Sb.apply l t left dry).2.dry))] (.tu [.ag (eTm (Sb.apply l t left dry).1), .v (.int .i64 (Sb.apply l t left dry).2.e)]) := by
  have h := (apply_d l hl t ht left dry h0 ho).ren (fun _ => kb) (by simp [renOk, D.ok, D.oks, rnames, inN, ckey, eTm_ok, ePairs_ok]) (by
    intro k h1 k' h2 _
    simp [rnames] at h1 h2
    rw [h1, h2])
  simpa [D.ren, D.rens, eTm_ren, ePairs_ren, renE, Key.ren] using h
theorem equal_d (t : Tm) : PureC Tryz.prog 43 [.ag (eTm t), .ag (eTm t)] (.v (.bool true)) := by
  refine pure_below (by kernel_rfl) fun m Im w vs hv => ?_
  match vs, hv with
  | [x, y], hv =>
    obtain ⟨b, k, i, a, rfl, ht⟩ := agTm hv.1
    obtain ⟨b', k', i', a', rfl, ht'⟩ := agTm hv.2.1
    refine (equal6_k t _ _ _ _ _ _ ht _ _ _ _ _ _ t ht' w (Keep.refl _ _) (Keep.refl _ _)).mono ?_
    rintro e w' ⟨b, hb, rfl, h2⟩
    rw [hb.2 rfl]
    exact ⟨_, rfl, h2, fun Im' _ hI => .v _⟩
theorem kindOf_d : PureC Tryz.prog 53 [.v (.int .i64 0), .v (.slice none 0 0)] (.ag (eTy Sb.kA)) := by
  refine pure_below (by kernel_rfl) fun m Im w vs hv => ?_
  match vs, hv with
  | [x, y], hv =>
    have := rel_v.1 hv.1; subst this
    have := rel_v.1 hv.2.1; subst this
    refine (of_k 0 (isSl_nil rpTy (fun _ => True) w) (by decide)).mono ?_
    rintro e w' ⟨s, b, rfl, h1, h2⟩
    exact ⟨_, rfl, h2, fun Im' _ hI => rel_ag.2 ⟨_, rfl, rel_of_ty (fun b o v hb hc => hI b o v hb hc) _ h1⟩⟩
theorem k1_d (l : List Tm) : PureC Tryz.prog 54 [.sl 4 (eTms l) none] (.ag (eTm (Sb.kC l))) := by
  refine call_of_dw 0 6 [ResultVar.cell 2 52] TK9_ok (by kernel_rfl) Tryz.func54 rfl Tryz.ntmps54 rfl (by simp) ?dwords ?dbody
  case dwords => simp [wordsOk, D.ok, D.oks, rnames, eTm_ok, eTms_ok]
  case dbody =>
    intro cx hnt hn0
    refine dw_seq ?_
    refine dw_k [] TK9_ok (by kernel_rfl) hnt (by kernel_rfl) (by simp; rfl) ?_
    intro K hK
    refine hK _ _ ?_
    clear hK K
    refine dw_seq ?_
    refine dw_k [] TK9_ok (by kernel_rfl) hnt (by kernel_rfl) (by simp; rfl) ?_
    intro K hK
    refine hK _ _ ?_
    clear hK K
    refine dw_ret ?_
    exact retv (N := 0) (.inr rfl) rfl (by repeat first | exact VLe.refl _ | exact VLe.nil _ | exact VLe.untag _ _ _ | refine VLe.ag ?_ | refine VLe.tu ?_ | refine VLeL.cons ?_ ?_ | exact VLeL.nil) trivial
theorem k2_d (l : List Tm) : PureC Tryz.prog 55 [.sl 4 (eTms l) none] (.ag (eTm (Sb.kX l))) := by
  refine call_of_dw 0 6 [ResultVar.cell 2 52] TK9_ok (by kernel_rfl) Tryz.func55 rfl Tryz.ntmps55 rfl (by simp) ?dwords ?dbody
  case dwords => simp [wordsOk, D.ok, D.oks, rnames, eTm_ok, eTms_ok]
  case dbody =>
    intro cx hnt hn0
    refine dw_seq ?_
    refine dw_k [] TK9_ok (by kernel_rfl) hnt (by kernel_rfl) (by simp; rfl) ?_
    intro K hK
    refine hK _ _ ?_
    clear hK K
    refine dw_seq ?_
    refine dw_k [] TK9_ok (by kernel_rfl) hnt (by kernel_rfl) (by simp; rfl) ?_
    intro K hK
    refine hK _ _ ?_
    clear hK K
    refine dw_ret ?_
    exact retv (N := 0) (.inr rfl) rfl (by repeat first | exact VLe.refl _ | exact VLe.nil _ | exact VLe.untag _ _ _ | refine VLe.ag ?_ | refine VLe.tu ?_ | refine VLeL.cons ?_ ?_ | exact VLeL.nil) trivial
set_option maxHeartbeats 1000000 in
theorem known09_d : PureC Tryz.prog 10 [] (.v (.bool true)) := by
  have hap := fun kb => apply_at kb [(0, Sb.kF)] (by decide) (Sb.kX [Sb.kX [Sb.kZ]]) (wide_one _ _ _ _ (by decide) (wide_one _ _ _ _ (by decide) kZ_wide)) 20 false ⟨by decide, by decide⟩ fun _ => ⟨k_th, fun _ => by rw [k_t]; exact k_done2⟩
  rw [Sb.known_is, Sb.known_ok] at hap
  obtain ⟨bl, hbl⟩ : ∃ bl, (Sb.apply [(0, Sb.kF)] (Sb.kX [Sb.kX [Sb.kZ]]) 20 false).2 = bl := ⟨_, rfl⟩
  rw [hbl] at hap
  clear hbl
  have hof := kindOf_d
  refine call_of_dw 0 46 [ResultVar.tmp 0] TK9_ok (by kernel_rfl) Tryz.func10 rfl Tryz.ntmps10 rfl (by simp) ?dwords ?dbody
  case dwords => rfl
  case dbody =>
    intro cx hnt hn0
    refine dw_seq ?_
    refine dw_k [] TK9_ok (by kernel_rfl) hnt (by kernel_rfl) (by simp; rfl) ?_
    intro K hK
    refine hK _ _ ?_
    clear hK K
    refine dw_seq ?_
    refine dw_k [] TK9_ok (by kernel_rfl) hnt (by kernel_rfl) (by simp; rfl) ?_
    intro K hK
    refine ⟨_, _, _, Or.inl (hof), by repeat first | exact trivial | refine And.intro ⟨rfl, rfl⟩ ?_, ?_⟩
    refine hK _ _ ?_
    clear hK K
    refine dw_seq ?_
    refine dw_k [] TK9_ok (by kernel_rfl) hnt (by kernel_rfl) (by simp; rfl) ?_
    intro K hK
    refine hK _ _ ?_
    clear hK K
    refine dw_seq ?_
    refine dw_k [] TK9_ok (by kernel_rfl) hnt (by kernel_rfl) (by simp; rfl) ?_
    intro K hK
    refine hK _ _ ?_
    clear hK K
    refine dw_seq ?_
    refine dw_k [] TK9_ok (by kernel_rfl) hnt (by kernel_rfl) (by simp; rfl) ?_
    intro K hK
    refine hK _ _ ?_
    clear hK K
    refine dw_seq ?_
    refine dw_k [(12, .ag [.sl 2 [] none, .v (.int .i64 0), .v (.int .i64 0), .sl 4 [] none]), (13, .sl 4 (eTms [Nm.tz]) none)] TK9_ok (by kernel_rfl) hnt (by kernel_rfl) (by simp; rfl) ?_
    intro K hK
    refine And.intro (by repeat first | exact VLe.refl _ | exact VLe.nil _ | exact VLe.untag _ _ _ | refine VLe.ag ?_ | refine VLe.tu ?_ | refine VLeL.cons ?_ ?_ | exact VLeL.nil) ?_
    refine And.intro (VLe.untag _ _ _) ?_
    refine ⟨_, _, _, Or.inl (k1_d [Nm.tz]), by repeat first | exact trivial | refine And.intro ⟨rfl, rfl⟩ ?_, ?_⟩
    refine hK _ _ ?_
    clear hK K
    refine dw_seq ?_
    refine dw_k [(16, .sl 2 (eTys [Sb.kA]) none)] TK9_ok (by kernel_rfl) hnt (by kernel_rfl) (by simp; rfl) ?_
    intro K hK
    refine And.intro (VLe.untag _ _ _) ?_
    refine hK _ _ ?_
    clear hK K
    refine dw_seq ?_
    refine dw_kD [(21, .sl 5 (ePairs [(0, Sb.kF)]) none), (24, .ag [.sl 2 [] none, .v (.int .i64 1), .v (.int .i64 0), .sl 4 [] none]), (25, .sl 4 (eTms [Sb.kZ]) none), (27, .sl 4 (eTms [Sb.kX [Sb.kZ]]) none)] TK9_ok (by kernel_rfl) hnt (by kernel_rfl) (by simp; rfl) ?_
    intro K hK
    refine And.intro (VLe.untag _ _ _) ?_
    refine And.intro (by repeat first | exact VLe.refl _ | exact VLe.nil _ | exact VLe.untag _ _ _ | refine VLe.ag ?_ | refine VLe.tu ?_ | refine VLeL.cons ?_ ?_ | exact VLeL.nil) ?_
    refine And.intro (VLe.untag _ _ _) ?_
    refine ⟨_, _, _, Or.inl (k2_d [Sb.kZ]), by repeat first | exact trivial | refine And.intro ⟨rfl, rfl⟩ ?_, ?_⟩
    refine And.intro (VLe.untag _ _ _) ?_
    refine ⟨_, _, _, Or.inl (k2_d [Sb.kX [Sb.kZ]]), by repeat first | exact trivial | refine And.intro ⟨rfl, rfl⟩ ?_, ?_⟩
    refine ⟨_, _, _, Or.inr (new_d 20 (by decide) _), by repeat first | exact trivial | refine And.intro ⟨rfl, rfl⟩ ?_, ?_⟩
    refine ⟨_, _, _, Or.inl (hap _), by repeat first | exact trivial | refine And.intro ⟨rfl, rfl⟩ ?_, ?_⟩
    refine hK _ _ (by kernel_rfl) ?_
    clear hK K
    refine dw_seq ?_
    refine dw_kD [(39, .ag [.sl 2 [] none, .v (.int .i64 1), .v (.int .i64 0), .sl 4 [] none]), (40, .sl 4 (eTms [Sb.kZ]) none), (42, .sl 4 (eTms [Sb.kC [Sb.kZ]]) none)] TK9_ok (by kernel_rfl) hnt (by kernel_rfl) (by simp; rfl) ?_
    intro K hK
    refine And.intro (by repeat first | exact VLe.refl _ | exact VLe.nil _ | exact VLe.untag _ _ _ | refine VLe.ag ?_ | refine VLe.tu ?_ | refine VLeL.cons ?_ ?_ | exact VLeL.nil) ?_
    refine And.intro (VLe.untag _ _ _) ?_
    refine ⟨_, _, _, Or.inl (k1_d [Sb.kZ]), by repeat first | exact trivial | refine And.intro ⟨rfl, rfl⟩ ?_, ?_⟩
    refine And.intro (VLe.untag _ _ _) ?_
    refine ⟨_, _, _, Or.inl (k1_d [Sb.kC [Sb.kZ]]), by repeat first | exact trivial | refine And.intro ⟨rfl, rfl⟩ ?_, ?_⟩
    refine ⟨_, _, _, Or.inl (equal_d (Sb.kC [Sb.kC [Sb.kZ]])), by repeat first | exact trivial | refine And.intro ⟨rfl, rfl⟩ ?_, ?_⟩
    refine hK _ _ (by kernel_rfl) ?_
    clear hK K
    refine dw_ret ?_
    exact retv (N := 0) (.inr rfl) rfl (VLe.refl _) trivial
end Go.Proofs.YtiblklcfjakjmaaGreat

namespace Go.Proofs.YtiblklcfjakjmaaGreat
open Go.RowKit
theorem wide_full : ∀ t : Tm, t.full ≤ 100000 → Wide t := by
  intro t
  induction t using Tm.ind with
  | h bs k i a ih =>
    intro h
    rw [Tm.full_eq] at h
    have h1 := Ty.le_sizes bs
    have key : ∀ l : List Tm, l.length ≤ Tm.fulls l ∧ ∀ u ∈ l, u.full ≤ Tm.fulls l := by
      intro l
      induction l with
      | nil => exact ⟨by simp, nofun⟩
      | cons t l ihl =>
        have ht : 1 ≤ t.full := by obtain ⟨_, _, _, _⟩ := t; rw [Tm.full_eq]; omega
        simp only [Tm.fulls, List.length_cons]
        refine ⟨by omega, fun u hu => ?_⟩
        rcases List.mem_cons.1 hu with rfl | hu
        · omega
        · have := ihl.2 u hu; omega
    have h2 := key a
    exact .mk _ _ _ _ (by omega) (by omega) fun t ht => ih t ht (by have := h2.2 t ht; omega)
end Go.Proofs.YtiblklcfjakjmaaGreat

namespace Go.Proofs.YtiblklcfjakjmaaGreat
open Go.RowKit
def TQL_25 : TI := ⟨1, false, [Value.slice none 0 0], [], some 63, 24, 5, none, false⟩
theorem TQL_25_ok : TypOk Tryz.prog 25 TQL_25 := ⟨by kernel_rfl, by kernel_rfl, by kernel_rfl, by kernel_rfl, by kernel_rfl⟩
def TQL_30 : TI := ⟨1, false, [Value.slice none 0 0], [], some 99, 24, 5, none, false⟩
theorem TQL_30_ok : TypOk Tryz.prog 30 TQL_30 := ⟨by kernel_rfl, by kernel_rfl, by kernel_rfl, by kernel_rfl, by kernel_rfl⟩
def TQL_47 : TI := ⟨4, true, [Value.slice none 0 0, Value.int IntKind.i64 0, Value.int IntKind.i64 0, Value.slice none 0 0], [(0, 1, false), (1, 2, true), (3, 1, false)], none, 64, 6, none, false⟩
theorem TQL_47_ok : TypOk Tryz.prog 47 TQL_47 := ⟨by kernel_rfl, by kernel_rfl, by kernel_rfl, by kernel_rfl, by kernel_rfl⟩
def TQL_42 : TI := ⟨1, false, [Value.slice none 0 0], [], some 3, 24, 5, none, false⟩
theorem TQL_42_ok : TypOk Tryz.prog 42 TQL_42 := ⟨by kernel_rfl, by kernel_rfl, by kernel_rfl, by kernel_rfl, by kernel_rfl⟩
def TQL_3 : TI := ⟨1, false, [Value.int IntKind.i64 0], [], none, 8, 2, none, false⟩
theorem TQL_3_ok : TypOk Tryz.prog 3 TQL_3 := ⟨by kernel_rfl, by kernel_rfl, by kernel_rfl, by kernel_rfl, by kernel_rfl⟩
def TQL_52 : TI := ⟨4, true, [Value.slice none 0 0, Value.int IntKind.i64 0, Value.int IntKind.i64 0, Value.slice none 0 0], [(0, 1, false), (1, 2, true), (3, 1, false)], none, 64, 6, none, false⟩
theorem TQL_52_ok : TypOk Tryz.prog 52 TQL_52 := ⟨by kernel_rfl, by kernel_rfl, by kernel_rfl, by kernel_rfl, by kernel_rfl⟩
def TQL_32 : TI := ⟨1, false, [Value.int IntKind.i64 0], [], none, 8, 2, none, false⟩
theorem TQL_32_ok : TypOk Tryz.prog 32 TQL_32 := ⟨by kernel_rfl, by kernel_rfl, by kernel_rfl, by kernel_rfl, by kernel_rfl⟩
def TQL_4 : TI := ⟨1, false, [Value.bool false], [], none, 1, 1, none, false⟩
theorem TQL_4_ok : TypOk Tryz.prog 4 TQL_4 := ⟨by kernel_rfl, by kernel_rfl, by kernel_rfl, by kernel_rfl, by kernel_rfl⟩
def TQL_45 : TI := ⟨1, false, [Value.slice none 0 0], [], some 47, 24, 5, none, false⟩
theorem TQL_45_ok : TypOk Tryz.prog 45 TQL_45 := ⟨by kernel_rfl, by kernel_rfl, by kernel_rfl, by kernel_rfl, by kernel_rfl⟩
def TQL_63 : TI := ⟨5, true, [Value.int IntKind.i64 0, Value.slice none 0 0, Value.int IntKind.i64 0, Value.int IntKind.i64 0, Value.slice none 0 0], [(0, 1, false), (1, 4, true)], none, 72, 6, none, false⟩
theorem TQL_63_ok : TypOk Tryz.prog 63 TQL_63 := ⟨by kernel_rfl, by kernel_rfl, by kernel_rfl, by kernel_rfl, by kernel_rfl⟩
def TQL_29 : TI := ⟨1, false, [Value.slice none 0 0], [], some 99, 24, 5, none, false⟩
theorem TQL_29_ok : TypOk Tryz.prog 29 TQL_29 := ⟨by kernel_rfl, by kernel_rfl, by kernel_rfl, by kernel_rfl, by kernel_rfl⟩
def TQL_99 : TI := ⟨5, true, [Value.int IntKind.i64 0, Value.slice none 0 0, Value.int IntKind.i64 0, Value.int IntKind.i64 0, Value.slice none 0 0], [(0, 1, false), (1, 4, true)], none, 72, 6, none, false⟩
theorem TQL_99_ok : TypOk Tryz.prog 99 TQL_99 := ⟨by kernel_rfl, by kernel_rfl, by kernel_rfl, by kernel_rfl, by kernel_rfl⟩
def TQL : List (Nat × TI) := [(25, TQL_25), (30, TQL_30), (47, TQL_47), (42, TQL_42), (3, TQL_3), (52, TQL_52), (32, TQL_32), (4, TQL_4), (45, TQL_45), (63, TQL_63), (29, TQL_29), (99, TQL_99)]
theorem TQL_ok : TabOk Tryz.prog TQL := (((((((((((((TabOk.nil _).cons TQL_99_ok).cons TQL_29_ok).cons TQL_63_ok).cons TQL_45_ok).cons TQL_4_ok).cons TQL_32_ok).cons TQL_52_ok).cons TQL_3_ok).cons TQL_42_ok).cons TQL_47_ok).cons TQL_30_ok).cons TQL_25_ok)

theorem eTms_one (t : Tm) : eTms [t] = [[.sl 2 (eTys t.binds) none, .v (.int .i64 t.kind), .v (.int .i64 t.index), .sl 4 (eTms t.args) none]] := by rw [← eTm_eq]; rfl
theorem getT_ok {l : List (Int × Tm)} {m : Int} (h : ∀ p ∈ l, p.2.full ≤ 150) : (getT l m).1.full ≤ 150 := by
  unfold getT
  cases hg : getP l m with
  | none => simp [Tm.full, Ty.sizes, Tm.fulls]
  | some p => exact h p (getP_mem hg)
theorem cond_T {b : Bool} (h : b = true) : VLe (.v (.bool b)) (.v (.bool true)) := VLe.of_eq (by rw [h])
set_option maxHeartbeats 8000000 in
theorem substLists_d (l m : List (Int × Tm)) (mt : Int) (some : List Int) (t : Tm) (hl : l.length ≤ 9223372036854775807) (hm : m.length ≤ 9223372036854775807) (hs0 : some.length ≤ 9223372036854775807) (hfl : ∀ p ∈ l, p.2.Fit) (hfm : ∀ p ∈ m, p.2.Fit) (hft : t.Fit) :
    PureC Tryz.prog 4 [.sl 5 (ePairs l) none, .sl 5 (ePairs m) none, .v (.int .i64 mt), .sl 1 (eIs some) none, .ag (eTm t)] (.v (.bool true)) := by
  have hk := known09_d
  have hFl := few9_d l hl fun p _ h => wide_full _ (by have := fewB_full h; omega)
  have hFm := few9_d m hm fun p _ h => wide_full _ (by have := fewB_full h; omega)
  have hFt := lawFew_d [t] (by simp)
  have h1t := eTms_one t
  rw [eTm_eq]
  cases hf : few9 l with
  | false =>
    rw [hf] at hFl
    refine call_of_dw 0 168 [ResultVar.tmp 10] TQL_ok (by kernel_rfl) Tryz.func4 rfl Tryz.ntmps4 rfl (by simp) ?dwords ?dbody
    case dwords => simp [wordsOk, D.ok, D.oks, D.okss, rnames, inN, ckey, ePairs_ok, eIs_ok, eTys_ok, eTms_ok]
    case dbody =>
      intro cx hnt hn0
      refine dw_seq ?_
      refine dw_k [] TQL_ok (by kernel_rfl) hnt (by kernel_rfl) (by simp; rfl) ?_
      intro K hK
      refine hK _ _ ?_
      clear hK K
      refine dw_seq ?_
      refine dw_seq ?_
      refine dw_k [] TQL_ok (by kernel_rfl) hnt (by kernel_rfl) (by simp; rfl) ?_
      intro K hK
      refine ⟨_, _, _, Or.inl (hFl), by repeat first | exact trivial | refine And.intro ⟨rfl, rfl⟩ ?_, ?_⟩
      refine hK _ _ ?_
      clear hK K
      refine dw_cond (t := true) rfl ?_
      rw [if_pos rfl]
      refine dw_seq ?_
      refine dw_k [] TQL_ok (by kernel_rfl) hnt (by kernel_rfl) (by simp; rfl) ?_
      intro K hK
      refine ⟨_, _, _, Or.inl (hk), by repeat first | exact trivial | refine And.intro ⟨rfl, rfl⟩ ?_, ?_⟩
      refine hK _ _ ?_
      clear hK K
      refine dw_ret ?_
      exact retv (N := 0) (.inr rfl) rfl (by repeat first | exact VLe.refl _ | exact VLe.nil _ | exact VLe.untag _ _ _ | refine VLe.ag ?_ | refine VLe.tu ?_ | refine VLeL.cons ?_ ?_ | exact VLeL.nil) (by repeat first | exact trivial | refine And.intro rfl ?_)
  | true =>
  cases hf2 : few9 m with
  | false =>
    rw [hf] at hFl
    rw [hf2] at hFm
    refine call_of_dw 0 168 [ResultVar.tmp 10] TQL_ok (by kernel_rfl) Tryz.func4 rfl Tryz.ntmps4 rfl (by simp) ?dwords ?dbody
    case dwords => simp [wordsOk, D.ok, D.oks, D.okss, rnames, inN, ckey, ePairs_ok, eIs_ok, eTys_ok, eTms_ok]
    case dbody =>
      intro cx hnt hn0
      refine dw_seq ?_
      refine dw_k [] TQL_ok (by kernel_rfl) hnt (by kernel_rfl) (by simp; rfl) ?_
      intro K hK
      refine hK _ _ ?_
      clear hK K
      refine dw_seq ?_
      refine dw_seq ?_
      refine dw_k [] TQL_ok (by kernel_rfl) hnt (by kernel_rfl) (by simp; rfl) ?_
      intro K hK
      refine ⟨_, _, _, Or.inl (hFl), by repeat first | exact trivial | refine And.intro ⟨rfl, rfl⟩ ?_, ?_⟩
      refine ⟨_, _, _, Or.inl (hFm), by repeat first | exact trivial | refine And.intro ⟨rfl, rfl⟩ ?_, ?_⟩
      refine hK _ _ ?_
      clear hK K
      refine dw_cond (t := true) rfl ?_
      rw [if_pos rfl]
      refine dw_seq ?_
      refine dw_k [] TQL_ok (by kernel_rfl) hnt (by kernel_rfl) (by simp; rfl) ?_
      intro K hK
      refine ⟨_, _, _, Or.inl (hk), by repeat first | exact trivial | refine And.intro ⟨rfl, rfl⟩ ?_, ?_⟩
      refine hK _ _ ?_
      clear hK K
      refine dw_ret ?_
      exact retv (N := 0) (.inr rfl) rfl (by repeat first | exact VLe.refl _ | exact VLe.nil _ | exact VLe.untag _ _ _ | refine VLe.ag ?_ | refine VLe.tu ?_ | refine VLeL.cons ?_ ?_ | exact VLeL.nil) (by repeat first | exact trivial | refine And.intro rfl ?_)
  | true =>
  cases hf3 : fewB t with
  | false =>
    rw [hf] at hFl
    rw [hf2] at hFm
    rw [show [t].all fewB = false by simp [hf3]] at hFt
    refine call_of_dw 0 168 [ResultVar.tmp 10] TQL_ok (by kernel_rfl) Tryz.func4 rfl Tryz.ntmps4 rfl (by simp) ?dwords ?dbody
    case dwords => simp [wordsOk, D.ok, D.oks, D.okss, rnames, inN, ckey, ePairs_ok, eIs_ok, eTys_ok, eTms_ok]
    case dbody =>
      intro cx hnt hn0
      refine dw_seq ?_
      refine dw_k [] TQL_ok (by kernel_rfl) hnt (by kernel_rfl) (by simp; rfl) ?_
      intro K hK
      refine hK _ _ ?_
      clear hK K
      refine dw_seq ?_
      refine dw_seq ?_
      refine dw_k [(32, .sl 4 (eTms [t]) none)] TQL_ok (by kernel_rfl) hnt (by kernel_rfl) (by simp; rfl) ?_
      intro K hK
      refine ⟨_, _, _, Or.inl (hFl), by repeat first | exact trivial | refine And.intro ⟨rfl, rfl⟩ ?_, ?_⟩
      refine ⟨_, _, _, Or.inl (hFm), by repeat first | exact trivial | refine And.intro ⟨rfl, rfl⟩ ?_, ?_⟩
      refine And.intro ((by rw [h1t]; exact VLe.untag _ _ _)) ?_
      refine ⟨_, _, _, Or.inl (hFt), by repeat first | exact trivial | refine And.intro ⟨rfl, rfl⟩ ?_, ?_⟩
      refine hK _ _ ?_
      clear hK K
      refine dw_cond (t := true) rfl ?_
      rw [if_pos rfl]
      refine dw_seq ?_
      refine dw_k [] TQL_ok (by kernel_rfl) hnt (by kernel_rfl) (by simp; rfl) ?_
      intro K hK
      refine ⟨_, _, _, Or.inl (hk), by repeat first | exact trivial | refine And.intro ⟨rfl, rfl⟩ ?_, ?_⟩
      refine hK _ _ ?_
      clear hK K
      refine dw_ret ?_
      exact retv (N := 0) (.inr rfl) rfl (by repeat first | exact VLe.refl _ | exact VLe.nil _ | exact VLe.untag _ _ _ | refine VLe.ag ?_ | refine VLe.tu ?_ | refine VLeL.cons ?_ ?_ | exact VLeL.nil) (by repeat first | exact trivial | refine And.intro rfl ?_)
  | true =>
  rw [hf] at hFl
  rw [hf2] at hFm
  rw [show [t].all fewB = true by simp [hf3]] at hFt
  have few_mem : ∀ {l : List (Int × Tm)}, few9 l = true → ∀ p ∈ l.take 10, p.2.full ≤ 150 := fun {l} h p hp => by
    have := List.all_eq_true.1 h p hp
    simp only [Bool.and_eq_true] at this
    exact (fewB_full this.1).1
  have hsf := few_mem hf
  have huf := few_mem hf2
  have htf := (fewB_full hf3).1
  have hTl := to9_d l hl fun p hp => by have := hsf p hp; omega
  have hTm := to9_d m hm fun p hp => by have := huf p hp; omega
  have hsF : ∀ p ∈ l.take 10, p.2.Fit := fun p hp => hfl p (List.mem_of_mem_take hp)
  obtain ⟨s, hs⟩ : ∃ s, l.take 10 = s := ⟨_, rfl⟩
  obtain ⟨u, hu⟩ : ∃ u, m.take 10 = u := ⟨_, rfl⟩
  have hsl : s.length ≤ 10 := by rw [← hs, List.length_take]; omega
  have hul : u.length ≤ 10 := by rw [← hu, List.length_take]; omega
  rw [hs] at hTl hsf hsF
  rw [hu] at hTm huf
  obtain ⟨sm, hsm⟩ : ∃ sm, some.take (min some.length 10) = sm := ⟨_, rfl⟩
  have hsml : sm.length ≤ 10 := by rw [← hsm, List.length_take]; omega
  have e41 : (eIs some).take (min some.length 10) = eIs sm := by rw [← hsm]; unfold eIs; rw [List.map_take]
  have hs2 : ∀ p ∈ s, p.2.full ≤ 80000 ∧ p.2.Fit := fun p hp => ⟨by have := hsf p hp; omega, hsF p hp⟩
  have hOs := of9_d s (by omega) fun p hp => by have := hsf p hp; omega
  have hOu := of9_d u (by omega) fun p hp => by have := huf p hp; omega
  have hGf := getT_ok (m := mt) hsf
  have hG1 := sget_d s (by omega) hs2 mt
  have hG2 := rget_d s (by omega) mt
  obtain ⟨⟨G, gb⟩, hg⟩ : ∃ g, getT s mt = g := ⟨_, rfl⟩
  rw [hg] at hG1 hG2 hGf
  dsimp only at hG1 hG2 hGf
  have hOG := of6_d G (by omega)
  have hSG := same2_d G G
  rw [decide_eq_true rfl] at hSG
  obtain ⟨ss, hss⟩ : ∃ ss, So.ss s = ss := ⟨_, rfl⟩
  have hssl : ss.length = s.length := by rw [← hss, So.ss_len]
  have hssm : ∀ p ∈ ss, p ∈ s := fun p hp => (So.ss_same s).mem (by rw [hss]; exact hp)
  have hOf := sOf_d s (by omega) hs2
  have hRs := rsortedN_d s (by omega)
  have hRr := rright_d ss (by omega)
  have hOss := of9_d ss (by omega) fun p hp => by have := hsf p (hssm p hp); omega
  have hSss := rsameP_d ss ss (by omega) (by omega)
  rw [decide_eq_true rfl] at hSss
  rw [hss] at hOf hRs
  have hkl := kept_len [mt] s
  have hksl := So.ss_len (kept [mt] s)
  have hWn := rwithoutN_d s (by omega) [mt] (by simp)
  have hsn := ePairs_snoc (So.ss (kept [mt] s)) (mt, t)
  dsimp only at hsn
  have hRs2 := rsortedN_d (So.ss (kept [mt] s) ++ [(mt, t)]) (by simp [So.ss_len]; omega)
  have hSet := sset_d s (by omega) hs2 mt t (by omega) hft
  obtain ⟨st, hst⟩ : ∃ st, So.ss (So.ss (kept [mt] s) ++ [(mt, t)]) = st := ⟨_, rfl⟩
  have hstl : st.length ≤ 11 := by rw [← hst, So.ss_len]; simp [So.ss_len]; omega
  have hstm : ∀ p ∈ st, p.2.full ≤ 150 := fun p hp => by
    have h := (So.ss_same _).mem (show p ∈ So.ss (So.ss (kept [mt] s) ++ [(mt, t)]) by rw [hst]; exact hp)
    rcases List.mem_append.1 h with h | h
    · exact hsf p (kept_mem ((So.ss_same _).mem h))
    · rw [List.mem_singleton] at h; subst h; exact htf
  rw [hst] at hRs2 hSet
  have hOst := of9_d st (by omega) fun p hp => by have := hstm p hp; omega
  have hSst := rsameP_d st st (by omega) (by omega)
  rw [decide_eq_true rfl] at hSst
  have hTt := to6_d t (by omega)
  have hW1 := withoutN_d s (by omega) hs2 sm (by omega)
  have hW2 := rwithoutN_d s (by omega) sm (by omega)
  have hwl := kept_len sm s
  obtain ⟨wo, hwo⟩ : ∃ wo, So.ss (kept sm s) = wo := ⟨_, rfl⟩
  have hwol : wo.length ≤ 10 := by rw [← hwo, So.ss_len]; omega
  have hwom : ∀ p ∈ wo, p.2.full ≤ 150 := fun p hp => hsf p (kept_mem ((So.ss_same _).mem (by rw [hwo]; exact hp)))
  rw [hwo] at hW1 hW2
  have hOwo := of9_d wo (by omega) fun p hp => by have := hwom p hp; omega
  have hSwo := rsameP_d wo wo (by omega) (by omega)
  rw [decide_eq_true rfl] at hSwo
  have hD1 := domain_d s (by omega)
  have hD2 := rdomain_d s (by omega)
  have hLk := like_d (s.map (·.1)) (s.map (·.1)) (by simp; omega) (by simp; omega)
  rw [decide_eq_true rfl] at hLk
  have hE1 := sequal_d s u (by omega) (by omega)
  have hE2 := rsameP_d s u (by omega) (by omega)
  have hSs := rsameP_d s s (by omega) (by omega)
  rw [decide_eq_true rfl] at hSs
  have hr1 := sright_d s (by omega)
  have hr2 := rright_d s (by omega)
  rw [eTm_eq] at hG1 hG2 hOG hSG hSet hTt
  refine call_of_dw 0 168 [ResultVar.tmp 10] TQL_ok (by kernel_rfl) Tryz.func4 rfl Tryz.ntmps4 rfl (by simp) ?dwords ?dbody
  case dwords => simp [wordsOk, D.ok, D.oks, D.okss, rnames, inN, ckey, ePairs_ok, eIs_ok, eTys_ok, eTms_ok]
  case dbody =>
    intro cx hnt hn0
    refine dw_seq ?_
    refine dw_k [] TQL_ok (by kernel_rfl) hnt (by kernel_rfl) (by simp; rfl) ?_
    intro K hK
    refine hK _ _ ?_
    clear hK K
    refine dw_seq ?_
    refine dw_seq ?_
    refine dw_k [(32, .sl 4 (eTms [t]) none)] TQL_ok (by kernel_rfl) hnt (by kernel_rfl) (by simp; rfl) ?_
    intro K hK
    refine ⟨_, _, _, Or.inl (hFl), by repeat first | exact trivial | refine And.intro ⟨rfl, rfl⟩ ?_, ?_⟩
    refine ⟨_, _, _, Or.inl (hFm), by repeat first | exact trivial | refine And.intro ⟨rfl, rfl⟩ ?_, ?_⟩
    refine And.intro ((by rw [h1t]; exact VLe.untag _ _ _)) ?_
    refine ⟨_, _, _, Or.inl (hFt), by repeat first | exact trivial | refine And.intro ⟨rfl, rfl⟩ ?_, ?_⟩
    refine hK _ _ ?_
    clear hK K
    refine dw_cond (t := false) rfl ?_
    rw [if_neg (by simp)]
    refine dw_skip ?_
    refine dw_seq ?_
    refine dw_k [(39, .v (.int .i64 (↑some.length))), (40, .v (.int .i64 (↑(min some.length 10)))), (41, .sl 1 (eIs sm) none)] TQL_ok (by kernel_rfl) hnt (by kernel_rfl) (by simp; rfl) ?_
    intro K hK
    refine And.intro (dintE (by rw [eIs_len])) ?_
    refine And.intro (dintE (by omega)) ?_
    refine And.intro (⟨by omega, by rw [eIs_len]; omega⟩) ?_
    refine And.intro (VLe.of_eq (congrArg (D.sl 1 · none) e41)) ?_
    refine hK _ _ ?_
    clear hK K
    refine dw_seq ?_
    refine dw_k [] TQL_ok (by kernel_rfl) hnt (by kernel_rfl) (by simp; rfl) ?_
    intro K hK
    refine ⟨_, _, _, Or.inl (hTl), by repeat first | exact trivial | refine And.intro ⟨rfl, rfl⟩ ?_, ?_⟩
    refine ⟨_, _, _, Or.inl (hTm), by repeat first | exact trivial | refine And.intro ⟨rfl, rfl⟩ ?_, ?_⟩
    refine hK _ _ ?_
    clear hK K
    refine dw_seq ?_
    refine dw_k [] TQL_ok (by kernel_rfl) hnt (by kernel_rfl) (by simp; rfl) ?_
    intro K hK
    refine ⟨_, _, _, Or.inl (hOs), by repeat first | exact trivial | refine And.intro ⟨rfl, rfl⟩ ?_, ?_⟩
    refine hK _ _ ?_
    clear hK K
    refine dw_seq ?_
    refine dw_k [] TQL_ok (by kernel_rfl) hnt (by kernel_rfl) (by simp; rfl) ?_
    intro K hK
    refine ⟨_, _, _, Or.inl (hG1), by repeat first | exact trivial | refine And.intro ⟨rfl, rfl⟩ ?_, ?_⟩
    refine hK _ _ ?_
    clear hK K
    refine dw_seq ?_
    refine dw_k [] TQL_ok (by kernel_rfl) hnt (by kernel_rfl) (by simp; rfl) ?_
    intro K hK
    refine ⟨_, _, _, Or.inl (hG2), by repeat first | exact trivial | refine And.intro ⟨rfl, rfl⟩ ?_, ?_⟩
    refine hK _ _ ?_
    clear hK K
    refine dw_seq ?_
    refine dw_k [] TQL_ok (by kernel_rfl) hnt (by kernel_rfl) (by simp; rfl) ?_
    intro K hK
    refine ⟨_, _, _, Or.inl (hOf), by repeat first | exact trivial | refine And.intro ⟨rfl, rfl⟩ ?_, ?_⟩
    refine hK _ _ ?_
    clear hK K
    refine dw_seq ?_
    refine dw_k [(66, .sl 5 (ePairs ss) none)] TQL_ok (by kernel_rfl) hnt (by kernel_rfl) (by simp; rfl) ?_
    intro K hK
    refine ⟨_, _, _, Or.inr (hRs _), by repeat first | exact trivial | refine And.intro ⟨rfl, rfl⟩ ?_, ?_⟩
    refine And.intro (VLe.untag _ _ _) ?_
    refine hK _ _ ?_
    clear hK K
    refine dw_cut (τ := [(.t 2, .v (.int .i64 mt)), (.t 3, .sl 1 (eIs sm) none), (.t 9, .p 0 0), (.t 11, .sl 5 (ePairs s) none), (.t 12, .sl 5 (ePairs u) none), (.t 13, .sl 5 (ePairs s) none), (.t 14, .p 37 0), (.t 15, .v (.bool gb)), (.t 16, .p 46 0), (.t 17, .v (.bool gb)), (.c 0 0, .sl 2 (eTys t.binds) none), (.c 0 1, .v (.int .i64 t.kind)), (.c 0 2, .v (.int .i64 t.index)), (.c 0 3, .sl 4 (eTms t.args) none), (.c 37 0, .sl 2 (eTys G.binds) none), (.c 37 1, .v (.int .i64 G.kind)), (.c 37 2, .v (.int .i64 G.index)), (.c 37 3, .sl 4 (eTms G.args) none), (.c 46 0, .sl 2 (eTys G.binds) none), (.c 46 1, .v (.int .i64 G.kind)), (.c 46 2, .v (.int .i64 G.index)), (.c 46 3, .sl 4 (eTms G.args) none)]) (N1 := 47) ?_ ?_
    · cases hr : Sb.right ss with
      | true =>
        rw [hr] at hRr
        rw [if_pos rfl, if_pos rfl]
        refine dw_seq ?_
        refine dw_k [(70, .v (.bool true)), (71, .v (.bool false)), (74, .v (.bool false)), (87, .v (.bool true))] TQL_ok (by kernel_rfl) hnt (by kernel_rfl) (by simp; rfl) ?_
        intro K hK
        refine ⟨_, _, _, Or.inl (hRr), by repeat first | exact trivial | refine And.intro ⟨rfl, rfl⟩ ?_, ?_⟩
        refine And.intro (VLe.refl _) ?_
        refine And.intro (VLe.refl _) ?_
        refine And.intro (VLe.refl _) ?_
        refine And.intro (VLe.refl _) ?_
        refine ⟨_, _, _, Or.inl (hOss), by repeat first | exact trivial | refine And.intro ⟨rfl, rfl⟩ ?_, ?_⟩
        refine ⟨_, _, _, Or.inl (hSss), by repeat first | exact trivial | refine And.intro ⟨rfl, rfl⟩ ?_, ?_⟩
        refine hK _ _ ?_
        clear hK K
        refine dw_cond (t := false) rfl ?_
        rw [if_neg (by simp)]
        refine dw_skip ?_
        exact cut_ok (VS.toK (by first | omega | simp [hn0]) (by repeat first | exact trivial | refine And.intro (And.intro (by first | rfl | simp [D.ok, D.oks, D.okss, D.okm, eTm_ok, eTy_ok, eTys_ok, eTms_ok, upto, keyOk, ePairs_ok, eIs_ok, eTys_ok, eTms_ok]) (by first | exact Or.inl rfl | exact Or.inr ⟨_, rfl, (by repeat first | exact VLe.refl _ | exact VLe.nil _ | exact VLe.untag _ _ _ | refine VLe.ag ?_ | refine VLe.tu ?_ | refine VLeL.cons ?_ ?_ | exact VLeL.nil), trivial⟩ | simp [get, Key.eq, ePairs_ok, eIs_ok, eTys_ok, eTms_ok])) ?_))
      | false =>
        rw [hr] at hRr
        rw [if_neg (by simp), if_neg (by simp)]
        refine dw_seq ?_
        refine dw_k [(70, .v (.bool false)), (71, .v (.bool false)), (74, .v (.bool true)), (77, .v (.bool false)), (81, .v (.bool false)), (87, .v (.bool false))] TQL_ok (by kernel_rfl) hnt (by kernel_rfl) (by simp; rfl) ?_
        intro K hK
        refine ⟨_, _, _, Or.inl (hRr), by repeat first | exact trivial | refine And.intro ⟨rfl, rfl⟩ ?_, ?_⟩
        refine And.intro (VLe.refl _) ?_
        refine And.intro (VLe.refl _) ?_
        refine And.intro (VLe.refl _) ?_
        refine And.intro (VLe.refl _) ?_
        refine And.intro (VLe.refl _) ?_
        refine And.intro (VLe.refl _) ?_
        refine hK _ _ ?_
        clear hK K
        refine dw_cond (t := false) rfl ?_
        rw [if_neg (by simp)]
        refine dw_skip ?_
        exact cut_ok (VS.toK (by first | omega | simp [hn0]) (by repeat first | exact trivial | refine And.intro (And.intro (by first | rfl | simp [D.ok, D.oks, D.okss, D.okm, eTm_ok, eTy_ok, eTys_ok, eTms_ok, upto, keyOk, ePairs_ok, eIs_ok, eTys_ok, eTms_ok]) (by first | exact Or.inl rfl | exact Or.inr ⟨_, rfl, (by repeat first | exact VLe.refl _ | exact VLe.nil _ | exact VLe.untag _ _ _ | refine VLe.ag ?_ | refine VLe.tu ?_ | refine VLeL.cons ?_ ?_ | exact VLeL.nil), trivial⟩ | simp [get, Key.eq, ePairs_ok, eIs_ok, eTys_ok, eTms_ok])) ?_))
    · skip
      refine dw_seq ?_
      refine dw_kD [(98, .sl 1 (eIs [mt]) none), (104, .sl 5 (ePairs (So.ss (kept [mt] s) ++ [(mt, t)])) none), (105, .sl 5 (ePairs st) none)] TQL_ok (by kernel_rfl) hnt (by kernel_rfl) (by simp; rfl) ?_
      intro K hK
      refine And.intro (VLe.untag _ _ _) ?_
      refine ⟨_, _, _, Or.inr (hWn _), by repeat first | exact trivial | refine And.intro ⟨rfl, rfl⟩ ?_, ?_⟩
      refine And.intro (⟨by rw [ePairs_len, hksl], by rw [ePairs_len, hksl]; simp; omega⟩) ?_
      refine And.intro ((by rw [← hsn]; exact VLe.untag _ _ _)) ?_
      refine ⟨_, _, _, Or.inr (hRs2 _), by repeat first | exact trivial | refine And.intro ⟨rfl, rfl⟩ ?_, ?_⟩
      refine And.intro (VLe.untag _ _ _) ?_
      refine hK _ _ (by kernel_rfl) ?_
      clear hK K
      refine dw_seq ?_
      refine dw_kD [(112, .v (.bool true)), (117, .v (.bool true)), (138, .sl 5 (ePairs wo) none), (142, .sl 5 (ePairs wo) none), (160, .v (.bool true))] TQL_ok (by kernel_rfl) hnt (by kernel_rfl) (by simp; rfl) ?_
      intro K hK
      refine ⟨_, _, _, Or.inl (hk), by repeat first | exact trivial | refine And.intro ⟨rfl, rfl⟩ ?_, ?_⟩
      refine ⟨_, _, _, Or.inl (hr1), by repeat first | exact trivial | refine And.intro ⟨rfl, rfl⟩ ?_, ?_⟩
      refine ⟨_, _, _, Or.inl (hr2), by repeat first | exact trivial | refine And.intro ⟨rfl, rfl⟩ ?_, ?_⟩
      refine And.intro (cond_T (by simp)) ?_
      refine And.intro (cond_T (by simp)) ?_
      refine ⟨_, _, _, Or.inl (hOG), by repeat first | exact trivial | refine And.intro ⟨rfl, rfl⟩ ?_, ?_⟩
      refine ⟨_, _, _, Or.inl (hSG), by repeat first | exact trivial | refine And.intro ⟨rfl, rfl⟩ ?_, ?_⟩
      refine ⟨_, _, _, Or.inl (hTt), by repeat first | exact trivial | refine And.intro ⟨rfl, rfl⟩ ?_, ?_⟩
      refine ⟨_, _, _, Or.inl (hSet), by repeat first | exact trivial | refine And.intro ⟨rfl, rfl⟩ ?_, ?_⟩
      refine ⟨_, _, _, Or.inl (hOst), by repeat first | exact trivial | refine And.intro ⟨rfl, rfl⟩ ?_, ?_⟩
      refine ⟨_, _, _, Or.inl (hSst), by repeat first | exact trivial | refine And.intro ⟨rfl, rfl⟩ ?_, ?_⟩
      refine ⟨_, _, _, Or.inr (hW1 _), by repeat first | exact trivial | refine And.intro ⟨rfl, rfl⟩ ?_, ?_⟩
      refine And.intro (VLe.untag _ _ _) ?_
      refine ⟨_, _, _, Or.inl (hOwo), by repeat first | exact trivial | refine And.intro ⟨rfl, rfl⟩ ?_, ?_⟩
      refine ⟨_, _, _, Or.inr (hW2 _), by repeat first | exact trivial | refine And.intro ⟨rfl, rfl⟩ ?_, ?_⟩
      refine And.intro (VLe.untag _ _ _) ?_
      refine ⟨_, _, _, Or.inl (hSwo), by repeat first | exact trivial | refine And.intro ⟨rfl, rfl⟩ ?_, ?_⟩
      refine ⟨_, _, _, Or.inl (hD1), by repeat first | exact trivial | refine And.intro ⟨rfl, rfl⟩ ?_, ?_⟩
      refine ⟨_, _, _, Or.inl (hD2), by repeat first | exact trivial | refine And.intro ⟨rfl, rfl⟩ ?_, ?_⟩
      refine ⟨_, _, _, Or.inl (hLk), by repeat first | exact trivial | refine And.intro ⟨rfl, rfl⟩ ?_, ?_⟩
      refine ⟨_, _, _, Or.inl (hE1), by repeat first | exact trivial | refine And.intro ⟨rfl, rfl⟩ ?_, ?_⟩
      refine ⟨_, _, _, Or.inl (hOu), by repeat first | exact trivial | refine And.intro ⟨rfl, rfl⟩ ?_, ?_⟩
      refine ⟨_, _, _, Or.inl (hE2), by repeat first | exact trivial | refine And.intro ⟨rfl, rfl⟩ ?_, ?_⟩
      refine And.intro (cond_T (by simp)) ?_
      refine ⟨_, _, _, Or.inl (hOs), by repeat first | exact trivial | refine And.intro ⟨rfl, rfl⟩ ?_, ?_⟩
      refine ⟨_, _, _, Or.inl (hSs), by repeat first | exact trivial | refine And.intro ⟨rfl, rfl⟩ ?_, ?_⟩
      refine hK _ _ (by kernel_rfl) ?_
      clear hK K
      refine dw_ret ?_
      exact retv (N := 0) (.inr rfl) rfl (by repeat first | exact VLe.refl _ | exact VLe.nil _ | exact VLe.untag _ _ _ | refine VLe.ag ?_ | refine VLe.tu ?_ | refine VLeL.cons ?_ ?_ | exact VLeL.nil) (by repeat first | exact trivial | refine And.intro rfl ?_)
end Go.Proofs.YtiblklcfjakjmaaGreat

