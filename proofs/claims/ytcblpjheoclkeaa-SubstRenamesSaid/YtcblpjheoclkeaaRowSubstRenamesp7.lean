/-
  subst.renamed, walked (printed by genownr.py). subst.renamed, walked (printed by genownr.py). subst.renamed, walked (printed by genownr.py). subst.renamed: other numbers, in place. A region that draws its order where several operations can come up. subst.Rename: other numbers. Terms, walked in the deep way: Equal, Eta, Var; the document's Same, Eta, Var. term.Loose. Package pattern, walked in the deep way: what is small. Deep values: a function that hands back a new map. Package pattern, walked in the deep way: Flex, Vars, places, types. Package lift, walked in the deep way: variables, each, term. Deep values: calls that grow rows of their callers. Deep values: rows that nothing else reads: how they begin, how they are handed on. Sorting that keeps the order of equal keys, in plain words. Package slices' stable sort of pairs, walked in the deep way: insertion, swaps, rotation. Package slices' stable sort of pairs, walked in the deep way: the merge. Package slices' stable sort of pairs, walked in the deep way: the merge of many. Package slices' stable sort of pairs, walked in the deep way: the whole; subst.sorted, subst.Of. Package pattern, walked in the deep way: places, types. The laws' helpers of layers 8 and 9: Low, Of. Package pattern, walked in the deep way: turned, Take. Package pattern, walked in the deep way: Take. Package pattern, walked in the deep way: uses, Uses, Is. Places, uses and matching in plain Lean: the document's answer and the program's are one. Package subst's lists, walked in the deep way: Without, Set, Domain, Get. The document's places and uses, walked in the deep way: All, At, Has, Vars, Uses; loose indexes. The document's uses, and what is taken out, walked in the deep way. A loop over a function, whose round writes to what its own assignment laid. The reference's loose indexes, and terms that grow. The document's heads of a term. The document's Heads and Count. term.Count.
-/
import Derived.Test.YtcblpjheoclkeaaRowSubstRenamesp6
import Derived.Test.YtcblpjheoclkeaaRowSubstRenamesp1
import Derived.RegionTactic
import Derived.Test.YtcblpjheoclkeaaRowSubstRenamesp5
import Derived.Test.YtcblpjheoclkeaaRowSubstRenamesp4
import Derived.Deep.QuietTactic
import Derived.BigQuiet
import Derived.WalkSmall
set_option maxRecDepth 100000
set_option maxHeartbeats 1000000
set_option linter.unusedVariables false
set_option linter.unusedSimpArgs false
namespace Go.Proofs.Ytcblpjheoclkeaa
open Go.RowKit

set_option maxRecDepth 100000 in
set_option maxHeartbeats 2000000 in
theorem renamed_a (d : Int) (hdd : -9223372036854775808 ≤ d ∧ d ≤ 9223372036854775807) (binds : List Ty) (k i : Int) (args : List Tm) (ih : ∀ t ∈ args, t.Fit → RenOw d t) (hfit : (Tm.mk binds k i args).Fit) (Z U : Nat → Prop) (w : World) (bv kv iv av : Value) (pe : Nat) (e0 : Int) (ht : IsOw Z w U bv kv iv av (.mk binds k i args)) (hUs : ∀ q, U q → q < w.heap.size) (hZ : ∀ q, Z q → q < w.heap.size ∧ ∀ o, w.frozen? ⟨q, o, none⟩ = false) (hpe : w.cell? ⟨pe, 0, none⟩ = some (.int .i64 e0)) (hpf : w.frozen? ⟨pe, 0, none⟩ = false) (hpU : ¬ U pe) (hk : ¬ k = 2) :
    Calls Try.prog 42 #[.agg #[bv, kv, iv, av], .int .i64 d, .pointer (some ⟨pe, 0, none⟩)] w fun e w' => ∃ i', e = .returned (.agg #[bv, kv, .int .i64 i', av]) ∧ IsOw Z w' U bv kv (.int .i64 i') av (Rn.ren d (.mk binds k i args)) ∧ w'.cell? ⟨pe, 0, none⟩ = some (.int .i64 (Rn.errs d (.mk binds k i args) e0)) ∧ Thaw w w' ∧ Off (fun q => U q ∨ q = pe) w w' := by
  cases ht with
  | mk U Ub Us bv k i a n c binds args bl off PA A PN PC N C Kd Ix hb hn hm ha hr hd h1 h2 h3 h4 h5 =>
  obtain ⟨pa, pc, rfl⟩ := hb.shape
  have hpl : pe < w.heap.size := Keep.lt hpe
  obtain ⟨hi0, hi1, hfa⟩ := Tm.fit_iff.1 hfit
  have hnn : n ≤ 9223372036854775807 := by unfold maxLen at hm; omega
  have Hsum := Lib.hid (sum_k i d ⟨hi0, hi1⟩ hdd)
  have hk2 : (k == 2) = false := by simpa using hk
  go_enter Try.func42, Try.ntmps42
  go_wp2_with fail
  obtain ⟨w3, hw3⟩ : ∃ w3, (w.alloc (.cells #[.slice pa binds.length pc, .int .i64 k, .int .i64 i, .slice a n c] 34)).alloc (.cells #[.slice none 0 0, .int .i64 0, .int .i64 0, .slice none 0 0] 34) = w3 := ⟨_, rfl⟩
  try rw [hw3]
  have B3 : Below w.heap.size w w3 := by rw [← hw3]; exact ((Below.refl _ _).alloc (Nat.le_refl _) _).alloc (by simp) _
  have x0 : Blk w3 w.heap.size #[.slice pa binds.length pc, .int .i64 k, .int .i64 i, .slice a n c] 34 := by rw [← hw3]; exact (Blk.new _ _ _ rfl).alloc _
  have x1 : Blk w3 (w.heap.size + 1) #[.slice none 0 0, .int .i64 0, .int .i64 0, .slice none 0 0] 34 := by rw [← hw3]; exact Blk.new _ _ _ (by simp)
  clear hw3
  have P3 : w3.cell? ⟨pe, 0, none⟩ = some (.int .i64 e0) := (B3.cell (p := ⟨pe, 0, none⟩) hpl).trans hpe
  have F3 : w3.frozen? ⟨pe, 0, none⟩ = false := Thaw.below B3 pe 0 hpl hpf
  have c1 : w3.cell? ⟨w.heap.size, 1, none⟩ = some (.int .i64 k) := x0.cell rfl
  have c2 : w3.cell? ⟨w.heap.size, 2, none⟩ = some (.int .i64 i) := x0.cell rfl
  have c3 : w3.cell? ⟨w.heap.size, 3, none⟩ = some (.slice a n c) := x0.cell rfl
  have O3 := Off.of_below (fun q => q = pe) B3
  have T3 := Thaw.below B3
  go_wp2_with fail
  obtain ⟨w7, hw7⟩ : ∃ w7, w3 = w7 := ⟨_, rfl⟩
  have O7 := O3
  have T7 := T3
  have P7 := P3
  have y0 := x0
  have y1 := x1
  rw [hw7] at O7 T7 P7 y0 y1 ⊢
  clear hw7 O3 T3 P3 x0 x1 B3 F3 c1 c2 c3
  have R0 := RInv.start (d := d) (Z := Z) (U := U) (Ub := Ub) (Us := Us) (w7 := w7) hn (fun h => (ha h).2.1) (fun i q hi h => (hr i q hi h).1) hpU h1 h2 h3 h4 h5 O7 T7 P7
  clear O7 T7 P7
  go_loopw [51] (fun ii wr => ∃ j : Nat, ii = .int .i64 j ∧ j ≤ args.length ∧ Blk wr w.heap.size #[.slice pa binds.length pc, .int .i64 k, .int .i64 i, .slice a n c] 34 ∧ Blk wr (w.heap.size + 1) #[.slice none 0 0, .int .i64 0, .int .i64 0, .slice none 0 0] 34 ∧
    RInv d Z U Ub Us bl off n args PA A PN PC N C Kd pe e0 w j wr) (fun ii _ => args.length - (intOf ii).toNat)
  case atStart => exact ⟨0, rfl, by omega, y0, y1, R0⟩
  case round =>
    clear y0 y1 R0
    obtain ⟨j, rfl, hj, y0, y1, hR⟩ := hrel
    by_cases hlt : j < args.length
    · obtain ⟨rfl, hUb, hZb, hUbb⟩ := ha (by omega)
      clear ha
      obtain ⟨J, r5, r6⟩ := hR.cells
      obtain ⟨q1, q2, q3, q4⟩ := r5 j (by omega)
      have r6j := r6 j hlt
      rw [if_neg (by omega)] at r6j
      have hlt0 : (0 : Int) ≤ (j : Int) := Int.natCast_nonneg _
      have hlt1 : (j : Int) < (n : Int) := by omega
      have hsz := hR.oft.size
      have HR := Lib.hid hR.drew
      have Hc := Lib.hid (ih args[j] (List.getElem_mem hlt) (hfa _ (List.getElem_mem hlt)) Z (Us j) wr.drew _ _ _ _ pe _ (r6j.keep (Keep.refl _ _).drew) (fun q hq => Nat.lt_of_lt_of_le (hUs q (hr j q (by omega) hq).1) hsz)
        (fun q hq => ⟨Nat.lt_of_lt_of_le (hZ q hq).1 hsz, fun o => hR.thaw q o (hZ q hq).1 ((hZ q hq).2 o)⟩) hR.e (hR.thaw pe 0 hpl hpf) fun h => hpU (hr j pe (by omega) h).1)
      have HP : Hid (∀ o, wr.frozen? ⟨bl, o, none⟩ = false) := fun o => hR.thaw bl o (hZ bl hZb).1 ((hZ bl hZb).2 o)
      clear r6 r6j r5 hR ih
      go_wp2_with fail
      refine wp_region_noPanic (wp_region_need (S := fun w' => w'.cell? ⟨w.heap.size, 3, none⟩ = some (.slice (some ⟨bl, off, none⟩) n c) ∧ w'.cell? ⟨bl, off + j * 4, none⟩ = some (.slice (PA j) (PN j) (PC j)) ∧ w'.cell? ⟨bl, off + j * 4 + 1, none⟩ = some (.int .i64 (Kd j)) ∧ w'.cell? ⟨bl, off + j * 4 + 2, none⟩ = some (.int .i64 (J j)) ∧ w'.cell? ⟨bl, off + j * 4 + 3, none⟩ = some (.slice (A j) (N j) (C j))) (by kernel_rfl) ?_)
      have hS : (wr.drew).cell? ⟨w.heap.size, 3, none⟩ = some (.slice (some ⟨bl, off, none⟩) n c) ∧ (wr.drew).cell? ⟨bl, off + j * 4, none⟩ = some (.slice (PA j) (PN j) (PC j)) ∧ (wr.drew).cell? ⟨bl, off + j * 4 + 1, none⟩ = some (.int .i64 (Kd j)) ∧ (wr.drew).cell? ⟨bl, off + j * 4 + 2, none⟩ = some (.int .i64 (J j)) ∧ (wr.drew).cell? ⟨bl, off + j * 4 + 3, none⟩ = some (.slice (A j) (N j) (C j)) := ⟨y0.drew.cell rfl, q1, q2, q3, q4⟩
      refine wpN_take (i := 0) (v := ?v1) rfl (by kernel_rfl) (fun _ _ _ h => h) hS (Or.inl ⟨by rfl, ?hy1⟩) ?hr1
      case hy1 => (intro wS hSw; (try dsimp only at hSw); go_simp; (try with_reducible rfl))
      try simp only [Act.put, List.setIfInBounds_toArray, List.set_cons_zero, List.set_cons_succ, List.getElem_toArray, List.getElem_cons_zero, List.getElem_cons_succ]
      refine wpN_take (i := 1) (v := ?v2) rfl (by kernel_rfl) (fun _ _ _ h => h) hS (Or.inl ⟨by rfl, ?hy2⟩) ?hr2
      case hy2 => (intro wS hSw; (try dsimp only at hSw); go_simp; (try with_reducible rfl))
      try simp only [Act.put, List.setIfInBounds_toArray, List.set_cons_zero, List.set_cons_succ, List.getElem_toArray, List.getElem_cons_zero, List.getElem_cons_succ]
      refine wpN_take (i := 2) (v := ?v3) rfl (by kernel_rfl) (fun _ _ _ h => h) hS (Or.inl ⟨by rfl, ?hy3⟩) ?hr3
      case hy3 => (intro wS hSw; (try dsimp only at hSw); go_simp; (try with_reducible rfl))
      try simp only [Act.put, List.setIfInBounds_toArray, List.set_cons_zero, List.set_cons_succ, List.getElem_toArray, List.getElem_cons_zero, List.getElem_cons_succ]
      refine wpN_take (i := 3) (v := ?v4) rfl (by kernel_rfl) (fun _ _ _ h => h) hS (Or.inl ⟨by rfl, ?hy4⟩) ?hr4
      case hy4 => (intro wS hSw; (try dsimp only at hSw); go_simp; (try with_reducible rfl))
      try simp only [Act.put, List.setIfInBounds_toArray, List.set_cons_zero, List.set_cons_succ, List.getElem_toArray, List.getElem_cons_zero, List.getElem_cons_succ]
      refine wpN_take (i := 4) (v := ?v5) rfl (by kernel_rfl) (fun _ _ _ h => h) hS (Or.inl ⟨by rfl, ?hy5⟩) ?hr5
      case hy5 => (intro wS hSw; (try dsimp only at hSw); go_simp; (try with_reducible rfl))
      try simp only [Act.put, List.setIfInBounds_toArray, List.set_cons_zero, List.set_cons_succ, List.getElem_toArray, List.getElem_cons_zero, List.getElem_cons_succ]
      refine wpN_take (i := 5) (v := ?v6) rfl (by kernel_rfl) (fun _ _ _ h => h) hS (Or.inl ⟨by rfl, ?hy6⟩) ?hr6
      case hy6 => (intro wS hSw; (try dsimp only at hSw); go_simp; (try with_reducible rfl))
      try simp only [Act.put, List.setIfInBounds_toArray, List.set_cons_zero, List.set_cons_succ, List.getElem_toArray, List.getElem_cons_zero, List.getElem_cons_succ]
      refine wpN_take (i := 6) (v := ?v7) rfl (by kernel_rfl) (fun _ _ _ h => h) hS (Or.inl ⟨by rfl, ?hy7⟩) ?hr7
      case hy7 => (intro wS hSw; (try dsimp only at hSw); go_simp; (try with_reducible rfl))
      try simp only [Act.put, List.setIfInBounds_toArray, List.set_cons_zero, List.set_cons_succ, List.getElem_toArray, List.getElem_cons_zero, List.getElem_cons_succ]
      refine wpN_take (i := 7) (v := ?v8) rfl (by kernel_rfl) (fun _ _ _ h => h) hS (Or.inl ⟨by rfl, ?hy8⟩) ?hr8
      case hy8 => (intro wS hSw; (try dsimp only at hSw); go_simp; (try with_reducible rfl))
      try simp only [Act.put, List.setIfInBounds_toArray, List.set_cons_zero, List.set_cons_succ, List.getElem_toArray, List.getElem_cons_zero, List.getElem_cons_succ]
      refine wpN_take (i := 8) (v := ?v9) rfl (by kernel_rfl) (fun _ _ _ h => h) hS (Or.inl ⟨by rfl, ?hy9⟩) ?hr9
      case hy9 => (intro wS hSw; (try dsimp only at hSw); go_simp; (try with_reducible rfl))
      try simp only [Act.put, List.setIfInBounds_toArray, List.set_cons_zero, List.set_cons_succ, List.getElem_toArray, List.getElem_cons_zero, List.getElem_cons_succ]
      refine wpN_take (i := 9) (v := ?v10) rfl (by kernel_rfl) (fun _ _ _ h => h) hS (Or.inl ⟨by rfl, ?hy10⟩) ?hr10
      case hy10 => (intro wS hSw; (try dsimp only at hSw); go_simp; (try with_reducible rfl))
      try simp only [Act.put, List.setIfInBounds_toArray, List.set_cons_zero, List.set_cons_succ, List.getElem_toArray, List.getElem_cons_zero, List.getElem_cons_succ]
      refine wpN_step (i := 10) (by kernel_rfl) rfl (fun K hK => ?_)
      go_simp
      refine Hc.out.mono ?_
      rintro e w5 ⟨i', rfl, g1, g2, g3, g4⟩
      have hKp : Keep (fun q => q = bl) wr.drew w5 := g4.keep fun q hq e => by
        subst hq
        rcases e with e | e
        · exact (hr j q (by omega) e).2.1 rfl
        · exact hpU (e ▸ hUb)
      have hnq : ∀ x, ¬ (Us j (w.heap.size + x) ∨ w.heap.size + x = pe) := fun x e => by
        rcases e with e | e
        · have := hUs _ (hr j _ (by omega) e).1; omega
        · omega
      have z0 := g4.blk (y0.drew) (hnq 0)
      have z1 := g4.blk (y1.drew) (hnq 1)
      have HS := Lib.hid (HR.out.step hn hlt (fun h => ⟨hUb, hUbb⟩) hr hd hpU hpl g1 g2 g3 g4)
      have p0 := hKp _ _ _ rfl (show wr.drew.cell? _ = _ from q1)
      have p1 := hKp _ _ _ rfl (show wr.drew.cell? _ = _ from q2)
      have p2 := hKp _ _ _ rfl (show wr.drew.cell? _ = _ from q3)
      have p3 := hKp _ _ _ rfl (show wr.drew.cell? _ = _ from q4)
      have f0 := g3 bl (off + j * 4) (Keep.lt q1) (HP.out _)
      have f1 := g3 bl (off + j * 4 + 1) (Keep.lt q1) (HP.out _)
      have f2 := g3 bl (off + j * 4 + 2) (Keep.lt q1) (HP.out _)
      have f3 := g3 bl (off + j * 4 + 3) (Keep.lt q1) (HP.out _)
      have hS : (w5).cell? ⟨w.heap.size, 3, none⟩ = some (.slice (some ⟨bl, off, none⟩) n c) ∧ (w5).cell? ⟨bl, off + j * 4, none⟩ = some (.slice (PA j) (PN j) (PC j)) ∧ (w5).cell? ⟨bl, off + j * 4 + 1, none⟩ = some (.int .i64 (Kd j)) ∧ (w5).cell? ⟨bl, off + j * 4 + 2, none⟩ = some (.int .i64 (J j)) ∧ (w5).cell? ⟨bl, off + j * 4 + 3, none⟩ = some (.slice (A j) (N j) (C j)) := ⟨z0.cell rfl, p0, p1, p2, p3⟩
      clear g1 g2 g3 g4 HR Hc q1 q2 q3 q4
      refine hK.out _ _ (fun _ => hS) ?_
      clear hK K
      try simp only [Act.put, List.setIfInBounds_toArray, List.set_cons_zero, List.set_cons_succ, List.getElem_toArray, List.getElem_cons_zero, List.getElem_cons_succ]
      refine wpN_take (i := 11) (v := ?v11) rfl (by kernel_rfl) (fun _ _ _ h => h) hS (Or.inl ⟨by rfl, ?hy11⟩) ?hr11
      case hy11 => (intro wS hSw; (try dsimp only at hSw); go_simp; (try with_reducible rfl))
      try simp only [Act.put, List.setIfInBounds_toArray, List.set_cons_zero, List.set_cons_succ, List.getElem_toArray, List.getElem_cons_zero, List.getElem_cons_succ]
      refine wpN_step (i := 12) (by kernel_rfl) rfl (fun K hK => ?_)
      go_simp
      refine hK.out _ _ (fun h => absurd h (by decide)) ?_
      clear hK K
      try simp only [Act.put, List.setIfInBounds_toArray, List.set_cons_zero, List.set_cons_succ, List.getElem_toArray, List.getElem_cons_zero, List.getElem_cons_succ]
      refine wpN_done (by kernel_rfl) ?_
      refine NoPanic.normal ?_
      have hbq : ∀ x, w.heap.size + x ≠ bl := fun x e => by have := hUs _ hUb; omega
      go_wp2_with fail
      refine ⟨⟨j + 1, by go_num, by omega, ?_, ?_, HS.out⟩, by simp [intOf]; omega⟩
      · exact (((z0.far _ _ (hbq 0)).far _ _ (hbq 0)).far _ _ (hbq 0)).far _ _ (hbq 0)
      · exact (((z1.far _ _ (hbq 1)).far _ _ (hbq 1)).far _ _ (hbq 1)).far _ _ (hbq 1)
    · have d0 : wr.cell? ⟨w.heap.size, 0, none⟩ = some (.slice pa binds.length pc) := y0.cell rfl
      have d1 : wr.cell? ⟨w.heap.size, 1, none⟩ = some (.int .i64 k) := y0.cell rfl
      have d2 : wr.cell? ⟨w.heap.size, 2, none⟩ = some (.int .i64 i) := y0.cell rfl
      have d3 : wr.cell? ⟨w.heap.size, 3, none⟩ = some (.slice a n c) := y0.cell rfl
      have r0 : wr.cell? ⟨w.heap.size + 1, 0, none⟩ = some (.slice none 0 0) := y1.cell rfl
      have r1 : wr.cell? ⟨w.heap.size + 1, 1, none⟩ = some (.int .i64 0) := y1.cell rfl
      have r2 : wr.cell? ⟨w.heap.size + 1, 2, none⟩ = some (.int .i64 0) := y1.cell rfl
      have r3 : wr.cell? ⟨w.heap.size + 1, 3, none⟩ = some (.slice none 0 0) := y1.cell rfl
      have f0 := y1.free 0
      have f1 := y1.free 1
      have f2 := y1.free 2
      have f3 := y1.free 3
      have HD := Lib.hid (hR.done hn (by omega) hb hm ha hr hd k i)
      have HO := Lib.hid hR.oft
      have HT := Lib.hid hR.thaw
      have hqn : ¬ U (w.heap.size + 1) := fun h => by have := hUs _ h; omega
      have hlj : ¬ (j : Int) < (n : Int) := by omega
      clear hR y0 y1 ih hb
      go_wp2_with fail
      refine bodyPost_ret (v := .agg #[.slice pa binds.length pc, .int .i64 k, .int .i64 i, .slice a n c]) (by simp [results, Try.results42, go_sem, r0, r1, r2, r3]) rfl ?_
      obtain ⟨w9, hw9⟩ : ∃ w9, ((((wr.setCell ⟨w.heap.size + 1, 0, none⟩ (.slice pa binds.length pc)).setCell ⟨w.heap.size + 1, 1, none⟩ (.int .i64 k)).setCell ⟨w.heap.size + 1, 2, none⟩ (.int .i64 i)).setCell ⟨w.heap.size + 1, 3, none⟩ (.slice a n c)) = w9 := ⟨_, rfl⟩
      have hk9 : Keep (fun q => q ≠ w.heap.size + 1) wr w9 := by rw [← hw9]; exact ((((Keep.refl _ _).setCell _ _ (by simp)).setCell _ _ (by simp)).setCell _ _ (by simp)).setCell _ _ (by simp)
      have hf9 : ∀ q o, w9.frozen? ⟨q, o, none⟩ = wr.frozen? ⟨q, o, none⟩ := fun q o => by rw [← hw9]; simp
      have ho9 : Off (fun q => U q ∨ q = pe) w w9 := by
        rw [← hw9]
        exact (((HO.out.set _ _ (.inr (by simp))).set _ _ (.inr (by simp))).set _ _ (.inr (by simp))).set _ _ (.inr (by simp))
      rw [hw9]
      refine ⟨i, rfl, ?_, ?_, fun q o hq hf => (hf9 q o).trans (HT.out q o hq hf), ho9⟩
      · rw [Rn.ren_eq, if_neg hk]
        exact HD.out.1.keep (hk9.weaken fun q hq e => hqn (e ▸ hq))
      · rw [Rn.errs_eq, if_neg hk]
        exact hk9 _ _ _ (by omega) HD.out.2
set_option maxRecDepth 100000 in
set_option maxHeartbeats 2000000 in
theorem renamed_b (d : Int) (hdd : -9223372036854775808 ≤ d ∧ d ≤ 9223372036854775807) (binds : List Ty) (k i : Int) (args : List Tm) (ih : ∀ t ∈ args, t.Fit → RenOw d t) (hfit : (Tm.mk binds k i args).Fit) (Z U : Nat → Prop) (w : World) (bv kv iv av : Value) (pe : Nat) (e0 : Int) (ht : IsOw Z w U bv kv iv av (.mk binds k i args)) (hUs : ∀ q, U q → q < w.heap.size) (hZ : ∀ q, Z q → q < w.heap.size ∧ ∀ o, w.frozen? ⟨q, o, none⟩ = false) (hpe : w.cell? ⟨pe, 0, none⟩ = some (.int .i64 e0)) (hpf : w.frozen? ⟨pe, 0, none⟩ = false) (hpU : ¬ U pe)  (hk : k = 2) (c1 : ¬ Rn.sm i d < 0) (c2 : ¬ Rn.sm i d > 1000) :
    Calls Try.prog 42 #[.agg #[bv, kv, iv, av], .int .i64 d, .pointer (some ⟨pe, 0, none⟩)] w fun e w' => ∃ i', e = .returned (.agg #[bv, kv, .int .i64 i', av]) ∧ IsOw Z w' U bv kv (.int .i64 i') av (Rn.ren d (.mk binds k i args)) ∧ w'.cell? ⟨pe, 0, none⟩ = some (.int .i64 (Rn.errs d (.mk binds k i args) e0)) ∧ Thaw w w' ∧ Off (fun q => U q ∨ q = pe) w w' := by
  cases ht with
  | mk U Ub Us bv k i a n c binds args bl off PA A PN PC N C Kd Ix hb hn hm ha hr hd h1 h2 h3 h4 h5 =>
  obtain ⟨pa, pc, rfl⟩ := hb.shape
  have hpl : pe < w.heap.size := Keep.lt hpe
  obtain ⟨hi0, hi1, hfa⟩ := Tm.fit_iff.1 hfit
  have hnn : n ≤ 9223372036854775807 := by unfold maxLen at hm; omega
  have Hsum := Lib.hid (sum_k i d ⟨hi0, hi1⟩ hdd)
  obtain rfl := hk
  obtain ⟨m, hmm⟩ : ∃ m, Rn.sm i d = m := ⟨_, rfl⟩
  rw [hmm] at Hsum c1 c2
  have IFN : Hid (Rn.note (Rn.sm i d) e0 = e0) := by show _ = _; rw [hmm]; unfold Rn.note Rn.code; rw [if_neg c1, if_neg c2, if_neg (by simp)]
  go_enter Try.func42, Try.ntmps42
  go_wp2_with fail
  obtain ⟨w3, hw3⟩ : ∃ w3, (w.alloc (.cells #[.slice pa binds.length pc, .int .i64 2, .int .i64 i, .slice a n c] 34)).alloc (.cells #[.slice none 0 0, .int .i64 0, .int .i64 0, .slice none 0 0] 34) = w3 := ⟨_, rfl⟩
  try rw [hw3]
  have B3 : Below w.heap.size w w3 := by rw [← hw3]; exact ((Below.refl _ _).alloc (Nat.le_refl _) _).alloc (by simp) _
  have x0 : Blk w3 w.heap.size #[.slice pa binds.length pc, .int .i64 2, .int .i64 i, .slice a n c] 34 := by rw [← hw3]; exact (Blk.new _ _ _ rfl).alloc _
  have x1 : Blk w3 (w.heap.size + 1) #[.slice none 0 0, .int .i64 0, .int .i64 0, .slice none 0 0] 34 := by rw [← hw3]; exact Blk.new _ _ _ (by simp)
  clear hw3
  have P3 : w3.cell? ⟨pe, 0, none⟩ = some (.int .i64 e0) := (B3.cell (p := ⟨pe, 0, none⟩) hpl).trans hpe
  have F3 : w3.frozen? ⟨pe, 0, none⟩ = false := Thaw.below B3 pe 0 hpl hpf
  have k1 : w3.cell? ⟨w.heap.size, 1, none⟩ = some (.int .i64 2) := x0.cell rfl
  have k2 : w3.cell? ⟨w.heap.size, 2, none⟩ = some (.int .i64 i) := x0.cell rfl
  have k3 : w3.cell? ⟨w.heap.size, 3, none⟩ = some (.slice a n c) := x0.cell rfl
  have O3 := Off.of_below (fun q => q = pe) B3
  have T3 := Thaw.below B3
  go_wp2_with fail
  refine (Hsum.out w3).mono ?_
  rintro e w4 ⟨rfl, rfl⟩
  have g2 := x0.free 2
  have hne : (⟨w.heap.size, 2, none⟩ : Addr) ≠ ⟨pe, 0, none⟩ := fun e => by cases e
  obtain ⟨w5, hw5⟩ : ∃ w5, w4.setCell ⟨w.heap.size, 2, none⟩ (.int .i64 m) = w5 := ⟨_, rfl⟩
  have O5 := O3.set ⟨w.heap.size, 2, none⟩ (.int .i64 m) (.inr (Nat.le_refl _))
  have T5 := T3.trans (Thaw.set w4 ⟨w.heap.size, 2, none⟩ (.int .i64 m)) B3.size
  have P5 : (w4.setCell ⟨w.heap.size, 2, none⟩ (.int .i64 m)).cell? ⟨pe, 0, none⟩ = some (.int .i64 e0) := by rw [World.cell?_setCell_other _ _ _ _ hne]; exact P3
  have F5 : (w4.setCell ⟨w.heap.size, 2, none⟩ (.int .i64 m)).frozen? ⟨pe, 0, none⟩ = false := by rw [World.frozen?_setCell]; exact F3
  have y0 := x0.set 2 (.int .i64 m)
  have y1 := x1.far ⟨w.heap.size, 2, none⟩ (.int .i64 m) (by simp)
  have c5 : (w4.setCell ⟨w.heap.size, 2, none⟩ (.int .i64 m)).cell? ⟨w.heap.size, 2, none⟩ = some (.int .i64 m) := World.cell?_setCell_same _ _ _ k2
  have c53 : (w4.setCell ⟨w.heap.size, 2, none⟩ (.int .i64 m)).cell? ⟨w.heap.size, 3, none⟩ = some (.slice a n c) := y0.cell rfl
  have S5 : w.heap.size ≤ (w4.setCell ⟨w.heap.size, 2, none⟩ (.int .i64 m)).heap.size := by simpa using B3.size
  rw [hw5] at O5 T5 P5 F5 y0 y1 c5 c53 S5
  clear x0 x1 B3 O3 T3 P3 F3
  go_wp2_with fail
  clear hw5
  obtain ⟨w7, hw7⟩ : ∃ w7, w5 = w7 := ⟨_, rfl⟩
  have O7 := O5
  have T7 := T5
  have P7 := P5
  rw [hw7] at O7 T7 P7 y0 y1 ⊢
  clear hw7 O5 T5 P5 F5 c5 c53 S5 k1 k2 k3 g2
  have R0 := RInv.start (d := d) (Z := Z) (U := U) (Ub := Ub) (Us := Us) (w7 := w7) hn (fun h => (ha h).2.1) (fun i q hi h => (hr i q hi h).1) hpU h1 h2 h3 h4 h5 O7 T7 P7
  clear O7 T7 P7
  go_loopw [51] (fun ii wr => ∃ j : Nat, ii = .int .i64 j ∧ j ≤ args.length ∧ Blk wr w.heap.size #[.slice pa binds.length pc, .int .i64 2, .int .i64 m, .slice a n c] 34 ∧ Blk wr (w.heap.size + 1) #[.slice none 0 0, .int .i64 0, .int .i64 0, .slice none 0 0] 34 ∧
    RInv d Z U Ub Us bl off n args PA A PN PC N C Kd pe e0 w j wr) (fun ii _ => args.length - (intOf ii).toNat)
  case atStart => exact ⟨0, rfl, by omega, y0, y1, R0⟩
  case round =>
    clear y0 y1 R0
    obtain ⟨j, rfl, hj, y0, y1, hR⟩ := hrel
    by_cases hlt : j < args.length
    · obtain ⟨rfl, hUb, hZb, hUbb⟩ := ha (by omega)
      clear ha
      obtain ⟨J, r5, r6⟩ := hR.cells
      obtain ⟨q1, q2, q3, q4⟩ := r5 j (by omega)
      have r6j := r6 j hlt
      rw [if_neg (by omega)] at r6j
      have hlt0 : (0 : Int) ≤ (j : Int) := Int.natCast_nonneg _
      have hlt1 : (j : Int) < (n : Int) := by omega
      have hsz := hR.oft.size
      have HR := Lib.hid hR.drew
      have Hc := Lib.hid (ih args[j] (List.getElem_mem hlt) (hfa _ (List.getElem_mem hlt)) Z (Us j) wr.drew _ _ _ _ pe _ (r6j.keep (Keep.refl _ _).drew) (fun q hq => Nat.lt_of_lt_of_le (hUs q (hr j q (by omega) hq).1) hsz)
        (fun q hq => ⟨Nat.lt_of_lt_of_le (hZ q hq).1 hsz, fun o => hR.thaw q o (hZ q hq).1 ((hZ q hq).2 o)⟩) hR.e (hR.thaw pe 0 hpl hpf) fun h => hpU (hr j pe (by omega) h).1)
      have HP : Hid (∀ o, wr.frozen? ⟨bl, o, none⟩ = false) := fun o => hR.thaw bl o (hZ bl hZb).1 ((hZ bl hZb).2 o)
      clear r6 r6j r5 hR ih
      go_wp2_with fail
      refine wp_region_noPanic (wp_region_need (S := fun w' => w'.cell? ⟨w.heap.size, 3, none⟩ = some (.slice (some ⟨bl, off, none⟩) n c) ∧ w'.cell? ⟨bl, off + j * 4, none⟩ = some (.slice (PA j) (PN j) (PC j)) ∧ w'.cell? ⟨bl, off + j * 4 + 1, none⟩ = some (.int .i64 (Kd j)) ∧ w'.cell? ⟨bl, off + j * 4 + 2, none⟩ = some (.int .i64 (J j)) ∧ w'.cell? ⟨bl, off + j * 4 + 3, none⟩ = some (.slice (A j) (N j) (C j))) (by kernel_rfl) ?_)
      have hS : (wr.drew).cell? ⟨w.heap.size, 3, none⟩ = some (.slice (some ⟨bl, off, none⟩) n c) ∧ (wr.drew).cell? ⟨bl, off + j * 4, none⟩ = some (.slice (PA j) (PN j) (PC j)) ∧ (wr.drew).cell? ⟨bl, off + j * 4 + 1, none⟩ = some (.int .i64 (Kd j)) ∧ (wr.drew).cell? ⟨bl, off + j * 4 + 2, none⟩ = some (.int .i64 (J j)) ∧ (wr.drew).cell? ⟨bl, off + j * 4 + 3, none⟩ = some (.slice (A j) (N j) (C j)) := ⟨y0.drew.cell rfl, q1, q2, q3, q4⟩
      refine wpN_take (i := 0) (v := ?v12) rfl (by kernel_rfl) (fun _ _ _ h => h) hS (Or.inl ⟨by rfl, ?hy12⟩) ?hr12
      case hy12 => (intro wS hSw; (try dsimp only at hSw); go_simp; (try with_reducible rfl))
      try simp only [Act.put, List.setIfInBounds_toArray, List.set_cons_zero, List.set_cons_succ, List.getElem_toArray, List.getElem_cons_zero, List.getElem_cons_succ]
      refine wpN_take (i := 1) (v := ?v13) rfl (by kernel_rfl) (fun _ _ _ h => h) hS (Or.inl ⟨by rfl, ?hy13⟩) ?hr13
      case hy13 => (intro wS hSw; (try dsimp only at hSw); go_simp; (try with_reducible rfl))
      try simp only [Act.put, List.setIfInBounds_toArray, List.set_cons_zero, List.set_cons_succ, List.getElem_toArray, List.getElem_cons_zero, List.getElem_cons_succ]
      refine wpN_take (i := 2) (v := ?v14) rfl (by kernel_rfl) (fun _ _ _ h => h) hS (Or.inl ⟨by rfl, ?hy14⟩) ?hr14
      case hy14 => (intro wS hSw; (try dsimp only at hSw); go_simp; (try with_reducible rfl))
      try simp only [Act.put, List.setIfInBounds_toArray, List.set_cons_zero, List.set_cons_succ, List.getElem_toArray, List.getElem_cons_zero, List.getElem_cons_succ]
      refine wpN_take (i := 3) (v := ?v15) rfl (by kernel_rfl) (fun _ _ _ h => h) hS (Or.inl ⟨by rfl, ?hy15⟩) ?hr15
      case hy15 => (intro wS hSw; (try dsimp only at hSw); go_simp; (try with_reducible rfl))
      try simp only [Act.put, List.setIfInBounds_toArray, List.set_cons_zero, List.set_cons_succ, List.getElem_toArray, List.getElem_cons_zero, List.getElem_cons_succ]
      refine wpN_take (i := 4) (v := ?v16) rfl (by kernel_rfl) (fun _ _ _ h => h) hS (Or.inl ⟨by rfl, ?hy16⟩) ?hr16
      case hy16 => (intro wS hSw; (try dsimp only at hSw); go_simp; (try with_reducible rfl))
      try simp only [Act.put, List.setIfInBounds_toArray, List.set_cons_zero, List.set_cons_succ, List.getElem_toArray, List.getElem_cons_zero, List.getElem_cons_succ]
      refine wpN_take (i := 5) (v := ?v17) rfl (by kernel_rfl) (fun _ _ _ h => h) hS (Or.inl ⟨by rfl, ?hy17⟩) ?hr17
      case hy17 => (intro wS hSw; (try dsimp only at hSw); go_simp; (try with_reducible rfl))
      try simp only [Act.put, List.setIfInBounds_toArray, List.set_cons_zero, List.set_cons_succ, List.getElem_toArray, List.getElem_cons_zero, List.getElem_cons_succ]
      refine wpN_take (i := 6) (v := ?v18) rfl (by kernel_rfl) (fun _ _ _ h => h) hS (Or.inl ⟨by rfl, ?hy18⟩) ?hr18
      case hy18 => (intro wS hSw; (try dsimp only at hSw); go_simp; (try with_reducible rfl))
      try simp only [Act.put, List.setIfInBounds_toArray, List.set_cons_zero, List.set_cons_succ, List.getElem_toArray, List.getElem_cons_zero, List.getElem_cons_succ]
      refine wpN_take (i := 7) (v := ?v19) rfl (by kernel_rfl) (fun _ _ _ h => h) hS (Or.inl ⟨by rfl, ?hy19⟩) ?hr19
      case hy19 => (intro wS hSw; (try dsimp only at hSw); go_simp; (try with_reducible rfl))
      try simp only [Act.put, List.setIfInBounds_toArray, List.set_cons_zero, List.set_cons_succ, List.getElem_toArray, List.getElem_cons_zero, List.getElem_cons_succ]
      refine wpN_take (i := 8) (v := ?v20) rfl (by kernel_rfl) (fun _ _ _ h => h) hS (Or.inl ⟨by rfl, ?hy20⟩) ?hr20
      case hy20 => (intro wS hSw; (try dsimp only at hSw); go_simp; (try with_reducible rfl))
      try simp only [Act.put, List.setIfInBounds_toArray, List.set_cons_zero, List.set_cons_succ, List.getElem_toArray, List.getElem_cons_zero, List.getElem_cons_succ]
      refine wpN_take (i := 9) (v := ?v21) rfl (by kernel_rfl) (fun _ _ _ h => h) hS (Or.inl ⟨by rfl, ?hy21⟩) ?hr21
      case hy21 => (intro wS hSw; (try dsimp only at hSw); go_simp; (try with_reducible rfl))
      try simp only [Act.put, List.setIfInBounds_toArray, List.set_cons_zero, List.set_cons_succ, List.getElem_toArray, List.getElem_cons_zero, List.getElem_cons_succ]
      refine wpN_step (i := 10) (by kernel_rfl) rfl (fun K hK => ?_)
      go_simp
      refine Hc.out.mono ?_
      rintro e w5 ⟨i', rfl, g1, g2, g3, g4⟩
      have hKp : Keep (fun q => q = bl) wr.drew w5 := g4.keep fun q hq e => by
        subst hq
        rcases e with e | e
        · exact (hr j q (by omega) e).2.1 rfl
        · exact hpU (e ▸ hUb)
      have hnq : ∀ x, ¬ (Us j (w.heap.size + x) ∨ w.heap.size + x = pe) := fun x e => by
        rcases e with e | e
        · have := hUs _ (hr j _ (by omega) e).1; omega
        · omega
      have z0 := g4.blk (y0.drew) (hnq 0)
      have z1 := g4.blk (y1.drew) (hnq 1)
      have HS := Lib.hid (HR.out.step hn hlt (fun h => ⟨hUb, hUbb⟩) hr hd hpU hpl g1 g2 g3 g4)
      have p0 := hKp _ _ _ rfl (show wr.drew.cell? _ = _ from q1)
      have p1 := hKp _ _ _ rfl (show wr.drew.cell? _ = _ from q2)
      have p2 := hKp _ _ _ rfl (show wr.drew.cell? _ = _ from q3)
      have p3 := hKp _ _ _ rfl (show wr.drew.cell? _ = _ from q4)
      have f0 := g3 bl (off + j * 4) (Keep.lt q1) (HP.out _)
      have f1 := g3 bl (off + j * 4 + 1) (Keep.lt q1) (HP.out _)
      have f2 := g3 bl (off + j * 4 + 2) (Keep.lt q1) (HP.out _)
      have f3 := g3 bl (off + j * 4 + 3) (Keep.lt q1) (HP.out _)
      have hS : (w5).cell? ⟨w.heap.size, 3, none⟩ = some (.slice (some ⟨bl, off, none⟩) n c) ∧ (w5).cell? ⟨bl, off + j * 4, none⟩ = some (.slice (PA j) (PN j) (PC j)) ∧ (w5).cell? ⟨bl, off + j * 4 + 1, none⟩ = some (.int .i64 (Kd j)) ∧ (w5).cell? ⟨bl, off + j * 4 + 2, none⟩ = some (.int .i64 (J j)) ∧ (w5).cell? ⟨bl, off + j * 4 + 3, none⟩ = some (.slice (A j) (N j) (C j)) := ⟨z0.cell rfl, p0, p1, p2, p3⟩
      clear g1 g2 g3 g4 HR Hc q1 q2 q3 q4
      refine hK.out _ _ (fun _ => hS) ?_
      clear hK K
      try simp only [Act.put, List.setIfInBounds_toArray, List.set_cons_zero, List.set_cons_succ, List.getElem_toArray, List.getElem_cons_zero, List.getElem_cons_succ]
      refine wpN_take (i := 11) (v := ?v22) rfl (by kernel_rfl) (fun _ _ _ h => h) hS (Or.inl ⟨by rfl, ?hy22⟩) ?hr22
      case hy22 => (intro wS hSw; (try dsimp only at hSw); go_simp; (try with_reducible rfl))
      try simp only [Act.put, List.setIfInBounds_toArray, List.set_cons_zero, List.set_cons_succ, List.getElem_toArray, List.getElem_cons_zero, List.getElem_cons_succ]
      refine wpN_step (i := 12) (by kernel_rfl) rfl (fun K hK => ?_)
      go_simp
      refine hK.out _ _ (fun h => absurd h (by decide)) ?_
      clear hK K
      try simp only [Act.put, List.setIfInBounds_toArray, List.set_cons_zero, List.set_cons_succ, List.getElem_toArray, List.getElem_cons_zero, List.getElem_cons_succ]
      refine wpN_done (by kernel_rfl) ?_
      refine NoPanic.normal ?_
      have hbq : ∀ x, w.heap.size + x ≠ bl := fun x e => by have := hUs _ hUb; omega
      go_wp2_with fail
      refine ⟨⟨j + 1, by go_num, by omega, ?_, ?_, HS.out⟩, by simp [intOf]; omega⟩
      · exact (((z0.far _ _ (hbq 0)).far _ _ (hbq 0)).far _ _ (hbq 0)).far _ _ (hbq 0)
      · exact (((z1.far _ _ (hbq 1)).far _ _ (hbq 1)).far _ _ (hbq 1)).far _ _ (hbq 1)
    · have d0 : wr.cell? ⟨w.heap.size, 0, none⟩ = some (.slice pa binds.length pc) := y0.cell rfl
      have d1 : wr.cell? ⟨w.heap.size, 1, none⟩ = some (.int .i64 2) := y0.cell rfl
      have d2 : wr.cell? ⟨w.heap.size, 2, none⟩ = some (.int .i64 m) := y0.cell rfl
      have d3 : wr.cell? ⟨w.heap.size, 3, none⟩ = some (.slice a n c) := y0.cell rfl
      have r0 : wr.cell? ⟨w.heap.size + 1, 0, none⟩ = some (.slice none 0 0) := y1.cell rfl
      have r1 : wr.cell? ⟨w.heap.size + 1, 1, none⟩ = some (.int .i64 0) := y1.cell rfl
      have r2 : wr.cell? ⟨w.heap.size + 1, 2, none⟩ = some (.int .i64 0) := y1.cell rfl
      have r3 : wr.cell? ⟨w.heap.size + 1, 3, none⟩ = some (.slice none 0 0) := y1.cell rfl
      have f0 := y1.free 0
      have f1 := y1.free 1
      have f2 := y1.free 2
      have f3 := y1.free 3
      have HD := Lib.hid (hR.done hn (by omega) hb hm ha hr hd 2 m)
      have HO := Lib.hid hR.oft
      have HT := Lib.hid hR.thaw
      have hqn : ¬ U (w.heap.size + 1) := fun h => by have := hUs _ h; omega
      have hlj : ¬ (j : Int) < (n : Int) := by omega
      clear hR y0 y1 ih hb
      go_wp2_with fail
      refine bodyPost_ret (v := .agg #[.slice pa binds.length pc, .int .i64 2, .int .i64 m, .slice a n c]) (by simp [results, Try.results42, go_sem, r0, r1, r2, r3]) rfl ?_
      obtain ⟨w9, hw9⟩ : ∃ w9, ((((wr.setCell ⟨w.heap.size + 1, 0, none⟩ (.slice pa binds.length pc)).setCell ⟨w.heap.size + 1, 1, none⟩ (.int .i64 2)).setCell ⟨w.heap.size + 1, 2, none⟩ (.int .i64 m)).setCell ⟨w.heap.size + 1, 3, none⟩ (.slice a n c)) = w9 := ⟨_, rfl⟩
      have hk9 : Keep (fun q => q ≠ w.heap.size + 1) wr w9 := by rw [← hw9]; exact ((((Keep.refl _ _).setCell _ _ (by simp)).setCell _ _ (by simp)).setCell _ _ (by simp)).setCell _ _ (by simp)
      have hf9 : ∀ q o, w9.frozen? ⟨q, o, none⟩ = wr.frozen? ⟨q, o, none⟩ := fun q o => by rw [← hw9]; simp
      have ho9 : Off (fun q => U q ∨ q = pe) w w9 := by
        rw [← hw9]
        exact (((HO.out.set _ _ (.inr (by simp))).set _ _ (.inr (by simp))).set _ _ (.inr (by simp))).set _ _ (.inr (by simp))
      rw [hw9]
      refine ⟨m, rfl, ?_, ?_, fun q o hq hf => (hf9 q o).trans (HT.out q o hq hf), ho9⟩
      · rw [Rn.ren_eq, if_pos rfl, hmm]
        exact HD.out.1.keep (hk9.weaken fun q hq e => hqn (e ▸ hq))
      · rw [Rn.errs_eq, if_pos rfl, IFN.out]
        exact hk9 _ _ _ (by omega) HD.out.2
end Go.Proofs.Ytcblpjheoclkeaa

namespace Go.Proofs.Ytcblpjheoclkeaa
open Go.RowKit

set_option maxRecDepth 100000 in
set_option maxHeartbeats 2000000 in
theorem renamed_c1 (d : Int) (hdd : -9223372036854775808 ≤ d ∧ d ≤ 9223372036854775807) (binds : List Ty) (k i : Int) (args : List Tm) (ih : ∀ t ∈ args, t.Fit → RenOw d t) (hfit : (Tm.mk binds k i args).Fit) (Z U : Nat → Prop) (w : World) (bv kv iv av : Value) (pe : Nat) (e0 : Int) (ht : IsOw Z w U bv kv iv av (.mk binds k i args)) (hUs : ∀ q, U q → q < w.heap.size) (hZ : ∀ q, Z q → q < w.heap.size ∧ ∀ o, w.frozen? ⟨q, o, none⟩ = false) (hpe : w.cell? ⟨pe, 0, none⟩ = some (.int .i64 e0)) (hpf : w.frozen? ⟨pe, 0, none⟩ = false) (hpU : ¬ U pe)  (hk : k = 2) (c1 : Rn.sm i d < 0) (c2 : e0 = 0) :
    Calls Try.prog 42 #[.agg #[bv, kv, iv, av], .int .i64 d, .pointer (some ⟨pe, 0, none⟩)] w fun e w' => ∃ i', e = .returned (.agg #[bv, kv, .int .i64 i', av]) ∧ IsOw Z w' U bv kv (.int .i64 i') av (Rn.ren d (.mk binds k i args)) ∧ w'.cell? ⟨pe, 0, none⟩ = some (.int .i64 (Rn.errs d (.mk binds k i args) e0)) ∧ Thaw w w' ∧ Off (fun q => U q ∨ q = pe) w w' := by
  cases ht with
  | mk U Ub Us bv k i a n c binds args bl off PA A PN PC N C Kd Ix hb hn hm ha hr hd h1 h2 h3 h4 h5 =>
  obtain ⟨pa, pc, rfl⟩ := hb.shape
  have hpl : pe < w.heap.size := Keep.lt hpe
  obtain ⟨hi0, hi1, hfa⟩ := Tm.fit_iff.1 hfit
  have hnn : n ≤ 9223372036854775807 := by unfold maxLen at hm; omega
  have Hsum := Lib.hid (sum_k i d ⟨hi0, hi1⟩ hdd)
  obtain rfl := hk
  obtain ⟨m, hmm⟩ : ∃ m, Rn.sm i d = m := ⟨_, rfl⟩
  rw [hmm] at Hsum c1
  have IFN : Hid (Rn.note (Rn.sm i d) 0 = 1) := by show _ = _; rw [hmm]; unfold Rn.note Rn.code; rw [if_pos c1]; rw [if_pos ⟨by decide, .inl rfl⟩]
  have c2' := c2
  go_enter Try.func42, Try.ntmps42
  go_wp2_with fail
  obtain ⟨w3, hw3⟩ : ∃ w3, (w.alloc (.cells #[.slice pa binds.length pc, .int .i64 2, .int .i64 i, .slice a n c] 34)).alloc (.cells #[.slice none 0 0, .int .i64 0, .int .i64 0, .slice none 0 0] 34) = w3 := ⟨_, rfl⟩
  try rw [hw3]
  have B3 : Below w.heap.size w w3 := by rw [← hw3]; exact ((Below.refl _ _).alloc (Nat.le_refl _) _).alloc (by simp) _
  have x0 : Blk w3 w.heap.size #[.slice pa binds.length pc, .int .i64 2, .int .i64 i, .slice a n c] 34 := by rw [← hw3]; exact (Blk.new _ _ _ rfl).alloc _
  have x1 : Blk w3 (w.heap.size + 1) #[.slice none 0 0, .int .i64 0, .int .i64 0, .slice none 0 0] 34 := by rw [← hw3]; exact Blk.new _ _ _ (by simp)
  clear hw3
  have P3 : w3.cell? ⟨pe, 0, none⟩ = some (.int .i64 e0) := (B3.cell (p := ⟨pe, 0, none⟩) hpl).trans hpe
  have F3 : w3.frozen? ⟨pe, 0, none⟩ = false := Thaw.below B3 pe 0 hpl hpf
  have k1 : w3.cell? ⟨w.heap.size, 1, none⟩ = some (.int .i64 2) := x0.cell rfl
  have k2 : w3.cell? ⟨w.heap.size, 2, none⟩ = some (.int .i64 i) := x0.cell rfl
  have k3 : w3.cell? ⟨w.heap.size, 3, none⟩ = some (.slice a n c) := x0.cell rfl
  have O3 := Off.of_below (fun q => q = pe) B3
  have T3 := Thaw.below B3
  go_wp2_with fail
  refine (Hsum.out w3).mono ?_
  rintro e w4 ⟨rfl, rfl⟩
  have g2 := x0.free 2
  have hne : (⟨w.heap.size, 2, none⟩ : Addr) ≠ ⟨pe, 0, none⟩ := fun e => by cases e
  obtain ⟨w5, hw5⟩ : ∃ w5, w4.setCell ⟨w.heap.size, 2, none⟩ (.int .i64 m) = w5 := ⟨_, rfl⟩
  have O5 := O3.set ⟨w.heap.size, 2, none⟩ (.int .i64 m) (.inr (Nat.le_refl _))
  have T5 := T3.trans (Thaw.set w4 ⟨w.heap.size, 2, none⟩ (.int .i64 m)) B3.size
  have P5 : (w4.setCell ⟨w.heap.size, 2, none⟩ (.int .i64 m)).cell? ⟨pe, 0, none⟩ = some (.int .i64 e0) := by rw [World.cell?_setCell_other _ _ _ _ hne]; exact P3
  have F5 : (w4.setCell ⟨w.heap.size, 2, none⟩ (.int .i64 m)).frozen? ⟨pe, 0, none⟩ = false := by rw [World.frozen?_setCell]; exact F3
  have y0 := x0.set 2 (.int .i64 m)
  have y1 := x1.far ⟨w.heap.size, 2, none⟩ (.int .i64 m) (by simp)
  have c5 : (w4.setCell ⟨w.heap.size, 2, none⟩ (.int .i64 m)).cell? ⟨w.heap.size, 2, none⟩ = some (.int .i64 m) := World.cell?_setCell_same _ _ _ k2
  have c53 : (w4.setCell ⟨w.heap.size, 2, none⟩ (.int .i64 m)).cell? ⟨w.heap.size, 3, none⟩ = some (.slice a n c) := y0.cell rfl
  have S5 : w.heap.size ≤ (w4.setCell ⟨w.heap.size, 2, none⟩ (.int .i64 m)).heap.size := by simpa using B3.size
  rw [hw5] at O5 T5 P5 F5 y0 y1 c5 c53 S5
  clear x0 x1 B3 O3 T3 P3 F3
  have hpq : ∀ x, w.heap.size + x ≠ pe := fun x => by omega
  obtain ⟨w7, hw7⟩ : ∃ w7, w5.setCell ⟨pe, 0, none⟩ (.int .i64 1) = w7 := ⟨_, rfl⟩
  have O7 := O5.set ⟨pe, 0, none⟩ (.int .i64 1) (.inl rfl)
  have T7 := T5.trans (Thaw.set w5 ⟨pe, 0, none⟩ (.int .i64 1)) S5
  have P7 : (w5.setCell ⟨pe, 0, none⟩ (.int .i64 1)).cell? ⟨pe, 0, none⟩ = some (.int .i64 1) := World.cell?_setCell_same _ _ _ P5
  have y0 := y0.far ⟨pe, 0, none⟩ (.int .i64 1) (hpq 0)
  have y1 := y1.far ⟨pe, 0, none⟩ (.int .i64 1) (hpq 1)
  rw [hw7] at O7 T7 P7 y0 y1
  have c73 : w7.cell? ⟨w.heap.size, 3, none⟩ = some (.slice a n c) := y0.cell rfl
  go_wp2_with fail
  clear hw7 hw5 O5 T5 P5 F5 c5 c53 S5 c73 k1 k2 k3 g2
  have R0 := RInv.start (d := d) (Z := Z) (U := U) (Ub := Ub) (Us := Us) (w7 := w7) hn (fun h => (ha h).2.1) (fun i q hi h => (hr i q hi h).1) hpU h1 h2 h3 h4 h5 O7 T7 P7
  clear O7 T7 P7
  go_loopw [51] (fun ii wr => ∃ j : Nat, ii = .int .i64 j ∧ j ≤ args.length ∧ Blk wr w.heap.size #[.slice pa binds.length pc, .int .i64 2, .int .i64 m, .slice a n c] 34 ∧ Blk wr (w.heap.size + 1) #[.slice none 0 0, .int .i64 0, .int .i64 0, .slice none 0 0] 34 ∧
    RInv d Z U Ub Us bl off n args PA A PN PC N C Kd pe 1 w j wr) (fun ii _ => args.length - (intOf ii).toNat)
  case atStart => exact ⟨0, rfl, by omega, y0, y1, R0⟩
  case round =>
    clear y0 y1 R0
    obtain ⟨j, rfl, hj, y0, y1, hR⟩ := hrel
    by_cases hlt : j < args.length
    · obtain ⟨rfl, hUb, hZb, hUbb⟩ := ha (by omega)
      clear ha
      obtain ⟨J, r5, r6⟩ := hR.cells
      obtain ⟨q1, q2, q3, q4⟩ := r5 j (by omega)
      have r6j := r6 j hlt
      rw [if_neg (by omega)] at r6j
      have hlt0 : (0 : Int) ≤ (j : Int) := Int.natCast_nonneg _
      have hlt1 : (j : Int) < (n : Int) := by omega
      have hsz := hR.oft.size
      have HR := Lib.hid hR.drew
      have Hc := Lib.hid (ih args[j] (List.getElem_mem hlt) (hfa _ (List.getElem_mem hlt)) Z (Us j) wr.drew _ _ _ _ pe _ (r6j.keep (Keep.refl _ _).drew) (fun q hq => Nat.lt_of_lt_of_le (hUs q (hr j q (by omega) hq).1) hsz)
        (fun q hq => ⟨Nat.lt_of_lt_of_le (hZ q hq).1 hsz, fun o => hR.thaw q o (hZ q hq).1 ((hZ q hq).2 o)⟩) hR.e (hR.thaw pe 0 hpl hpf) fun h => hpU (hr j pe (by omega) h).1)
      have HP : Hid (∀ o, wr.frozen? ⟨bl, o, none⟩ = false) := fun o => hR.thaw bl o (hZ bl hZb).1 ((hZ bl hZb).2 o)
      clear r6 r6j r5 hR ih
      go_wp2_with fail
      refine wp_region_noPanic (wp_region_need (S := fun w' => w'.cell? ⟨w.heap.size, 3, none⟩ = some (.slice (some ⟨bl, off, none⟩) n c) ∧ w'.cell? ⟨bl, off + j * 4, none⟩ = some (.slice (PA j) (PN j) (PC j)) ∧ w'.cell? ⟨bl, off + j * 4 + 1, none⟩ = some (.int .i64 (Kd j)) ∧ w'.cell? ⟨bl, off + j * 4 + 2, none⟩ = some (.int .i64 (J j)) ∧ w'.cell? ⟨bl, off + j * 4 + 3, none⟩ = some (.slice (A j) (N j) (C j))) (by kernel_rfl) ?_)
      have hS : (wr.drew).cell? ⟨w.heap.size, 3, none⟩ = some (.slice (some ⟨bl, off, none⟩) n c) ∧ (wr.drew).cell? ⟨bl, off + j * 4, none⟩ = some (.slice (PA j) (PN j) (PC j)) ∧ (wr.drew).cell? ⟨bl, off + j * 4 + 1, none⟩ = some (.int .i64 (Kd j)) ∧ (wr.drew).cell? ⟨bl, off + j * 4 + 2, none⟩ = some (.int .i64 (J j)) ∧ (wr.drew).cell? ⟨bl, off + j * 4 + 3, none⟩ = some (.slice (A j) (N j) (C j)) := ⟨y0.drew.cell rfl, q1, q2, q3, q4⟩
      refine wpN_take (i := 0) (v := ?v1) rfl (by kernel_rfl) (fun _ _ _ h => h) hS (Or.inl ⟨by rfl, ?hy1⟩) ?hr1
      case hy1 => (intro wS hSw; (try dsimp only at hSw); go_simp; (try with_reducible rfl))
      try simp only [Act.put, List.setIfInBounds_toArray, List.set_cons_zero, List.set_cons_succ, List.getElem_toArray, List.getElem_cons_zero, List.getElem_cons_succ]
      refine wpN_take (i := 1) (v := ?v2) rfl (by kernel_rfl) (fun _ _ _ h => h) hS (Or.inl ⟨by rfl, ?hy2⟩) ?hr2
      case hy2 => (intro wS hSw; (try dsimp only at hSw); go_simp; (try with_reducible rfl))
      try simp only [Act.put, List.setIfInBounds_toArray, List.set_cons_zero, List.set_cons_succ, List.getElem_toArray, List.getElem_cons_zero, List.getElem_cons_succ]
      refine wpN_take (i := 2) (v := ?v3) rfl (by kernel_rfl) (fun _ _ _ h => h) hS (Or.inl ⟨by rfl, ?hy3⟩) ?hr3
      case hy3 => (intro wS hSw; (try dsimp only at hSw); go_simp; (try with_reducible rfl))
      try simp only [Act.put, List.setIfInBounds_toArray, List.set_cons_zero, List.set_cons_succ, List.getElem_toArray, List.getElem_cons_zero, List.getElem_cons_succ]
      refine wpN_take (i := 3) (v := ?v4) rfl (by kernel_rfl) (fun _ _ _ h => h) hS (Or.inl ⟨by rfl, ?hy4⟩) ?hr4
      case hy4 => (intro wS hSw; (try dsimp only at hSw); go_simp; (try with_reducible rfl))
      try simp only [Act.put, List.setIfInBounds_toArray, List.set_cons_zero, List.set_cons_succ, List.getElem_toArray, List.getElem_cons_zero, List.getElem_cons_succ]
      refine wpN_take (i := 4) (v := ?v5) rfl (by kernel_rfl) (fun _ _ _ h => h) hS (Or.inl ⟨by rfl, ?hy5⟩) ?hr5
      case hy5 => (intro wS hSw; (try dsimp only at hSw); go_simp; (try with_reducible rfl))
      try simp only [Act.put, List.setIfInBounds_toArray, List.set_cons_zero, List.set_cons_succ, List.getElem_toArray, List.getElem_cons_zero, List.getElem_cons_succ]
      refine wpN_take (i := 5) (v := ?v6) rfl (by kernel_rfl) (fun _ _ _ h => h) hS (Or.inl ⟨by rfl, ?hy6⟩) ?hr6
      case hy6 => (intro wS hSw; (try dsimp only at hSw); go_simp; (try with_reducible rfl))
      try simp only [Act.put, List.setIfInBounds_toArray, List.set_cons_zero, List.set_cons_succ, List.getElem_toArray, List.getElem_cons_zero, List.getElem_cons_succ]
      refine wpN_take (i := 6) (v := ?v7) rfl (by kernel_rfl) (fun _ _ _ h => h) hS (Or.inl ⟨by rfl, ?hy7⟩) ?hr7
      case hy7 => (intro wS hSw; (try dsimp only at hSw); go_simp; (try with_reducible rfl))
      try simp only [Act.put, List.setIfInBounds_toArray, List.set_cons_zero, List.set_cons_succ, List.getElem_toArray, List.getElem_cons_zero, List.getElem_cons_succ]
      refine wpN_take (i := 7) (v := ?v8) rfl (by kernel_rfl) (fun _ _ _ h => h) hS (Or.inl ⟨by rfl, ?hy8⟩) ?hr8
      case hy8 => (intro wS hSw; (try dsimp only at hSw); go_simp; (try with_reducible rfl))
      try simp only [Act.put, List.setIfInBounds_toArray, List.set_cons_zero, List.set_cons_succ, List.getElem_toArray, List.getElem_cons_zero, List.getElem_cons_succ]
      refine wpN_take (i := 8) (v := ?v9) rfl (by kernel_rfl) (fun _ _ _ h => h) hS (Or.inl ⟨by rfl, ?hy9⟩) ?hr9
      case hy9 => (intro wS hSw; (try dsimp only at hSw); go_simp; (try with_reducible rfl))
      try simp only [Act.put, List.setIfInBounds_toArray, List.set_cons_zero, List.set_cons_succ, List.getElem_toArray, List.getElem_cons_zero, List.getElem_cons_succ]
      refine wpN_take (i := 9) (v := ?v10) rfl (by kernel_rfl) (fun _ _ _ h => h) hS (Or.inl ⟨by rfl, ?hy10⟩) ?hr10
      case hy10 => (intro wS hSw; (try dsimp only at hSw); go_simp; (try with_reducible rfl))
      try simp only [Act.put, List.setIfInBounds_toArray, List.set_cons_zero, List.set_cons_succ, List.getElem_toArray, List.getElem_cons_zero, List.getElem_cons_succ]
      refine wpN_step (i := 10) (by kernel_rfl) rfl (fun K hK => ?_)
      go_simp
      refine Hc.out.mono ?_
      rintro e w5 ⟨i', rfl, g1, g2, g3, g4⟩
      have hKp : Keep (fun q => q = bl) wr.drew w5 := g4.keep fun q hq e => by
        subst hq
        rcases e with e | e
        · exact (hr j q (by omega) e).2.1 rfl
        · exact hpU (e ▸ hUb)
      have hnq : ∀ x, ¬ (Us j (w.heap.size + x) ∨ w.heap.size + x = pe) := fun x e => by
        rcases e with e | e
        · have := hUs _ (hr j _ (by omega) e).1; omega
        · omega
      have z0 := g4.blk (y0.drew) (hnq 0)
      have z1 := g4.blk (y1.drew) (hnq 1)
      have HS := Lib.hid (HR.out.step hn hlt (fun h => ⟨hUb, hUbb⟩) hr hd hpU hpl g1 g2 g3 g4)
      have p0 := hKp _ _ _ rfl (show wr.drew.cell? _ = _ from q1)
      have p1 := hKp _ _ _ rfl (show wr.drew.cell? _ = _ from q2)
      have p2 := hKp _ _ _ rfl (show wr.drew.cell? _ = _ from q3)
      have p3 := hKp _ _ _ rfl (show wr.drew.cell? _ = _ from q4)
      have f0 := g3 bl (off + j * 4) (Keep.lt q1) (HP.out _)
      have f1 := g3 bl (off + j * 4 + 1) (Keep.lt q1) (HP.out _)
      have f2 := g3 bl (off + j * 4 + 2) (Keep.lt q1) (HP.out _)
      have f3 := g3 bl (off + j * 4 + 3) (Keep.lt q1) (HP.out _)
      have hS : (w5).cell? ⟨w.heap.size, 3, none⟩ = some (.slice (some ⟨bl, off, none⟩) n c) ∧ (w5).cell? ⟨bl, off + j * 4, none⟩ = some (.slice (PA j) (PN j) (PC j)) ∧ (w5).cell? ⟨bl, off + j * 4 + 1, none⟩ = some (.int .i64 (Kd j)) ∧ (w5).cell? ⟨bl, off + j * 4 + 2, none⟩ = some (.int .i64 (J j)) ∧ (w5).cell? ⟨bl, off + j * 4 + 3, none⟩ = some (.slice (A j) (N j) (C j)) := ⟨z0.cell rfl, p0, p1, p2, p3⟩
      clear g1 g2 g3 g4 HR Hc q1 q2 q3 q4
      refine hK.out _ _ (fun _ => hS) ?_
      clear hK K
      try simp only [Act.put, List.setIfInBounds_toArray, List.set_cons_zero, List.set_cons_succ, List.getElem_toArray, List.getElem_cons_zero, List.getElem_cons_succ]
      refine wpN_take (i := 11) (v := ?v11) rfl (by kernel_rfl) (fun _ _ _ h => h) hS (Or.inl ⟨by rfl, ?hy11⟩) ?hr11
      case hy11 => (intro wS hSw; (try dsimp only at hSw); go_simp; (try with_reducible rfl))
      try simp only [Act.put, List.setIfInBounds_toArray, List.set_cons_zero, List.set_cons_succ, List.getElem_toArray, List.getElem_cons_zero, List.getElem_cons_succ]
      refine wpN_step (i := 12) (by kernel_rfl) rfl (fun K hK => ?_)
      go_simp
      refine hK.out _ _ (fun h => absurd h (by decide)) ?_
      clear hK K
      try simp only [Act.put, List.setIfInBounds_toArray, List.set_cons_zero, List.set_cons_succ, List.getElem_toArray, List.getElem_cons_zero, List.getElem_cons_succ]
      refine wpN_done (by kernel_rfl) ?_
      refine NoPanic.normal ?_
      have hbq : ∀ x, w.heap.size + x ≠ bl := fun x e => by have := hUs _ hUb; omega
      go_wp2_with fail
      refine ⟨⟨j + 1, by go_num, by omega, ?_, ?_, HS.out⟩, by simp [intOf]; omega⟩
      · exact (((z0.far _ _ (hbq 0)).far _ _ (hbq 0)).far _ _ (hbq 0)).far _ _ (hbq 0)
      · exact (((z1.far _ _ (hbq 1)).far _ _ (hbq 1)).far _ _ (hbq 1)).far _ _ (hbq 1)
    · have d0 : wr.cell? ⟨w.heap.size, 0, none⟩ = some (.slice pa binds.length pc) := y0.cell rfl
      have d1 : wr.cell? ⟨w.heap.size, 1, none⟩ = some (.int .i64 2) := y0.cell rfl
      have d2 : wr.cell? ⟨w.heap.size, 2, none⟩ = some (.int .i64 m) := y0.cell rfl
      have d3 : wr.cell? ⟨w.heap.size, 3, none⟩ = some (.slice a n c) := y0.cell rfl
      have r0 : wr.cell? ⟨w.heap.size + 1, 0, none⟩ = some (.slice none 0 0) := y1.cell rfl
      have r1 : wr.cell? ⟨w.heap.size + 1, 1, none⟩ = some (.int .i64 0) := y1.cell rfl
      have r2 : wr.cell? ⟨w.heap.size + 1, 2, none⟩ = some (.int .i64 0) := y1.cell rfl
      have r3 : wr.cell? ⟨w.heap.size + 1, 3, none⟩ = some (.slice none 0 0) := y1.cell rfl
      have f0 := y1.free 0
      have f1 := y1.free 1
      have f2 := y1.free 2
      have f3 := y1.free 3
      have HD := Lib.hid (hR.done hn (by omega) hb hm ha hr hd 2 m)
      have HO := Lib.hid hR.oft
      have HT := Lib.hid hR.thaw
      have hqn : ¬ U (w.heap.size + 1) := fun h => by have := hUs _ h; omega
      have hlj : ¬ (j : Int) < (n : Int) := by omega
      clear hR y0 y1 ih hb
      go_wp2_with fail
      refine bodyPost_ret (v := .agg #[.slice pa binds.length pc, .int .i64 2, .int .i64 m, .slice a n c]) (by simp [results, Try.results42, go_sem, r0, r1, r2, r3]) rfl ?_
      obtain ⟨w9, hw9⟩ : ∃ w9, ((((wr.setCell ⟨w.heap.size + 1, 0, none⟩ (.slice pa binds.length pc)).setCell ⟨w.heap.size + 1, 1, none⟩ (.int .i64 2)).setCell ⟨w.heap.size + 1, 2, none⟩ (.int .i64 m)).setCell ⟨w.heap.size + 1, 3, none⟩ (.slice a n c)) = w9 := ⟨_, rfl⟩
      have hk9 : Keep (fun q => q ≠ w.heap.size + 1) wr w9 := by rw [← hw9]; exact ((((Keep.refl _ _).setCell _ _ (by simp)).setCell _ _ (by simp)).setCell _ _ (by simp)).setCell _ _ (by simp)
      have hf9 : ∀ q o, w9.frozen? ⟨q, o, none⟩ = wr.frozen? ⟨q, o, none⟩ := fun q o => by rw [← hw9]; simp
      have ho9 : Off (fun q => U q ∨ q = pe) w w9 := by
        rw [← hw9]
        exact (((HO.out.set _ _ (.inr (by simp))).set _ _ (.inr (by simp))).set _ _ (.inr (by simp))).set _ _ (.inr (by simp))
      rw [hw9]
      refine ⟨m, rfl, ?_, ?_, fun q o hq hf => (hf9 q o).trans (HT.out q o hq hf), ho9⟩
      · rw [Rn.ren_eq, if_pos rfl, hmm]
        exact HD.out.1.keep (hk9.weaken fun q hq e => hqn (e ▸ hq))
      · rw [Rn.errs_eq, if_pos rfl, IFN.out]
        exact hk9 _ _ _ (by omega) HD.out.2
set_option maxRecDepth 100000 in
set_option maxHeartbeats 2000000 in
theorem renamed_c2 (d : Int) (hdd : -9223372036854775808 ≤ d ∧ d ≤ 9223372036854775807) (binds : List Ty) (k i : Int) (args : List Tm) (ih : ∀ t ∈ args, t.Fit → RenOw d t) (hfit : (Tm.mk binds k i args).Fit) (Z U : Nat → Prop) (w : World) (bv kv iv av : Value) (pe : Nat) (e0 : Int) (ht : IsOw Z w U bv kv iv av (.mk binds k i args)) (hUs : ∀ q, U q → q < w.heap.size) (hZ : ∀ q, Z q → q < w.heap.size ∧ ∀ o, w.frozen? ⟨q, o, none⟩ = false) (hpe : w.cell? ⟨pe, 0, none⟩ = some (.int .i64 e0)) (hpf : w.frozen? ⟨pe, 0, none⟩ = false) (hpU : ¬ U pe)  (hk : k = 2) (c1 : Rn.sm i d < 0) (c2 : ¬ e0 = 0 ∧ 1 < e0) :
    Calls Try.prog 42 #[.agg #[bv, kv, iv, av], .int .i64 d, .pointer (some ⟨pe, 0, none⟩)] w fun e w' => ∃ i', e = .returned (.agg #[bv, kv, .int .i64 i', av]) ∧ IsOw Z w' U bv kv (.int .i64 i') av (Rn.ren d (.mk binds k i args)) ∧ w'.cell? ⟨pe, 0, none⟩ = some (.int .i64 (Rn.errs d (.mk binds k i args) e0)) ∧ Thaw w w' ∧ Off (fun q => U q ∨ q = pe) w w' := by
  cases ht with
  | mk U Ub Us bv k i a n c binds args bl off PA A PN PC N C Kd Ix hb hn hm ha hr hd h1 h2 h3 h4 h5 =>
  obtain ⟨pa, pc, rfl⟩ := hb.shape
  have hpl : pe < w.heap.size := Keep.lt hpe
  obtain ⟨hi0, hi1, hfa⟩ := Tm.fit_iff.1 hfit
  have hnn : n ≤ 9223372036854775807 := by unfold maxLen at hm; omega
  have Hsum := Lib.hid (sum_k i d ⟨hi0, hi1⟩ hdd)
  obtain rfl := hk
  obtain ⟨m, hmm⟩ : ∃ m, Rn.sm i d = m := ⟨_, rfl⟩
  rw [hmm] at Hsum c1
  have IFN : Hid (Rn.note (Rn.sm i d) e0 = 1) := by show _ = _; rw [hmm]; unfold Rn.note Rn.code; rw [if_pos c1]; rw [if_pos ⟨by decide, .inr c2.2⟩]
  obtain ⟨e1, e2⟩ := c2
  have c2 := And.intro e1 e2
  have e3 : (e0 == 0) = false := by simpa using e1
  go_enter Try.func42, Try.ntmps42
  go_wp2_with fail
  obtain ⟨w3, hw3⟩ : ∃ w3, (w.alloc (.cells #[.slice pa binds.length pc, .int .i64 2, .int .i64 i, .slice a n c] 34)).alloc (.cells #[.slice none 0 0, .int .i64 0, .int .i64 0, .slice none 0 0] 34) = w3 := ⟨_, rfl⟩
  try rw [hw3]
  have B3 : Below w.heap.size w w3 := by rw [← hw3]; exact ((Below.refl _ _).alloc (Nat.le_refl _) _).alloc (by simp) _
  have x0 : Blk w3 w.heap.size #[.slice pa binds.length pc, .int .i64 2, .int .i64 i, .slice a n c] 34 := by rw [← hw3]; exact (Blk.new _ _ _ rfl).alloc _
  have x1 : Blk w3 (w.heap.size + 1) #[.slice none 0 0, .int .i64 0, .int .i64 0, .slice none 0 0] 34 := by rw [← hw3]; exact Blk.new _ _ _ (by simp)
  clear hw3
  have P3 : w3.cell? ⟨pe, 0, none⟩ = some (.int .i64 e0) := (B3.cell (p := ⟨pe, 0, none⟩) hpl).trans hpe
  have F3 : w3.frozen? ⟨pe, 0, none⟩ = false := Thaw.below B3 pe 0 hpl hpf
  have k1 : w3.cell? ⟨w.heap.size, 1, none⟩ = some (.int .i64 2) := x0.cell rfl
  have k2 : w3.cell? ⟨w.heap.size, 2, none⟩ = some (.int .i64 i) := x0.cell rfl
  have k3 : w3.cell? ⟨w.heap.size, 3, none⟩ = some (.slice a n c) := x0.cell rfl
  have O3 := Off.of_below (fun q => q = pe) B3
  have T3 := Thaw.below B3
  go_wp2_with fail
  refine (Hsum.out w3).mono ?_
  rintro e w4 ⟨rfl, rfl⟩
  have g2 := x0.free 2
  have hne : (⟨w.heap.size, 2, none⟩ : Addr) ≠ ⟨pe, 0, none⟩ := fun e => by cases e
  obtain ⟨w5, hw5⟩ : ∃ w5, w4.setCell ⟨w.heap.size, 2, none⟩ (.int .i64 m) = w5 := ⟨_, rfl⟩
  have O5 := O3.set ⟨w.heap.size, 2, none⟩ (.int .i64 m) (.inr (Nat.le_refl _))
  have T5 := T3.trans (Thaw.set w4 ⟨w.heap.size, 2, none⟩ (.int .i64 m)) B3.size
  have P5 : (w4.setCell ⟨w.heap.size, 2, none⟩ (.int .i64 m)).cell? ⟨pe, 0, none⟩ = some (.int .i64 e0) := by rw [World.cell?_setCell_other _ _ _ _ hne]; exact P3
  have F5 : (w4.setCell ⟨w.heap.size, 2, none⟩ (.int .i64 m)).frozen? ⟨pe, 0, none⟩ = false := by rw [World.frozen?_setCell]; exact F3
  have y0 := x0.set 2 (.int .i64 m)
  have y1 := x1.far ⟨w.heap.size, 2, none⟩ (.int .i64 m) (by simp)
  have c5 : (w4.setCell ⟨w.heap.size, 2, none⟩ (.int .i64 m)).cell? ⟨w.heap.size, 2, none⟩ = some (.int .i64 m) := World.cell?_setCell_same _ _ _ k2
  have c53 : (w4.setCell ⟨w.heap.size, 2, none⟩ (.int .i64 m)).cell? ⟨w.heap.size, 3, none⟩ = some (.slice a n c) := y0.cell rfl
  have S5 : w.heap.size ≤ (w4.setCell ⟨w.heap.size, 2, none⟩ (.int .i64 m)).heap.size := by simpa using B3.size
  rw [hw5] at O5 T5 P5 F5 y0 y1 c5 c53 S5
  clear x0 x1 B3 O3 T3 P3 F3
  have hpq : ∀ x, w.heap.size + x ≠ pe := fun x => by omega
  obtain ⟨w7, hw7⟩ : ∃ w7, w5.setCell ⟨pe, 0, none⟩ (.int .i64 1) = w7 := ⟨_, rfl⟩
  have O7 := O5.set ⟨pe, 0, none⟩ (.int .i64 1) (.inl rfl)
  have T7 := T5.trans (Thaw.set w5 ⟨pe, 0, none⟩ (.int .i64 1)) S5
  have P7 : (w5.setCell ⟨pe, 0, none⟩ (.int .i64 1)).cell? ⟨pe, 0, none⟩ = some (.int .i64 1) := World.cell?_setCell_same _ _ _ P5
  have y0 := y0.far ⟨pe, 0, none⟩ (.int .i64 1) (hpq 0)
  have y1 := y1.far ⟨pe, 0, none⟩ (.int .i64 1) (hpq 1)
  rw [hw7] at O7 T7 P7 y0 y1
  have c73 : w7.cell? ⟨w.heap.size, 3, none⟩ = some (.slice a n c) := y0.cell rfl
  go_wp2_with fail
  clear hw7 hw5 O5 T5 P5 F5 c5 c53 S5 c73 k1 k2 k3 g2
  have R0 := RInv.start (d := d) (Z := Z) (U := U) (Ub := Ub) (Us := Us) (w7 := w7) hn (fun h => (ha h).2.1) (fun i q hi h => (hr i q hi h).1) hpU h1 h2 h3 h4 h5 O7 T7 P7
  clear O7 T7 P7
  go_loopw [51] (fun ii wr => ∃ j : Nat, ii = .int .i64 j ∧ j ≤ args.length ∧ Blk wr w.heap.size #[.slice pa binds.length pc, .int .i64 2, .int .i64 m, .slice a n c] 34 ∧ Blk wr (w.heap.size + 1) #[.slice none 0 0, .int .i64 0, .int .i64 0, .slice none 0 0] 34 ∧
    RInv d Z U Ub Us bl off n args PA A PN PC N C Kd pe 1 w j wr) (fun ii _ => args.length - (intOf ii).toNat)
  case atStart => exact ⟨0, rfl, by omega, y0, y1, R0⟩
  case round =>
    clear y0 y1 R0
    obtain ⟨j, rfl, hj, y0, y1, hR⟩ := hrel
    by_cases hlt : j < args.length
    · obtain ⟨rfl, hUb, hZb, hUbb⟩ := ha (by omega)
      clear ha
      obtain ⟨J, r5, r6⟩ := hR.cells
      obtain ⟨q1, q2, q3, q4⟩ := r5 j (by omega)
      have r6j := r6 j hlt
      rw [if_neg (by omega)] at r6j
      have hlt0 : (0 : Int) ≤ (j : Int) := Int.natCast_nonneg _
      have hlt1 : (j : Int) < (n : Int) := by omega
      have hsz := hR.oft.size
      have HR := Lib.hid hR.drew
      have Hc := Lib.hid (ih args[j] (List.getElem_mem hlt) (hfa _ (List.getElem_mem hlt)) Z (Us j) wr.drew _ _ _ _ pe _ (r6j.keep (Keep.refl _ _).drew) (fun q hq => Nat.lt_of_lt_of_le (hUs q (hr j q (by omega) hq).1) hsz)
        (fun q hq => ⟨Nat.lt_of_lt_of_le (hZ q hq).1 hsz, fun o => hR.thaw q o (hZ q hq).1 ((hZ q hq).2 o)⟩) hR.e (hR.thaw pe 0 hpl hpf) fun h => hpU (hr j pe (by omega) h).1)
      have HP : Hid (∀ o, wr.frozen? ⟨bl, o, none⟩ = false) := fun o => hR.thaw bl o (hZ bl hZb).1 ((hZ bl hZb).2 o)
      clear r6 r6j r5 hR ih
      go_wp2_with fail
      refine wp_region_noPanic (wp_region_need (S := fun w' => w'.cell? ⟨w.heap.size, 3, none⟩ = some (.slice (some ⟨bl, off, none⟩) n c) ∧ w'.cell? ⟨bl, off + j * 4, none⟩ = some (.slice (PA j) (PN j) (PC j)) ∧ w'.cell? ⟨bl, off + j * 4 + 1, none⟩ = some (.int .i64 (Kd j)) ∧ w'.cell? ⟨bl, off + j * 4 + 2, none⟩ = some (.int .i64 (J j)) ∧ w'.cell? ⟨bl, off + j * 4 + 3, none⟩ = some (.slice (A j) (N j) (C j))) (by kernel_rfl) ?_)
      have hS : (wr.drew).cell? ⟨w.heap.size, 3, none⟩ = some (.slice (some ⟨bl, off, none⟩) n c) ∧ (wr.drew).cell? ⟨bl, off + j * 4, none⟩ = some (.slice (PA j) (PN j) (PC j)) ∧ (wr.drew).cell? ⟨bl, off + j * 4 + 1, none⟩ = some (.int .i64 (Kd j)) ∧ (wr.drew).cell? ⟨bl, off + j * 4 + 2, none⟩ = some (.int .i64 (J j)) ∧ (wr.drew).cell? ⟨bl, off + j * 4 + 3, none⟩ = some (.slice (A j) (N j) (C j)) := ⟨y0.drew.cell rfl, q1, q2, q3, q4⟩
      refine wpN_take (i := 0) (v := ?v12) rfl (by kernel_rfl) (fun _ _ _ h => h) hS (Or.inl ⟨by rfl, ?hy12⟩) ?hr12
      case hy12 => (intro wS hSw; (try dsimp only at hSw); go_simp; (try with_reducible rfl))
      try simp only [Act.put, List.setIfInBounds_toArray, List.set_cons_zero, List.set_cons_succ, List.getElem_toArray, List.getElem_cons_zero, List.getElem_cons_succ]
      refine wpN_take (i := 1) (v := ?v13) rfl (by kernel_rfl) (fun _ _ _ h => h) hS (Or.inl ⟨by rfl, ?hy13⟩) ?hr13
      case hy13 => (intro wS hSw; (try dsimp only at hSw); go_simp; (try with_reducible rfl))
      try simp only [Act.put, List.setIfInBounds_toArray, List.set_cons_zero, List.set_cons_succ, List.getElem_toArray, List.getElem_cons_zero, List.getElem_cons_succ]
      refine wpN_take (i := 2) (v := ?v14) rfl (by kernel_rfl) (fun _ _ _ h => h) hS (Or.inl ⟨by rfl, ?hy14⟩) ?hr14
      case hy14 => (intro wS hSw; (try dsimp only at hSw); go_simp; (try with_reducible rfl))
      try simp only [Act.put, List.setIfInBounds_toArray, List.set_cons_zero, List.set_cons_succ, List.getElem_toArray, List.getElem_cons_zero, List.getElem_cons_succ]
      refine wpN_take (i := 3) (v := ?v15) rfl (by kernel_rfl) (fun _ _ _ h => h) hS (Or.inl ⟨by rfl, ?hy15⟩) ?hr15
      case hy15 => (intro wS hSw; (try dsimp only at hSw); go_simp; (try with_reducible rfl))
      try simp only [Act.put, List.setIfInBounds_toArray, List.set_cons_zero, List.set_cons_succ, List.getElem_toArray, List.getElem_cons_zero, List.getElem_cons_succ]
      refine wpN_take (i := 4) (v := ?v16) rfl (by kernel_rfl) (fun _ _ _ h => h) hS (Or.inl ⟨by rfl, ?hy16⟩) ?hr16
      case hy16 => (intro wS hSw; (try dsimp only at hSw); go_simp; (try with_reducible rfl))
      try simp only [Act.put, List.setIfInBounds_toArray, List.set_cons_zero, List.set_cons_succ, List.getElem_toArray, List.getElem_cons_zero, List.getElem_cons_succ]
      refine wpN_take (i := 5) (v := ?v17) rfl (by kernel_rfl) (fun _ _ _ h => h) hS (Or.inl ⟨by rfl, ?hy17⟩) ?hr17
      case hy17 => (intro wS hSw; (try dsimp only at hSw); go_simp; (try with_reducible rfl))
      try simp only [Act.put, List.setIfInBounds_toArray, List.set_cons_zero, List.set_cons_succ, List.getElem_toArray, List.getElem_cons_zero, List.getElem_cons_succ]
      refine wpN_take (i := 6) (v := ?v18) rfl (by kernel_rfl) (fun _ _ _ h => h) hS (Or.inl ⟨by rfl, ?hy18⟩) ?hr18
      case hy18 => (intro wS hSw; (try dsimp only at hSw); go_simp; (try with_reducible rfl))
      try simp only [Act.put, List.setIfInBounds_toArray, List.set_cons_zero, List.set_cons_succ, List.getElem_toArray, List.getElem_cons_zero, List.getElem_cons_succ]
      refine wpN_take (i := 7) (v := ?v19) rfl (by kernel_rfl) (fun _ _ _ h => h) hS (Or.inl ⟨by rfl, ?hy19⟩) ?hr19
      case hy19 => (intro wS hSw; (try dsimp only at hSw); go_simp; (try with_reducible rfl))
      try simp only [Act.put, List.setIfInBounds_toArray, List.set_cons_zero, List.set_cons_succ, List.getElem_toArray, List.getElem_cons_zero, List.getElem_cons_succ]
      refine wpN_take (i := 8) (v := ?v20) rfl (by kernel_rfl) (fun _ _ _ h => h) hS (Or.inl ⟨by rfl, ?hy20⟩) ?hr20
      case hy20 => (intro wS hSw; (try dsimp only at hSw); go_simp; (try with_reducible rfl))
      try simp only [Act.put, List.setIfInBounds_toArray, List.set_cons_zero, List.set_cons_succ, List.getElem_toArray, List.getElem_cons_zero, List.getElem_cons_succ]
      refine wpN_take (i := 9) (v := ?v21) rfl (by kernel_rfl) (fun _ _ _ h => h) hS (Or.inl ⟨by rfl, ?hy21⟩) ?hr21
      case hy21 => (intro wS hSw; (try dsimp only at hSw); go_simp; (try with_reducible rfl))
      try simp only [Act.put, List.setIfInBounds_toArray, List.set_cons_zero, List.set_cons_succ, List.getElem_toArray, List.getElem_cons_zero, List.getElem_cons_succ]
      refine wpN_step (i := 10) (by kernel_rfl) rfl (fun K hK => ?_)
      go_simp
      refine Hc.out.mono ?_
      rintro e w5 ⟨i', rfl, g1, g2, g3, g4⟩
      have hKp : Keep (fun q => q = bl) wr.drew w5 := g4.keep fun q hq e => by
        subst hq
        rcases e with e | e
        · exact (hr j q (by omega) e).2.1 rfl
        · exact hpU (e ▸ hUb)
      have hnq : ∀ x, ¬ (Us j (w.heap.size + x) ∨ w.heap.size + x = pe) := fun x e => by
        rcases e with e | e
        · have := hUs _ (hr j _ (by omega) e).1; omega
        · omega
      have z0 := g4.blk (y0.drew) (hnq 0)
      have z1 := g4.blk (y1.drew) (hnq 1)
      have HS := Lib.hid (HR.out.step hn hlt (fun h => ⟨hUb, hUbb⟩) hr hd hpU hpl g1 g2 g3 g4)
      have p0 := hKp _ _ _ rfl (show wr.drew.cell? _ = _ from q1)
      have p1 := hKp _ _ _ rfl (show wr.drew.cell? _ = _ from q2)
      have p2 := hKp _ _ _ rfl (show wr.drew.cell? _ = _ from q3)
      have p3 := hKp _ _ _ rfl (show wr.drew.cell? _ = _ from q4)
      have f0 := g3 bl (off + j * 4) (Keep.lt q1) (HP.out _)
      have f1 := g3 bl (off + j * 4 + 1) (Keep.lt q1) (HP.out _)
      have f2 := g3 bl (off + j * 4 + 2) (Keep.lt q1) (HP.out _)
      have f3 := g3 bl (off + j * 4 + 3) (Keep.lt q1) (HP.out _)
      have hS : (w5).cell? ⟨w.heap.size, 3, none⟩ = some (.slice (some ⟨bl, off, none⟩) n c) ∧ (w5).cell? ⟨bl, off + j * 4, none⟩ = some (.slice (PA j) (PN j) (PC j)) ∧ (w5).cell? ⟨bl, off + j * 4 + 1, none⟩ = some (.int .i64 (Kd j)) ∧ (w5).cell? ⟨bl, off + j * 4 + 2, none⟩ = some (.int .i64 (J j)) ∧ (w5).cell? ⟨bl, off + j * 4 + 3, none⟩ = some (.slice (A j) (N j) (C j)) := ⟨z0.cell rfl, p0, p1, p2, p3⟩
      clear g1 g2 g3 g4 HR Hc q1 q2 q3 q4
      refine hK.out _ _ (fun _ => hS) ?_
      clear hK K
      try simp only [Act.put, List.setIfInBounds_toArray, List.set_cons_zero, List.set_cons_succ, List.getElem_toArray, List.getElem_cons_zero, List.getElem_cons_succ]
      refine wpN_take (i := 11) (v := ?v22) rfl (by kernel_rfl) (fun _ _ _ h => h) hS (Or.inl ⟨by rfl, ?hy22⟩) ?hr22
      case hy22 => (intro wS hSw; (try dsimp only at hSw); go_simp; (try with_reducible rfl))
      try simp only [Act.put, List.setIfInBounds_toArray, List.set_cons_zero, List.set_cons_succ, List.getElem_toArray, List.getElem_cons_zero, List.getElem_cons_succ]
      refine wpN_step (i := 12) (by kernel_rfl) rfl (fun K hK => ?_)
      go_simp
      refine hK.out _ _ (fun h => absurd h (by decide)) ?_
      clear hK K
      try simp only [Act.put, List.setIfInBounds_toArray, List.set_cons_zero, List.set_cons_succ, List.getElem_toArray, List.getElem_cons_zero, List.getElem_cons_succ]
      refine wpN_done (by kernel_rfl) ?_
      refine NoPanic.normal ?_
      have hbq : ∀ x, w.heap.size + x ≠ bl := fun x e => by have := hUs _ hUb; omega
      go_wp2_with fail
      refine ⟨⟨j + 1, by go_num, by omega, ?_, ?_, HS.out⟩, by simp [intOf]; omega⟩
      · exact (((z0.far _ _ (hbq 0)).far _ _ (hbq 0)).far _ _ (hbq 0)).far _ _ (hbq 0)
      · exact (((z1.far _ _ (hbq 1)).far _ _ (hbq 1)).far _ _ (hbq 1)).far _ _ (hbq 1)
    · have d0 : wr.cell? ⟨w.heap.size, 0, none⟩ = some (.slice pa binds.length pc) := y0.cell rfl
      have d1 : wr.cell? ⟨w.heap.size, 1, none⟩ = some (.int .i64 2) := y0.cell rfl
      have d2 : wr.cell? ⟨w.heap.size, 2, none⟩ = some (.int .i64 m) := y0.cell rfl
      have d3 : wr.cell? ⟨w.heap.size, 3, none⟩ = some (.slice a n c) := y0.cell rfl
      have r0 : wr.cell? ⟨w.heap.size + 1, 0, none⟩ = some (.slice none 0 0) := y1.cell rfl
      have r1 : wr.cell? ⟨w.heap.size + 1, 1, none⟩ = some (.int .i64 0) := y1.cell rfl
      have r2 : wr.cell? ⟨w.heap.size + 1, 2, none⟩ = some (.int .i64 0) := y1.cell rfl
      have r3 : wr.cell? ⟨w.heap.size + 1, 3, none⟩ = some (.slice none 0 0) := y1.cell rfl
      have f0 := y1.free 0
      have f1 := y1.free 1
      have f2 := y1.free 2
      have f3 := y1.free 3
      have HD := Lib.hid (hR.done hn (by omega) hb hm ha hr hd 2 m)
      have HO := Lib.hid hR.oft
      have HT := Lib.hid hR.thaw
      have hqn : ¬ U (w.heap.size + 1) := fun h => by have := hUs _ h; omega
      have hlj : ¬ (j : Int) < (n : Int) := by omega
      clear hR y0 y1 ih hb
      go_wp2_with fail
      refine bodyPost_ret (v := .agg #[.slice pa binds.length pc, .int .i64 2, .int .i64 m, .slice a n c]) (by simp [results, Try.results42, go_sem, r0, r1, r2, r3]) rfl ?_
      obtain ⟨w9, hw9⟩ : ∃ w9, ((((wr.setCell ⟨w.heap.size + 1, 0, none⟩ (.slice pa binds.length pc)).setCell ⟨w.heap.size + 1, 1, none⟩ (.int .i64 2)).setCell ⟨w.heap.size + 1, 2, none⟩ (.int .i64 m)).setCell ⟨w.heap.size + 1, 3, none⟩ (.slice a n c)) = w9 := ⟨_, rfl⟩
      have hk9 : Keep (fun q => q ≠ w.heap.size + 1) wr w9 := by rw [← hw9]; exact ((((Keep.refl _ _).setCell _ _ (by simp)).setCell _ _ (by simp)).setCell _ _ (by simp)).setCell _ _ (by simp)
      have hf9 : ∀ q o, w9.frozen? ⟨q, o, none⟩ = wr.frozen? ⟨q, o, none⟩ := fun q o => by rw [← hw9]; simp
      have ho9 : Off (fun q => U q ∨ q = pe) w w9 := by
        rw [← hw9]
        exact (((HO.out.set _ _ (.inr (by simp))).set _ _ (.inr (by simp))).set _ _ (.inr (by simp))).set _ _ (.inr (by simp))
      rw [hw9]
      refine ⟨m, rfl, ?_, ?_, fun q o hq hf => (hf9 q o).trans (HT.out q o hq hf), ho9⟩
      · rw [Rn.ren_eq, if_pos rfl, hmm]
        exact HD.out.1.keep (hk9.weaken fun q hq e => hqn (e ▸ hq))
      · rw [Rn.errs_eq, if_pos rfl, IFN.out]
        exact hk9 _ _ _ (by omega) HD.out.2
set_option maxRecDepth 100000 in
set_option maxHeartbeats 2000000 in
theorem renamed_c3 (d : Int) (hdd : -9223372036854775808 ≤ d ∧ d ≤ 9223372036854775807) (binds : List Ty) (k i : Int) (args : List Tm) (ih : ∀ t ∈ args, t.Fit → RenOw d t) (hfit : (Tm.mk binds k i args).Fit) (Z U : Nat → Prop) (w : World) (bv kv iv av : Value) (pe : Nat) (e0 : Int) (ht : IsOw Z w U bv kv iv av (.mk binds k i args)) (hUs : ∀ q, U q → q < w.heap.size) (hZ : ∀ q, Z q → q < w.heap.size ∧ ∀ o, w.frozen? ⟨q, o, none⟩ = false) (hpe : w.cell? ⟨pe, 0, none⟩ = some (.int .i64 e0)) (hpf : w.frozen? ⟨pe, 0, none⟩ = false) (hpU : ¬ U pe)  (hk : k = 2) (c1 : Rn.sm i d < 0) (c2 : ¬ e0 = 0 ∧ ¬ 1 < e0) :
    Calls Try.prog 42 #[.agg #[bv, kv, iv, av], .int .i64 d, .pointer (some ⟨pe, 0, none⟩)] w fun e w' => ∃ i', e = .returned (.agg #[bv, kv, .int .i64 i', av]) ∧ IsOw Z w' U bv kv (.int .i64 i') av (Rn.ren d (.mk binds k i args)) ∧ w'.cell? ⟨pe, 0, none⟩ = some (.int .i64 (Rn.errs d (.mk binds k i args) e0)) ∧ Thaw w w' ∧ Off (fun q => U q ∨ q = pe) w w' := by
  cases ht with
  | mk U Ub Us bv k i a n c binds args bl off PA A PN PC N C Kd Ix hb hn hm ha hr hd h1 h2 h3 h4 h5 =>
  obtain ⟨pa, pc, rfl⟩ := hb.shape
  have hpl : pe < w.heap.size := Keep.lt hpe
  obtain ⟨hi0, hi1, hfa⟩ := Tm.fit_iff.1 hfit
  have hnn : n ≤ 9223372036854775807 := by unfold maxLen at hm; omega
  have Hsum := Lib.hid (sum_k i d ⟨hi0, hi1⟩ hdd)
  obtain rfl := hk
  obtain ⟨m, hmm⟩ : ∃ m, Rn.sm i d = m := ⟨_, rfl⟩
  rw [hmm] at Hsum c1
  have IFN : Hid (Rn.note (Rn.sm i d) e0 = e0) := by show _ = _; rw [hmm]; unfold Rn.note Rn.code; rw [if_pos c1]; rw [if_neg (fun h => h.2.elim c2.1 c2.2)]
  obtain ⟨e1, e2⟩ := c2
  have c2 := And.intro e1 e2
  have e3 : (e0 == 0) = false := by simpa using e1
  go_enter Try.func42, Try.ntmps42
  go_wp2_with fail
  obtain ⟨w3, hw3⟩ : ∃ w3, (w.alloc (.cells #[.slice pa binds.length pc, .int .i64 2, .int .i64 i, .slice a n c] 34)).alloc (.cells #[.slice none 0 0, .int .i64 0, .int .i64 0, .slice none 0 0] 34) = w3 := ⟨_, rfl⟩
  try rw [hw3]
  have B3 : Below w.heap.size w w3 := by rw [← hw3]; exact ((Below.refl _ _).alloc (Nat.le_refl _) _).alloc (by simp) _
  have x0 : Blk w3 w.heap.size #[.slice pa binds.length pc, .int .i64 2, .int .i64 i, .slice a n c] 34 := by rw [← hw3]; exact (Blk.new _ _ _ rfl).alloc _
  have x1 : Blk w3 (w.heap.size + 1) #[.slice none 0 0, .int .i64 0, .int .i64 0, .slice none 0 0] 34 := by rw [← hw3]; exact Blk.new _ _ _ (by simp)
  clear hw3
  have P3 : w3.cell? ⟨pe, 0, none⟩ = some (.int .i64 e0) := (B3.cell (p := ⟨pe, 0, none⟩) hpl).trans hpe
  have F3 : w3.frozen? ⟨pe, 0, none⟩ = false := Thaw.below B3 pe 0 hpl hpf
  have k1 : w3.cell? ⟨w.heap.size, 1, none⟩ = some (.int .i64 2) := x0.cell rfl
  have k2 : w3.cell? ⟨w.heap.size, 2, none⟩ = some (.int .i64 i) := x0.cell rfl
  have k3 : w3.cell? ⟨w.heap.size, 3, none⟩ = some (.slice a n c) := x0.cell rfl
  have O3 := Off.of_below (fun q => q = pe) B3
  have T3 := Thaw.below B3
  go_wp2_with fail
  refine (Hsum.out w3).mono ?_
  rintro e w4 ⟨rfl, rfl⟩
  have g2 := x0.free 2
  have hne : (⟨w.heap.size, 2, none⟩ : Addr) ≠ ⟨pe, 0, none⟩ := fun e => by cases e
  obtain ⟨w5, hw5⟩ : ∃ w5, w4.setCell ⟨w.heap.size, 2, none⟩ (.int .i64 m) = w5 := ⟨_, rfl⟩
  have O5 := O3.set ⟨w.heap.size, 2, none⟩ (.int .i64 m) (.inr (Nat.le_refl _))
  have T5 := T3.trans (Thaw.set w4 ⟨w.heap.size, 2, none⟩ (.int .i64 m)) B3.size
  have P5 : (w4.setCell ⟨w.heap.size, 2, none⟩ (.int .i64 m)).cell? ⟨pe, 0, none⟩ = some (.int .i64 e0) := by rw [World.cell?_setCell_other _ _ _ _ hne]; exact P3
  have F5 : (w4.setCell ⟨w.heap.size, 2, none⟩ (.int .i64 m)).frozen? ⟨pe, 0, none⟩ = false := by rw [World.frozen?_setCell]; exact F3
  have y0 := x0.set 2 (.int .i64 m)
  have y1 := x1.far ⟨w.heap.size, 2, none⟩ (.int .i64 m) (by simp)
  have c5 : (w4.setCell ⟨w.heap.size, 2, none⟩ (.int .i64 m)).cell? ⟨w.heap.size, 2, none⟩ = some (.int .i64 m) := World.cell?_setCell_same _ _ _ k2
  have c53 : (w4.setCell ⟨w.heap.size, 2, none⟩ (.int .i64 m)).cell? ⟨w.heap.size, 3, none⟩ = some (.slice a n c) := y0.cell rfl
  have S5 : w.heap.size ≤ (w4.setCell ⟨w.heap.size, 2, none⟩ (.int .i64 m)).heap.size := by simpa using B3.size
  rw [hw5] at O5 T5 P5 F5 y0 y1 c5 c53 S5
  clear x0 x1 B3 O3 T3 P3 F3
  go_wp2_with fail
  clear hw5
  obtain ⟨w7, hw7⟩ : ∃ w7, w5 = w7 := ⟨_, rfl⟩
  have O7 := O5
  have T7 := T5
  have P7 := P5
  rw [hw7] at O7 T7 P7 y0 y1 ⊢
  clear hw7 O5 T5 P5 F5 c5 c53 S5 k1 k2 k3 g2
  have R0 := RInv.start (d := d) (Z := Z) (U := U) (Ub := Ub) (Us := Us) (w7 := w7) hn (fun h => (ha h).2.1) (fun i q hi h => (hr i q hi h).1) hpU h1 h2 h3 h4 h5 O7 T7 P7
  clear O7 T7 P7
  go_loopw [51] (fun ii wr => ∃ j : Nat, ii = .int .i64 j ∧ j ≤ args.length ∧ Blk wr w.heap.size #[.slice pa binds.length pc, .int .i64 2, .int .i64 m, .slice a n c] 34 ∧ Blk wr (w.heap.size + 1) #[.slice none 0 0, .int .i64 0, .int .i64 0, .slice none 0 0] 34 ∧
    RInv d Z U Ub Us bl off n args PA A PN PC N C Kd pe e0 w j wr) (fun ii _ => args.length - (intOf ii).toNat)
  case atStart => exact ⟨0, rfl, by omega, y0, y1, R0⟩
  case round =>
    clear y0 y1 R0
    obtain ⟨j, rfl, hj, y0, y1, hR⟩ := hrel
    by_cases hlt : j < args.length
    · obtain ⟨rfl, hUb, hZb, hUbb⟩ := ha (by omega)
      clear ha
      obtain ⟨J, r5, r6⟩ := hR.cells
      obtain ⟨q1, q2, q3, q4⟩ := r5 j (by omega)
      have r6j := r6 j hlt
      rw [if_neg (by omega)] at r6j
      have hlt0 : (0 : Int) ≤ (j : Int) := Int.natCast_nonneg _
      have hlt1 : (j : Int) < (n : Int) := by omega
      have hsz := hR.oft.size
      have HR := Lib.hid hR.drew
      have Hc := Lib.hid (ih args[j] (List.getElem_mem hlt) (hfa _ (List.getElem_mem hlt)) Z (Us j) wr.drew _ _ _ _ pe _ (r6j.keep (Keep.refl _ _).drew) (fun q hq => Nat.lt_of_lt_of_le (hUs q (hr j q (by omega) hq).1) hsz)
        (fun q hq => ⟨Nat.lt_of_lt_of_le (hZ q hq).1 hsz, fun o => hR.thaw q o (hZ q hq).1 ((hZ q hq).2 o)⟩) hR.e (hR.thaw pe 0 hpl hpf) fun h => hpU (hr j pe (by omega) h).1)
      have HP : Hid (∀ o, wr.frozen? ⟨bl, o, none⟩ = false) := fun o => hR.thaw bl o (hZ bl hZb).1 ((hZ bl hZb).2 o)
      clear r6 r6j r5 hR ih
      go_wp2_with fail
      refine wp_region_noPanic (wp_region_need (S := fun w' => w'.cell? ⟨w.heap.size, 3, none⟩ = some (.slice (some ⟨bl, off, none⟩) n c) ∧ w'.cell? ⟨bl, off + j * 4, none⟩ = some (.slice (PA j) (PN j) (PC j)) ∧ w'.cell? ⟨bl, off + j * 4 + 1, none⟩ = some (.int .i64 (Kd j)) ∧ w'.cell? ⟨bl, off + j * 4 + 2, none⟩ = some (.int .i64 (J j)) ∧ w'.cell? ⟨bl, off + j * 4 + 3, none⟩ = some (.slice (A j) (N j) (C j))) (by kernel_rfl) ?_)
      have hS : (wr.drew).cell? ⟨w.heap.size, 3, none⟩ = some (.slice (some ⟨bl, off, none⟩) n c) ∧ (wr.drew).cell? ⟨bl, off + j * 4, none⟩ = some (.slice (PA j) (PN j) (PC j)) ∧ (wr.drew).cell? ⟨bl, off + j * 4 + 1, none⟩ = some (.int .i64 (Kd j)) ∧ (wr.drew).cell? ⟨bl, off + j * 4 + 2, none⟩ = some (.int .i64 (J j)) ∧ (wr.drew).cell? ⟨bl, off + j * 4 + 3, none⟩ = some (.slice (A j) (N j) (C j)) := ⟨y0.drew.cell rfl, q1, q2, q3, q4⟩
      refine wpN_take (i := 0) (v := ?v23) rfl (by kernel_rfl) (fun _ _ _ h => h) hS (Or.inl ⟨by rfl, ?hy23⟩) ?hr23
      case hy23 => (intro wS hSw; (try dsimp only at hSw); go_simp; (try with_reducible rfl))
      try simp only [Act.put, List.setIfInBounds_toArray, List.set_cons_zero, List.set_cons_succ, List.getElem_toArray, List.getElem_cons_zero, List.getElem_cons_succ]
      refine wpN_take (i := 1) (v := ?v24) rfl (by kernel_rfl) (fun _ _ _ h => h) hS (Or.inl ⟨by rfl, ?hy24⟩) ?hr24
      case hy24 => (intro wS hSw; (try dsimp only at hSw); go_simp; (try with_reducible rfl))
      try simp only [Act.put, List.setIfInBounds_toArray, List.set_cons_zero, List.set_cons_succ, List.getElem_toArray, List.getElem_cons_zero, List.getElem_cons_succ]
      refine wpN_take (i := 2) (v := ?v25) rfl (by kernel_rfl) (fun _ _ _ h => h) hS (Or.inl ⟨by rfl, ?hy25⟩) ?hr25
      case hy25 => (intro wS hSw; (try dsimp only at hSw); go_simp; (try with_reducible rfl))
      try simp only [Act.put, List.setIfInBounds_toArray, List.set_cons_zero, List.set_cons_succ, List.getElem_toArray, List.getElem_cons_zero, List.getElem_cons_succ]
      refine wpN_take (i := 3) (v := ?v26) rfl (by kernel_rfl) (fun _ _ _ h => h) hS (Or.inl ⟨by rfl, ?hy26⟩) ?hr26
      case hy26 => (intro wS hSw; (try dsimp only at hSw); go_simp; (try with_reducible rfl))
      try simp only [Act.put, List.setIfInBounds_toArray, List.set_cons_zero, List.set_cons_succ, List.getElem_toArray, List.getElem_cons_zero, List.getElem_cons_succ]
      refine wpN_take (i := 4) (v := ?v27) rfl (by kernel_rfl) (fun _ _ _ h => h) hS (Or.inl ⟨by rfl, ?hy27⟩) ?hr27
      case hy27 => (intro wS hSw; (try dsimp only at hSw); go_simp; (try with_reducible rfl))
      try simp only [Act.put, List.setIfInBounds_toArray, List.set_cons_zero, List.set_cons_succ, List.getElem_toArray, List.getElem_cons_zero, List.getElem_cons_succ]
      refine wpN_take (i := 5) (v := ?v28) rfl (by kernel_rfl) (fun _ _ _ h => h) hS (Or.inl ⟨by rfl, ?hy28⟩) ?hr28
      case hy28 => (intro wS hSw; (try dsimp only at hSw); go_simp; (try with_reducible rfl))
      try simp only [Act.put, List.setIfInBounds_toArray, List.set_cons_zero, List.set_cons_succ, List.getElem_toArray, List.getElem_cons_zero, List.getElem_cons_succ]
      refine wpN_take (i := 6) (v := ?v29) rfl (by kernel_rfl) (fun _ _ _ h => h) hS (Or.inl ⟨by rfl, ?hy29⟩) ?hr29
      case hy29 => (intro wS hSw; (try dsimp only at hSw); go_simp; (try with_reducible rfl))
      try simp only [Act.put, List.setIfInBounds_toArray, List.set_cons_zero, List.set_cons_succ, List.getElem_toArray, List.getElem_cons_zero, List.getElem_cons_succ]
      refine wpN_take (i := 7) (v := ?v30) rfl (by kernel_rfl) (fun _ _ _ h => h) hS (Or.inl ⟨by rfl, ?hy30⟩) ?hr30
      case hy30 => (intro wS hSw; (try dsimp only at hSw); go_simp; (try with_reducible rfl))
      try simp only [Act.put, List.setIfInBounds_toArray, List.set_cons_zero, List.set_cons_succ, List.getElem_toArray, List.getElem_cons_zero, List.getElem_cons_succ]
      refine wpN_take (i := 8) (v := ?v31) rfl (by kernel_rfl) (fun _ _ _ h => h) hS (Or.inl ⟨by rfl, ?hy31⟩) ?hr31
      case hy31 => (intro wS hSw; (try dsimp only at hSw); go_simp; (try with_reducible rfl))
      try simp only [Act.put, List.setIfInBounds_toArray, List.set_cons_zero, List.set_cons_succ, List.getElem_toArray, List.getElem_cons_zero, List.getElem_cons_succ]
      refine wpN_take (i := 9) (v := ?v32) rfl (by kernel_rfl) (fun _ _ _ h => h) hS (Or.inl ⟨by rfl, ?hy32⟩) ?hr32
      case hy32 => (intro wS hSw; (try dsimp only at hSw); go_simp; (try with_reducible rfl))
      try simp only [Act.put, List.setIfInBounds_toArray, List.set_cons_zero, List.set_cons_succ, List.getElem_toArray, List.getElem_cons_zero, List.getElem_cons_succ]
      refine wpN_step (i := 10) (by kernel_rfl) rfl (fun K hK => ?_)
      go_simp
      refine Hc.out.mono ?_
      rintro e w5 ⟨i', rfl, g1, g2, g3, g4⟩
      have hKp : Keep (fun q => q = bl) wr.drew w5 := g4.keep fun q hq e => by
        subst hq
        rcases e with e | e
        · exact (hr j q (by omega) e).2.1 rfl
        · exact hpU (e ▸ hUb)
      have hnq : ∀ x, ¬ (Us j (w.heap.size + x) ∨ w.heap.size + x = pe) := fun x e => by
        rcases e with e | e
        · have := hUs _ (hr j _ (by omega) e).1; omega
        · omega
      have z0 := g4.blk (y0.drew) (hnq 0)
      have z1 := g4.blk (y1.drew) (hnq 1)
      have HS := Lib.hid (HR.out.step hn hlt (fun h => ⟨hUb, hUbb⟩) hr hd hpU hpl g1 g2 g3 g4)
      have p0 := hKp _ _ _ rfl (show wr.drew.cell? _ = _ from q1)
      have p1 := hKp _ _ _ rfl (show wr.drew.cell? _ = _ from q2)
      have p2 := hKp _ _ _ rfl (show wr.drew.cell? _ = _ from q3)
      have p3 := hKp _ _ _ rfl (show wr.drew.cell? _ = _ from q4)
      have f0 := g3 bl (off + j * 4) (Keep.lt q1) (HP.out _)
      have f1 := g3 bl (off + j * 4 + 1) (Keep.lt q1) (HP.out _)
      have f2 := g3 bl (off + j * 4 + 2) (Keep.lt q1) (HP.out _)
      have f3 := g3 bl (off + j * 4 + 3) (Keep.lt q1) (HP.out _)
      have hS : (w5).cell? ⟨w.heap.size, 3, none⟩ = some (.slice (some ⟨bl, off, none⟩) n c) ∧ (w5).cell? ⟨bl, off + j * 4, none⟩ = some (.slice (PA j) (PN j) (PC j)) ∧ (w5).cell? ⟨bl, off + j * 4 + 1, none⟩ = some (.int .i64 (Kd j)) ∧ (w5).cell? ⟨bl, off + j * 4 + 2, none⟩ = some (.int .i64 (J j)) ∧ (w5).cell? ⟨bl, off + j * 4 + 3, none⟩ = some (.slice (A j) (N j) (C j)) := ⟨z0.cell rfl, p0, p1, p2, p3⟩
      clear g1 g2 g3 g4 HR Hc q1 q2 q3 q4
      refine hK.out _ _ (fun _ => hS) ?_
      clear hK K
      try simp only [Act.put, List.setIfInBounds_toArray, List.set_cons_zero, List.set_cons_succ, List.getElem_toArray, List.getElem_cons_zero, List.getElem_cons_succ]
      refine wpN_take (i := 11) (v := ?v33) rfl (by kernel_rfl) (fun _ _ _ h => h) hS (Or.inl ⟨by rfl, ?hy33⟩) ?hr33
      case hy33 => (intro wS hSw; (try dsimp only at hSw); go_simp; (try with_reducible rfl))
      try simp only [Act.put, List.setIfInBounds_toArray, List.set_cons_zero, List.set_cons_succ, List.getElem_toArray, List.getElem_cons_zero, List.getElem_cons_succ]
      refine wpN_step (i := 12) (by kernel_rfl) rfl (fun K hK => ?_)
      go_simp
      refine hK.out _ _ (fun h => absurd h (by decide)) ?_
      clear hK K
      try simp only [Act.put, List.setIfInBounds_toArray, List.set_cons_zero, List.set_cons_succ, List.getElem_toArray, List.getElem_cons_zero, List.getElem_cons_succ]
      refine wpN_done (by kernel_rfl) ?_
      refine NoPanic.normal ?_
      have hbq : ∀ x, w.heap.size + x ≠ bl := fun x e => by have := hUs _ hUb; omega
      go_wp2_with fail
      refine ⟨⟨j + 1, by go_num, by omega, ?_, ?_, HS.out⟩, by simp [intOf]; omega⟩
      · exact (((z0.far _ _ (hbq 0)).far _ _ (hbq 0)).far _ _ (hbq 0)).far _ _ (hbq 0)
      · exact (((z1.far _ _ (hbq 1)).far _ _ (hbq 1)).far _ _ (hbq 1)).far _ _ (hbq 1)
    · have d0 : wr.cell? ⟨w.heap.size, 0, none⟩ = some (.slice pa binds.length pc) := y0.cell rfl
      have d1 : wr.cell? ⟨w.heap.size, 1, none⟩ = some (.int .i64 2) := y0.cell rfl
      have d2 : wr.cell? ⟨w.heap.size, 2, none⟩ = some (.int .i64 m) := y0.cell rfl
      have d3 : wr.cell? ⟨w.heap.size, 3, none⟩ = some (.slice a n c) := y0.cell rfl
      have r0 : wr.cell? ⟨w.heap.size + 1, 0, none⟩ = some (.slice none 0 0) := y1.cell rfl
      have r1 : wr.cell? ⟨w.heap.size + 1, 1, none⟩ = some (.int .i64 0) := y1.cell rfl
      have r2 : wr.cell? ⟨w.heap.size + 1, 2, none⟩ = some (.int .i64 0) := y1.cell rfl
      have r3 : wr.cell? ⟨w.heap.size + 1, 3, none⟩ = some (.slice none 0 0) := y1.cell rfl
      have f0 := y1.free 0
      have f1 := y1.free 1
      have f2 := y1.free 2
      have f3 := y1.free 3
      have HD := Lib.hid (hR.done hn (by omega) hb hm ha hr hd 2 m)
      have HO := Lib.hid hR.oft
      have HT := Lib.hid hR.thaw
      have hqn : ¬ U (w.heap.size + 1) := fun h => by have := hUs _ h; omega
      have hlj : ¬ (j : Int) < (n : Int) := by omega
      clear hR y0 y1 ih hb
      go_wp2_with fail
      refine bodyPost_ret (v := .agg #[.slice pa binds.length pc, .int .i64 2, .int .i64 m, .slice a n c]) (by simp [results, Try.results42, go_sem, r0, r1, r2, r3]) rfl ?_
      obtain ⟨w9, hw9⟩ : ∃ w9, ((((wr.setCell ⟨w.heap.size + 1, 0, none⟩ (.slice pa binds.length pc)).setCell ⟨w.heap.size + 1, 1, none⟩ (.int .i64 2)).setCell ⟨w.heap.size + 1, 2, none⟩ (.int .i64 m)).setCell ⟨w.heap.size + 1, 3, none⟩ (.slice a n c)) = w9 := ⟨_, rfl⟩
      have hk9 : Keep (fun q => q ≠ w.heap.size + 1) wr w9 := by rw [← hw9]; exact ((((Keep.refl _ _).setCell _ _ (by simp)).setCell _ _ (by simp)).setCell _ _ (by simp)).setCell _ _ (by simp)
      have hf9 : ∀ q o, w9.frozen? ⟨q, o, none⟩ = wr.frozen? ⟨q, o, none⟩ := fun q o => by rw [← hw9]; simp
      have ho9 : Off (fun q => U q ∨ q = pe) w w9 := by
        rw [← hw9]
        exact (((HO.out.set _ _ (.inr (by simp))).set _ _ (.inr (by simp))).set _ _ (.inr (by simp))).set _ _ (.inr (by simp))
      rw [hw9]
      refine ⟨m, rfl, ?_, ?_, fun q o hq hf => (hf9 q o).trans (HT.out q o hq hf), ho9⟩
      · rw [Rn.ren_eq, if_pos rfl, hmm]
        exact HD.out.1.keep (hk9.weaken fun q hq e => hqn (e ▸ hq))
      · rw [Rn.errs_eq, if_pos rfl, IFN.out]
        exact hk9 _ _ _ (by omega) HD.out.2
end Go.Proofs.Ytcblpjheoclkeaa

namespace Go.Proofs.Ytcblpjheoclkeaa
open Go.RowKit

set_option maxRecDepth 100000 in
set_option maxHeartbeats 2000000 in
theorem renamed_d1 (d : Int) (hdd : -9223372036854775808 ≤ d ∧ d ≤ 9223372036854775807) (binds : List Ty) (k i : Int) (args : List Tm) (ih : ∀ t ∈ args, t.Fit → RenOw d t) (hfit : (Tm.mk binds k i args).Fit) (Z U : Nat → Prop) (w : World) (bv kv iv av : Value) (pe : Nat) (e0 : Int) (ht : IsOw Z w U bv kv iv av (.mk binds k i args)) (hUs : ∀ q, U q → q < w.heap.size) (hZ : ∀ q, Z q → q < w.heap.size ∧ ∀ o, w.frozen? ⟨q, o, none⟩ = false) (hpe : w.cell? ⟨pe, 0, none⟩ = some (.int .i64 e0)) (hpf : w.frozen? ⟨pe, 0, none⟩ = false) (hpU : ¬ U pe)  (hk : k = 2) (c1 : Rn.sm i d > 1000) (c2 : e0 = 0) :
    Calls Try.prog 42 #[.agg #[bv, kv, iv, av], .int .i64 d, .pointer (some ⟨pe, 0, none⟩)] w fun e w' => ∃ i', e = .returned (.agg #[bv, kv, .int .i64 i', av]) ∧ IsOw Z w' U bv kv (.int .i64 i') av (Rn.ren d (.mk binds k i args)) ∧ w'.cell? ⟨pe, 0, none⟩ = some (.int .i64 (Rn.errs d (.mk binds k i args) e0)) ∧ Thaw w w' ∧ Off (fun q => U q ∨ q = pe) w w' := by
  cases ht with
  | mk U Ub Us bv k i a n c binds args bl off PA A PN PC N C Kd Ix hb hn hm ha hr hd h1 h2 h3 h4 h5 =>
  obtain ⟨pa, pc, rfl⟩ := hb.shape
  have hpl : pe < w.heap.size := Keep.lt hpe
  obtain ⟨hi0, hi1, hfa⟩ := Tm.fit_iff.1 hfit
  have hnn : n ≤ 9223372036854775807 := by unfold maxLen at hm; omega
  have Hsum := Lib.hid (sum_k i d ⟨hi0, hi1⟩ hdd)
  obtain rfl := hk
  obtain ⟨m, hmm⟩ : ∃ m, Rn.sm i d = m := ⟨_, rfl⟩
  rw [hmm] at Hsum c1
  have IFN : Hid (Rn.note (Rn.sm i d) 0 = 2) := by show _ = _; rw [hmm]; unfold Rn.note Rn.code; rw [if_neg (show ¬ m < 0 by omega), if_pos c1]; rw [if_pos ⟨by decide, .inl rfl⟩]
  have m0 : ¬ m < 0 := by omega
  have c2' := c2
  go_enter Try.func42, Try.ntmps42
  go_wp2_with fail
  obtain ⟨w3, hw3⟩ : ∃ w3, (w.alloc (.cells #[.slice pa binds.length pc, .int .i64 2, .int .i64 i, .slice a n c] 34)).alloc (.cells #[.slice none 0 0, .int .i64 0, .int .i64 0, .slice none 0 0] 34) = w3 := ⟨_, rfl⟩
  try rw [hw3]
  have B3 : Below w.heap.size w w3 := by rw [← hw3]; exact ((Below.refl _ _).alloc (Nat.le_refl _) _).alloc (by simp) _
  have x0 : Blk w3 w.heap.size #[.slice pa binds.length pc, .int .i64 2, .int .i64 i, .slice a n c] 34 := by rw [← hw3]; exact (Blk.new _ _ _ rfl).alloc _
  have x1 : Blk w3 (w.heap.size + 1) #[.slice none 0 0, .int .i64 0, .int .i64 0, .slice none 0 0] 34 := by rw [← hw3]; exact Blk.new _ _ _ (by simp)
  clear hw3
  have P3 : w3.cell? ⟨pe, 0, none⟩ = some (.int .i64 e0) := (B3.cell (p := ⟨pe, 0, none⟩) hpl).trans hpe
  have F3 : w3.frozen? ⟨pe, 0, none⟩ = false := Thaw.below B3 pe 0 hpl hpf
  have k1 : w3.cell? ⟨w.heap.size, 1, none⟩ = some (.int .i64 2) := x0.cell rfl
  have k2 : w3.cell? ⟨w.heap.size, 2, none⟩ = some (.int .i64 i) := x0.cell rfl
  have k3 : w3.cell? ⟨w.heap.size, 3, none⟩ = some (.slice a n c) := x0.cell rfl
  have O3 := Off.of_below (fun q => q = pe) B3
  have T3 := Thaw.below B3
  go_wp2_with fail
  refine (Hsum.out w3).mono ?_
  rintro e w4 ⟨rfl, rfl⟩
  have g2 := x0.free 2
  have hne : (⟨w.heap.size, 2, none⟩ : Addr) ≠ ⟨pe, 0, none⟩ := fun e => by cases e
  obtain ⟨w5, hw5⟩ : ∃ w5, w4.setCell ⟨w.heap.size, 2, none⟩ (.int .i64 m) = w5 := ⟨_, rfl⟩
  have O5 := O3.set ⟨w.heap.size, 2, none⟩ (.int .i64 m) (.inr (Nat.le_refl _))
  have T5 := T3.trans (Thaw.set w4 ⟨w.heap.size, 2, none⟩ (.int .i64 m)) B3.size
  have P5 : (w4.setCell ⟨w.heap.size, 2, none⟩ (.int .i64 m)).cell? ⟨pe, 0, none⟩ = some (.int .i64 e0) := by rw [World.cell?_setCell_other _ _ _ _ hne]; exact P3
  have F5 : (w4.setCell ⟨w.heap.size, 2, none⟩ (.int .i64 m)).frozen? ⟨pe, 0, none⟩ = false := by rw [World.frozen?_setCell]; exact F3
  have y0 := x0.set 2 (.int .i64 m)
  have y1 := x1.far ⟨w.heap.size, 2, none⟩ (.int .i64 m) (by simp)
  have c5 : (w4.setCell ⟨w.heap.size, 2, none⟩ (.int .i64 m)).cell? ⟨w.heap.size, 2, none⟩ = some (.int .i64 m) := World.cell?_setCell_same _ _ _ k2
  have c53 : (w4.setCell ⟨w.heap.size, 2, none⟩ (.int .i64 m)).cell? ⟨w.heap.size, 3, none⟩ = some (.slice a n c) := y0.cell rfl
  have S5 : w.heap.size ≤ (w4.setCell ⟨w.heap.size, 2, none⟩ (.int .i64 m)).heap.size := by simpa using B3.size
  rw [hw5] at O5 T5 P5 F5 y0 y1 c5 c53 S5
  clear x0 x1 B3 O3 T3 P3 F3
  have hpq : ∀ x, w.heap.size + x ≠ pe := fun x => by omega
  obtain ⟨w7, hw7⟩ : ∃ w7, w5.setCell ⟨pe, 0, none⟩ (.int .i64 2) = w7 := ⟨_, rfl⟩
  have O7 := O5.set ⟨pe, 0, none⟩ (.int .i64 2) (.inl rfl)
  have T7 := T5.trans (Thaw.set w5 ⟨pe, 0, none⟩ (.int .i64 2)) S5
  have P7 : (w5.setCell ⟨pe, 0, none⟩ (.int .i64 2)).cell? ⟨pe, 0, none⟩ = some (.int .i64 2) := World.cell?_setCell_same _ _ _ P5
  have y0 := y0.far ⟨pe, 0, none⟩ (.int .i64 2) (hpq 0)
  have y1 := y1.far ⟨pe, 0, none⟩ (.int .i64 2) (hpq 1)
  rw [hw7] at O7 T7 P7 y0 y1
  have c73 : w7.cell? ⟨w.heap.size, 3, none⟩ = some (.slice a n c) := y0.cell rfl
  go_wp2_with fail
  clear hw7 hw5 O5 T5 P5 F5 c5 c53 S5 c73 k1 k2 k3 g2
  have R0 := RInv.start (d := d) (Z := Z) (U := U) (Ub := Ub) (Us := Us) (w7 := w7) hn (fun h => (ha h).2.1) (fun i q hi h => (hr i q hi h).1) hpU h1 h2 h3 h4 h5 O7 T7 P7
  clear O7 T7 P7
  go_loopw [51] (fun ii wr => ∃ j : Nat, ii = .int .i64 j ∧ j ≤ args.length ∧ Blk wr w.heap.size #[.slice pa binds.length pc, .int .i64 2, .int .i64 m, .slice a n c] 34 ∧ Blk wr (w.heap.size + 1) #[.slice none 0 0, .int .i64 0, .int .i64 0, .slice none 0 0] 34 ∧
    RInv d Z U Ub Us bl off n args PA A PN PC N C Kd pe 2 w j wr) (fun ii _ => args.length - (intOf ii).toNat)
  case atStart => exact ⟨0, rfl, by omega, y0, y1, R0⟩
  case round =>
    clear y0 y1 R0
    obtain ⟨j, rfl, hj, y0, y1, hR⟩ := hrel
    by_cases hlt : j < args.length
    · obtain ⟨rfl, hUb, hZb, hUbb⟩ := ha (by omega)
      clear ha
      obtain ⟨J, r5, r6⟩ := hR.cells
      obtain ⟨q1, q2, q3, q4⟩ := r5 j (by omega)
      have r6j := r6 j hlt
      rw [if_neg (by omega)] at r6j
      have hlt0 : (0 : Int) ≤ (j : Int) := Int.natCast_nonneg _
      have hlt1 : (j : Int) < (n : Int) := by omega
      have hsz := hR.oft.size
      have HR := Lib.hid hR.drew
      have Hc := Lib.hid (ih args[j] (List.getElem_mem hlt) (hfa _ (List.getElem_mem hlt)) Z (Us j) wr.drew _ _ _ _ pe _ (r6j.keep (Keep.refl _ _).drew) (fun q hq => Nat.lt_of_lt_of_le (hUs q (hr j q (by omega) hq).1) hsz)
        (fun q hq => ⟨Nat.lt_of_lt_of_le (hZ q hq).1 hsz, fun o => hR.thaw q o (hZ q hq).1 ((hZ q hq).2 o)⟩) hR.e (hR.thaw pe 0 hpl hpf) fun h => hpU (hr j pe (by omega) h).1)
      have HP : Hid (∀ o, wr.frozen? ⟨bl, o, none⟩ = false) := fun o => hR.thaw bl o (hZ bl hZb).1 ((hZ bl hZb).2 o)
      clear r6 r6j r5 hR ih
      go_wp2_with fail
      refine wp_region_noPanic (wp_region_need (S := fun w' => w'.cell? ⟨w.heap.size, 3, none⟩ = some (.slice (some ⟨bl, off, none⟩) n c) ∧ w'.cell? ⟨bl, off + j * 4, none⟩ = some (.slice (PA j) (PN j) (PC j)) ∧ w'.cell? ⟨bl, off + j * 4 + 1, none⟩ = some (.int .i64 (Kd j)) ∧ w'.cell? ⟨bl, off + j * 4 + 2, none⟩ = some (.int .i64 (J j)) ∧ w'.cell? ⟨bl, off + j * 4 + 3, none⟩ = some (.slice (A j) (N j) (C j))) (by kernel_rfl) ?_)
      have hS : (wr.drew).cell? ⟨w.heap.size, 3, none⟩ = some (.slice (some ⟨bl, off, none⟩) n c) ∧ (wr.drew).cell? ⟨bl, off + j * 4, none⟩ = some (.slice (PA j) (PN j) (PC j)) ∧ (wr.drew).cell? ⟨bl, off + j * 4 + 1, none⟩ = some (.int .i64 (Kd j)) ∧ (wr.drew).cell? ⟨bl, off + j * 4 + 2, none⟩ = some (.int .i64 (J j)) ∧ (wr.drew).cell? ⟨bl, off + j * 4 + 3, none⟩ = some (.slice (A j) (N j) (C j)) := ⟨y0.drew.cell rfl, q1, q2, q3, q4⟩
      refine wpN_take (i := 0) (v := ?v1) rfl (by kernel_rfl) (fun _ _ _ h => h) hS (Or.inl ⟨by rfl, ?hy1⟩) ?hr1
      case hy1 => (intro wS hSw; (try dsimp only at hSw); go_simp; (try with_reducible rfl))
      try simp only [Act.put, List.setIfInBounds_toArray, List.set_cons_zero, List.set_cons_succ, List.getElem_toArray, List.getElem_cons_zero, List.getElem_cons_succ]
      refine wpN_take (i := 1) (v := ?v2) rfl (by kernel_rfl) (fun _ _ _ h => h) hS (Or.inl ⟨by rfl, ?hy2⟩) ?hr2
      case hy2 => (intro wS hSw; (try dsimp only at hSw); go_simp; (try with_reducible rfl))
      try simp only [Act.put, List.setIfInBounds_toArray, List.set_cons_zero, List.set_cons_succ, List.getElem_toArray, List.getElem_cons_zero, List.getElem_cons_succ]
      refine wpN_take (i := 2) (v := ?v3) rfl (by kernel_rfl) (fun _ _ _ h => h) hS (Or.inl ⟨by rfl, ?hy3⟩) ?hr3
      case hy3 => (intro wS hSw; (try dsimp only at hSw); go_simp; (try with_reducible rfl))
      try simp only [Act.put, List.setIfInBounds_toArray, List.set_cons_zero, List.set_cons_succ, List.getElem_toArray, List.getElem_cons_zero, List.getElem_cons_succ]
      refine wpN_take (i := 3) (v := ?v4) rfl (by kernel_rfl) (fun _ _ _ h => h) hS (Or.inl ⟨by rfl, ?hy4⟩) ?hr4
      case hy4 => (intro wS hSw; (try dsimp only at hSw); go_simp; (try with_reducible rfl))
      try simp only [Act.put, List.setIfInBounds_toArray, List.set_cons_zero, List.set_cons_succ, List.getElem_toArray, List.getElem_cons_zero, List.getElem_cons_succ]
      refine wpN_take (i := 4) (v := ?v5) rfl (by kernel_rfl) (fun _ _ _ h => h) hS (Or.inl ⟨by rfl, ?hy5⟩) ?hr5
      case hy5 => (intro wS hSw; (try dsimp only at hSw); go_simp; (try with_reducible rfl))
      try simp only [Act.put, List.setIfInBounds_toArray, List.set_cons_zero, List.set_cons_succ, List.getElem_toArray, List.getElem_cons_zero, List.getElem_cons_succ]
      refine wpN_take (i := 5) (v := ?v6) rfl (by kernel_rfl) (fun _ _ _ h => h) hS (Or.inl ⟨by rfl, ?hy6⟩) ?hr6
      case hy6 => (intro wS hSw; (try dsimp only at hSw); go_simp; (try with_reducible rfl))
      try simp only [Act.put, List.setIfInBounds_toArray, List.set_cons_zero, List.set_cons_succ, List.getElem_toArray, List.getElem_cons_zero, List.getElem_cons_succ]
      refine wpN_take (i := 6) (v := ?v7) rfl (by kernel_rfl) (fun _ _ _ h => h) hS (Or.inl ⟨by rfl, ?hy7⟩) ?hr7
      case hy7 => (intro wS hSw; (try dsimp only at hSw); go_simp; (try with_reducible rfl))
      try simp only [Act.put, List.setIfInBounds_toArray, List.set_cons_zero, List.set_cons_succ, List.getElem_toArray, List.getElem_cons_zero, List.getElem_cons_succ]
      refine wpN_take (i := 7) (v := ?v8) rfl (by kernel_rfl) (fun _ _ _ h => h) hS (Or.inl ⟨by rfl, ?hy8⟩) ?hr8
      case hy8 => (intro wS hSw; (try dsimp only at hSw); go_simp; (try with_reducible rfl))
      try simp only [Act.put, List.setIfInBounds_toArray, List.set_cons_zero, List.set_cons_succ, List.getElem_toArray, List.getElem_cons_zero, List.getElem_cons_succ]
      refine wpN_take (i := 8) (v := ?v9) rfl (by kernel_rfl) (fun _ _ _ h => h) hS (Or.inl ⟨by rfl, ?hy9⟩) ?hr9
      case hy9 => (intro wS hSw; (try dsimp only at hSw); go_simp; (try with_reducible rfl))
      try simp only [Act.put, List.setIfInBounds_toArray, List.set_cons_zero, List.set_cons_succ, List.getElem_toArray, List.getElem_cons_zero, List.getElem_cons_succ]
      refine wpN_take (i := 9) (v := ?v10) rfl (by kernel_rfl) (fun _ _ _ h => h) hS (Or.inl ⟨by rfl, ?hy10⟩) ?hr10
      case hy10 => (intro wS hSw; (try dsimp only at hSw); go_simp; (try with_reducible rfl))
      try simp only [Act.put, List.setIfInBounds_toArray, List.set_cons_zero, List.set_cons_succ, List.getElem_toArray, List.getElem_cons_zero, List.getElem_cons_succ]
      refine wpN_step (i := 10) (by kernel_rfl) rfl (fun K hK => ?_)
      go_simp
      refine Hc.out.mono ?_
      rintro e w5 ⟨i', rfl, g1, g2, g3, g4⟩
      have hKp : Keep (fun q => q = bl) wr.drew w5 := g4.keep fun q hq e => by
        subst hq
        rcases e with e | e
        · exact (hr j q (by omega) e).2.1 rfl
        · exact hpU (e ▸ hUb)
      have hnq : ∀ x, ¬ (Us j (w.heap.size + x) ∨ w.heap.size + x = pe) := fun x e => by
        rcases e with e | e
        · have := hUs _ (hr j _ (by omega) e).1; omega
        · omega
      have z0 := g4.blk (y0.drew) (hnq 0)
      have z1 := g4.blk (y1.drew) (hnq 1)
      have HS := Lib.hid (HR.out.step hn hlt (fun h => ⟨hUb, hUbb⟩) hr hd hpU hpl g1 g2 g3 g4)
      have p0 := hKp _ _ _ rfl (show wr.drew.cell? _ = _ from q1)
      have p1 := hKp _ _ _ rfl (show wr.drew.cell? _ = _ from q2)
      have p2 := hKp _ _ _ rfl (show wr.drew.cell? _ = _ from q3)
      have p3 := hKp _ _ _ rfl (show wr.drew.cell? _ = _ from q4)
      have f0 := g3 bl (off + j * 4) (Keep.lt q1) (HP.out _)
      have f1 := g3 bl (off + j * 4 + 1) (Keep.lt q1) (HP.out _)
      have f2 := g3 bl (off + j * 4 + 2) (Keep.lt q1) (HP.out _)
      have f3 := g3 bl (off + j * 4 + 3) (Keep.lt q1) (HP.out _)
      have hS : (w5).cell? ⟨w.heap.size, 3, none⟩ = some (.slice (some ⟨bl, off, none⟩) n c) ∧ (w5).cell? ⟨bl, off + j * 4, none⟩ = some (.slice (PA j) (PN j) (PC j)) ∧ (w5).cell? ⟨bl, off + j * 4 + 1, none⟩ = some (.int .i64 (Kd j)) ∧ (w5).cell? ⟨bl, off + j * 4 + 2, none⟩ = some (.int .i64 (J j)) ∧ (w5).cell? ⟨bl, off + j * 4 + 3, none⟩ = some (.slice (A j) (N j) (C j)) := ⟨z0.cell rfl, p0, p1, p2, p3⟩
      clear g1 g2 g3 g4 HR Hc q1 q2 q3 q4
      refine hK.out _ _ (fun _ => hS) ?_
      clear hK K
      try simp only [Act.put, List.setIfInBounds_toArray, List.set_cons_zero, List.set_cons_succ, List.getElem_toArray, List.getElem_cons_zero, List.getElem_cons_succ]
      refine wpN_take (i := 11) (v := ?v11) rfl (by kernel_rfl) (fun _ _ _ h => h) hS (Or.inl ⟨by rfl, ?hy11⟩) ?hr11
      case hy11 => (intro wS hSw; (try dsimp only at hSw); go_simp; (try with_reducible rfl))
      try simp only [Act.put, List.setIfInBounds_toArray, List.set_cons_zero, List.set_cons_succ, List.getElem_toArray, List.getElem_cons_zero, List.getElem_cons_succ]
      refine wpN_step (i := 12) (by kernel_rfl) rfl (fun K hK => ?_)
      go_simp
      refine hK.out _ _ (fun h => absurd h (by decide)) ?_
      clear hK K
      try simp only [Act.put, List.setIfInBounds_toArray, List.set_cons_zero, List.set_cons_succ, List.getElem_toArray, List.getElem_cons_zero, List.getElem_cons_succ]
      refine wpN_done (by kernel_rfl) ?_
      refine NoPanic.normal ?_
      have hbq : ∀ x, w.heap.size + x ≠ bl := fun x e => by have := hUs _ hUb; omega
      go_wp2_with fail
      refine ⟨⟨j + 1, by go_num, by omega, ?_, ?_, HS.out⟩, by simp [intOf]; omega⟩
      · exact (((z0.far _ _ (hbq 0)).far _ _ (hbq 0)).far _ _ (hbq 0)).far _ _ (hbq 0)
      · exact (((z1.far _ _ (hbq 1)).far _ _ (hbq 1)).far _ _ (hbq 1)).far _ _ (hbq 1)
    · have d0 : wr.cell? ⟨w.heap.size, 0, none⟩ = some (.slice pa binds.length pc) := y0.cell rfl
      have d1 : wr.cell? ⟨w.heap.size, 1, none⟩ = some (.int .i64 2) := y0.cell rfl
      have d2 : wr.cell? ⟨w.heap.size, 2, none⟩ = some (.int .i64 m) := y0.cell rfl
      have d3 : wr.cell? ⟨w.heap.size, 3, none⟩ = some (.slice a n c) := y0.cell rfl
      have r0 : wr.cell? ⟨w.heap.size + 1, 0, none⟩ = some (.slice none 0 0) := y1.cell rfl
      have r1 : wr.cell? ⟨w.heap.size + 1, 1, none⟩ = some (.int .i64 0) := y1.cell rfl
      have r2 : wr.cell? ⟨w.heap.size + 1, 2, none⟩ = some (.int .i64 0) := y1.cell rfl
      have r3 : wr.cell? ⟨w.heap.size + 1, 3, none⟩ = some (.slice none 0 0) := y1.cell rfl
      have f0 := y1.free 0
      have f1 := y1.free 1
      have f2 := y1.free 2
      have f3 := y1.free 3
      have HD := Lib.hid (hR.done hn (by omega) hb hm ha hr hd 2 m)
      have HO := Lib.hid hR.oft
      have HT := Lib.hid hR.thaw
      have hqn : ¬ U (w.heap.size + 1) := fun h => by have := hUs _ h; omega
      have hlj : ¬ (j : Int) < (n : Int) := by omega
      clear hR y0 y1 ih hb
      go_wp2_with fail
      refine bodyPost_ret (v := .agg #[.slice pa binds.length pc, .int .i64 2, .int .i64 m, .slice a n c]) (by simp [results, Try.results42, go_sem, r0, r1, r2, r3]) rfl ?_
      obtain ⟨w9, hw9⟩ : ∃ w9, ((((wr.setCell ⟨w.heap.size + 1, 0, none⟩ (.slice pa binds.length pc)).setCell ⟨w.heap.size + 1, 1, none⟩ (.int .i64 2)).setCell ⟨w.heap.size + 1, 2, none⟩ (.int .i64 m)).setCell ⟨w.heap.size + 1, 3, none⟩ (.slice a n c)) = w9 := ⟨_, rfl⟩
      have hk9 : Keep (fun q => q ≠ w.heap.size + 1) wr w9 := by rw [← hw9]; exact ((((Keep.refl _ _).setCell _ _ (by simp)).setCell _ _ (by simp)).setCell _ _ (by simp)).setCell _ _ (by simp)
      have hf9 : ∀ q o, w9.frozen? ⟨q, o, none⟩ = wr.frozen? ⟨q, o, none⟩ := fun q o => by rw [← hw9]; simp
      have ho9 : Off (fun q => U q ∨ q = pe) w w9 := by
        rw [← hw9]
        exact (((HO.out.set _ _ (.inr (by simp))).set _ _ (.inr (by simp))).set _ _ (.inr (by simp))).set _ _ (.inr (by simp))
      rw [hw9]
      refine ⟨m, rfl, ?_, ?_, fun q o hq hf => (hf9 q o).trans (HT.out q o hq hf), ho9⟩
      · rw [Rn.ren_eq, if_pos rfl, hmm]
        exact HD.out.1.keep (hk9.weaken fun q hq e => hqn (e ▸ hq))
      · rw [Rn.errs_eq, if_pos rfl, IFN.out]
        exact hk9 _ _ _ (by omega) HD.out.2
set_option maxRecDepth 100000 in
set_option maxHeartbeats 2000000 in
theorem renamed_d2 (d : Int) (hdd : -9223372036854775808 ≤ d ∧ d ≤ 9223372036854775807) (binds : List Ty) (k i : Int) (args : List Tm) (ih : ∀ t ∈ args, t.Fit → RenOw d t) (hfit : (Tm.mk binds k i args).Fit) (Z U : Nat → Prop) (w : World) (bv kv iv av : Value) (pe : Nat) (e0 : Int) (ht : IsOw Z w U bv kv iv av (.mk binds k i args)) (hUs : ∀ q, U q → q < w.heap.size) (hZ : ∀ q, Z q → q < w.heap.size ∧ ∀ o, w.frozen? ⟨q, o, none⟩ = false) (hpe : w.cell? ⟨pe, 0, none⟩ = some (.int .i64 e0)) (hpf : w.frozen? ⟨pe, 0, none⟩ = false) (hpU : ¬ U pe)  (hk : k = 2) (c1 : Rn.sm i d > 1000) (c2 : ¬ e0 = 0 ∧ 2 < e0) :
    Calls Try.prog 42 #[.agg #[bv, kv, iv, av], .int .i64 d, .pointer (some ⟨pe, 0, none⟩)] w fun e w' => ∃ i', e = .returned (.agg #[bv, kv, .int .i64 i', av]) ∧ IsOw Z w' U bv kv (.int .i64 i') av (Rn.ren d (.mk binds k i args)) ∧ w'.cell? ⟨pe, 0, none⟩ = some (.int .i64 (Rn.errs d (.mk binds k i args) e0)) ∧ Thaw w w' ∧ Off (fun q => U q ∨ q = pe) w w' := by
  cases ht with
  | mk U Ub Us bv k i a n c binds args bl off PA A PN PC N C Kd Ix hb hn hm ha hr hd h1 h2 h3 h4 h5 =>
  obtain ⟨pa, pc, rfl⟩ := hb.shape
  have hpl : pe < w.heap.size := Keep.lt hpe
  obtain ⟨hi0, hi1, hfa⟩ := Tm.fit_iff.1 hfit
  have hnn : n ≤ 9223372036854775807 := by unfold maxLen at hm; omega
  have Hsum := Lib.hid (sum_k i d ⟨hi0, hi1⟩ hdd)
  obtain rfl := hk
  obtain ⟨m, hmm⟩ : ∃ m, Rn.sm i d = m := ⟨_, rfl⟩
  rw [hmm] at Hsum c1
  have IFN : Hid (Rn.note (Rn.sm i d) e0 = 2) := by show _ = _; rw [hmm]; unfold Rn.note Rn.code; rw [if_neg (show ¬ m < 0 by omega), if_pos c1]; rw [if_pos ⟨by decide, .inr c2.2⟩]
  have m0 : ¬ m < 0 := by omega
  obtain ⟨e1, e2⟩ := c2
  have c2 := And.intro e1 e2
  have e3 : (e0 == 0) = false := by simpa using e1
  go_enter Try.func42, Try.ntmps42
  go_wp2_with fail
  obtain ⟨w3, hw3⟩ : ∃ w3, (w.alloc (.cells #[.slice pa binds.length pc, .int .i64 2, .int .i64 i, .slice a n c] 34)).alloc (.cells #[.slice none 0 0, .int .i64 0, .int .i64 0, .slice none 0 0] 34) = w3 := ⟨_, rfl⟩
  try rw [hw3]
  have B3 : Below w.heap.size w w3 := by rw [← hw3]; exact ((Below.refl _ _).alloc (Nat.le_refl _) _).alloc (by simp) _
  have x0 : Blk w3 w.heap.size #[.slice pa binds.length pc, .int .i64 2, .int .i64 i, .slice a n c] 34 := by rw [← hw3]; exact (Blk.new _ _ _ rfl).alloc _
  have x1 : Blk w3 (w.heap.size + 1) #[.slice none 0 0, .int .i64 0, .int .i64 0, .slice none 0 0] 34 := by rw [← hw3]; exact Blk.new _ _ _ (by simp)
  clear hw3
  have P3 : w3.cell? ⟨pe, 0, none⟩ = some (.int .i64 e0) := (B3.cell (p := ⟨pe, 0, none⟩) hpl).trans hpe
  have F3 : w3.frozen? ⟨pe, 0, none⟩ = false := Thaw.below B3 pe 0 hpl hpf
  have k1 : w3.cell? ⟨w.heap.size, 1, none⟩ = some (.int .i64 2) := x0.cell rfl
  have k2 : w3.cell? ⟨w.heap.size, 2, none⟩ = some (.int .i64 i) := x0.cell rfl
  have k3 : w3.cell? ⟨w.heap.size, 3, none⟩ = some (.slice a n c) := x0.cell rfl
  have O3 := Off.of_below (fun q => q = pe) B3
  have T3 := Thaw.below B3
  go_wp2_with fail
  refine (Hsum.out w3).mono ?_
  rintro e w4 ⟨rfl, rfl⟩
  have g2 := x0.free 2
  have hne : (⟨w.heap.size, 2, none⟩ : Addr) ≠ ⟨pe, 0, none⟩ := fun e => by cases e
  obtain ⟨w5, hw5⟩ : ∃ w5, w4.setCell ⟨w.heap.size, 2, none⟩ (.int .i64 m) = w5 := ⟨_, rfl⟩
  have O5 := O3.set ⟨w.heap.size, 2, none⟩ (.int .i64 m) (.inr (Nat.le_refl _))
  have T5 := T3.trans (Thaw.set w4 ⟨w.heap.size, 2, none⟩ (.int .i64 m)) B3.size
  have P5 : (w4.setCell ⟨w.heap.size, 2, none⟩ (.int .i64 m)).cell? ⟨pe, 0, none⟩ = some (.int .i64 e0) := by rw [World.cell?_setCell_other _ _ _ _ hne]; exact P3
  have F5 : (w4.setCell ⟨w.heap.size, 2, none⟩ (.int .i64 m)).frozen? ⟨pe, 0, none⟩ = false := by rw [World.frozen?_setCell]; exact F3
  have y0 := x0.set 2 (.int .i64 m)
  have y1 := x1.far ⟨w.heap.size, 2, none⟩ (.int .i64 m) (by simp)
  have c5 : (w4.setCell ⟨w.heap.size, 2, none⟩ (.int .i64 m)).cell? ⟨w.heap.size, 2, none⟩ = some (.int .i64 m) := World.cell?_setCell_same _ _ _ k2
  have c53 : (w4.setCell ⟨w.heap.size, 2, none⟩ (.int .i64 m)).cell? ⟨w.heap.size, 3, none⟩ = some (.slice a n c) := y0.cell rfl
  have S5 : w.heap.size ≤ (w4.setCell ⟨w.heap.size, 2, none⟩ (.int .i64 m)).heap.size := by simpa using B3.size
  rw [hw5] at O5 T5 P5 F5 y0 y1 c5 c53 S5
  clear x0 x1 B3 O3 T3 P3 F3
  have hpq : ∀ x, w.heap.size + x ≠ pe := fun x => by omega
  obtain ⟨w7, hw7⟩ : ∃ w7, w5.setCell ⟨pe, 0, none⟩ (.int .i64 2) = w7 := ⟨_, rfl⟩
  have O7 := O5.set ⟨pe, 0, none⟩ (.int .i64 2) (.inl rfl)
  have T7 := T5.trans (Thaw.set w5 ⟨pe, 0, none⟩ (.int .i64 2)) S5
  have P7 : (w5.setCell ⟨pe, 0, none⟩ (.int .i64 2)).cell? ⟨pe, 0, none⟩ = some (.int .i64 2) := World.cell?_setCell_same _ _ _ P5
  have y0 := y0.far ⟨pe, 0, none⟩ (.int .i64 2) (hpq 0)
  have y1 := y1.far ⟨pe, 0, none⟩ (.int .i64 2) (hpq 1)
  rw [hw7] at O7 T7 P7 y0 y1
  have c73 : w7.cell? ⟨w.heap.size, 3, none⟩ = some (.slice a n c) := y0.cell rfl
  go_wp2_with fail
  clear hw7 hw5 O5 T5 P5 F5 c5 c53 S5 c73 k1 k2 k3 g2
  have R0 := RInv.start (d := d) (Z := Z) (U := U) (Ub := Ub) (Us := Us) (w7 := w7) hn (fun h => (ha h).2.1) (fun i q hi h => (hr i q hi h).1) hpU h1 h2 h3 h4 h5 O7 T7 P7
  clear O7 T7 P7
  go_loopw [51] (fun ii wr => ∃ j : Nat, ii = .int .i64 j ∧ j ≤ args.length ∧ Blk wr w.heap.size #[.slice pa binds.length pc, .int .i64 2, .int .i64 m, .slice a n c] 34 ∧ Blk wr (w.heap.size + 1) #[.slice none 0 0, .int .i64 0, .int .i64 0, .slice none 0 0] 34 ∧
    RInv d Z U Ub Us bl off n args PA A PN PC N C Kd pe 2 w j wr) (fun ii _ => args.length - (intOf ii).toNat)
  case atStart => exact ⟨0, rfl, by omega, y0, y1, R0⟩
  case round =>
    clear y0 y1 R0
    obtain ⟨j, rfl, hj, y0, y1, hR⟩ := hrel
    by_cases hlt : j < args.length
    · obtain ⟨rfl, hUb, hZb, hUbb⟩ := ha (by omega)
      clear ha
      obtain ⟨J, r5, r6⟩ := hR.cells
      obtain ⟨q1, q2, q3, q4⟩ := r5 j (by omega)
      have r6j := r6 j hlt
      rw [if_neg (by omega)] at r6j
      have hlt0 : (0 : Int) ≤ (j : Int) := Int.natCast_nonneg _
      have hlt1 : (j : Int) < (n : Int) := by omega
      have hsz := hR.oft.size
      have HR := Lib.hid hR.drew
      have Hc := Lib.hid (ih args[j] (List.getElem_mem hlt) (hfa _ (List.getElem_mem hlt)) Z (Us j) wr.drew _ _ _ _ pe _ (r6j.keep (Keep.refl _ _).drew) (fun q hq => Nat.lt_of_lt_of_le (hUs q (hr j q (by omega) hq).1) hsz)
        (fun q hq => ⟨Nat.lt_of_lt_of_le (hZ q hq).1 hsz, fun o => hR.thaw q o (hZ q hq).1 ((hZ q hq).2 o)⟩) hR.e (hR.thaw pe 0 hpl hpf) fun h => hpU (hr j pe (by omega) h).1)
      have HP : Hid (∀ o, wr.frozen? ⟨bl, o, none⟩ = false) := fun o => hR.thaw bl o (hZ bl hZb).1 ((hZ bl hZb).2 o)
      clear r6 r6j r5 hR ih
      go_wp2_with fail
      refine wp_region_noPanic (wp_region_need (S := fun w' => w'.cell? ⟨w.heap.size, 3, none⟩ = some (.slice (some ⟨bl, off, none⟩) n c) ∧ w'.cell? ⟨bl, off + j * 4, none⟩ = some (.slice (PA j) (PN j) (PC j)) ∧ w'.cell? ⟨bl, off + j * 4 + 1, none⟩ = some (.int .i64 (Kd j)) ∧ w'.cell? ⟨bl, off + j * 4 + 2, none⟩ = some (.int .i64 (J j)) ∧ w'.cell? ⟨bl, off + j * 4 + 3, none⟩ = some (.slice (A j) (N j) (C j))) (by kernel_rfl) ?_)
      have hS : (wr.drew).cell? ⟨w.heap.size, 3, none⟩ = some (.slice (some ⟨bl, off, none⟩) n c) ∧ (wr.drew).cell? ⟨bl, off + j * 4, none⟩ = some (.slice (PA j) (PN j) (PC j)) ∧ (wr.drew).cell? ⟨bl, off + j * 4 + 1, none⟩ = some (.int .i64 (Kd j)) ∧ (wr.drew).cell? ⟨bl, off + j * 4 + 2, none⟩ = some (.int .i64 (J j)) ∧ (wr.drew).cell? ⟨bl, off + j * 4 + 3, none⟩ = some (.slice (A j) (N j) (C j)) := ⟨y0.drew.cell rfl, q1, q2, q3, q4⟩
      refine wpN_take (i := 0) (v := ?v12) rfl (by kernel_rfl) (fun _ _ _ h => h) hS (Or.inl ⟨by rfl, ?hy12⟩) ?hr12
      case hy12 => (intro wS hSw; (try dsimp only at hSw); go_simp; (try with_reducible rfl))
      try simp only [Act.put, List.setIfInBounds_toArray, List.set_cons_zero, List.set_cons_succ, List.getElem_toArray, List.getElem_cons_zero, List.getElem_cons_succ]
      refine wpN_take (i := 1) (v := ?v13) rfl (by kernel_rfl) (fun _ _ _ h => h) hS (Or.inl ⟨by rfl, ?hy13⟩) ?hr13
      case hy13 => (intro wS hSw; (try dsimp only at hSw); go_simp; (try with_reducible rfl))
      try simp only [Act.put, List.setIfInBounds_toArray, List.set_cons_zero, List.set_cons_succ, List.getElem_toArray, List.getElem_cons_zero, List.getElem_cons_succ]
      refine wpN_take (i := 2) (v := ?v14) rfl (by kernel_rfl) (fun _ _ _ h => h) hS (Or.inl ⟨by rfl, ?hy14⟩) ?hr14
      case hy14 => (intro wS hSw; (try dsimp only at hSw); go_simp; (try with_reducible rfl))
      try simp only [Act.put, List.setIfInBounds_toArray, List.set_cons_zero, List.set_cons_succ, List.getElem_toArray, List.getElem_cons_zero, List.getElem_cons_succ]
      refine wpN_take (i := 3) (v := ?v15) rfl (by kernel_rfl) (fun _ _ _ h => h) hS (Or.inl ⟨by rfl, ?hy15⟩) ?hr15
      case hy15 => (intro wS hSw; (try dsimp only at hSw); go_simp; (try with_reducible rfl))
      try simp only [Act.put, List.setIfInBounds_toArray, List.set_cons_zero, List.set_cons_succ, List.getElem_toArray, List.getElem_cons_zero, List.getElem_cons_succ]
      refine wpN_take (i := 4) (v := ?v16) rfl (by kernel_rfl) (fun _ _ _ h => h) hS (Or.inl ⟨by rfl, ?hy16⟩) ?hr16
      case hy16 => (intro wS hSw; (try dsimp only at hSw); go_simp; (try with_reducible rfl))
      try simp only [Act.put, List.setIfInBounds_toArray, List.set_cons_zero, List.set_cons_succ, List.getElem_toArray, List.getElem_cons_zero, List.getElem_cons_succ]
      refine wpN_take (i := 5) (v := ?v17) rfl (by kernel_rfl) (fun _ _ _ h => h) hS (Or.inl ⟨by rfl, ?hy17⟩) ?hr17
      case hy17 => (intro wS hSw; (try dsimp only at hSw); go_simp; (try with_reducible rfl))
      try simp only [Act.put, List.setIfInBounds_toArray, List.set_cons_zero, List.set_cons_succ, List.getElem_toArray, List.getElem_cons_zero, List.getElem_cons_succ]
      refine wpN_take (i := 6) (v := ?v18) rfl (by kernel_rfl) (fun _ _ _ h => h) hS (Or.inl ⟨by rfl, ?hy18⟩) ?hr18
      case hy18 => (intro wS hSw; (try dsimp only at hSw); go_simp; (try with_reducible rfl))
      try simp only [Act.put, List.setIfInBounds_toArray, List.set_cons_zero, List.set_cons_succ, List.getElem_toArray, List.getElem_cons_zero, List.getElem_cons_succ]
      refine wpN_take (i := 7) (v := ?v19) rfl (by kernel_rfl) (fun _ _ _ h => h) hS (Or.inl ⟨by rfl, ?hy19⟩) ?hr19
      case hy19 => (intro wS hSw; (try dsimp only at hSw); go_simp; (try with_reducible rfl))
      try simp only [Act.put, List.setIfInBounds_toArray, List.set_cons_zero, List.set_cons_succ, List.getElem_toArray, List.getElem_cons_zero, List.getElem_cons_succ]
      refine wpN_take (i := 8) (v := ?v20) rfl (by kernel_rfl) (fun _ _ _ h => h) hS (Or.inl ⟨by rfl, ?hy20⟩) ?hr20
      case hy20 => (intro wS hSw; (try dsimp only at hSw); go_simp; (try with_reducible rfl))
      try simp only [Act.put, List.setIfInBounds_toArray, List.set_cons_zero, List.set_cons_succ, List.getElem_toArray, List.getElem_cons_zero, List.getElem_cons_succ]
      refine wpN_take (i := 9) (v := ?v21) rfl (by kernel_rfl) (fun _ _ _ h => h) hS (Or.inl ⟨by rfl, ?hy21⟩) ?hr21
      case hy21 => (intro wS hSw; (try dsimp only at hSw); go_simp; (try with_reducible rfl))
      try simp only [Act.put, List.setIfInBounds_toArray, List.set_cons_zero, List.set_cons_succ, List.getElem_toArray, List.getElem_cons_zero, List.getElem_cons_succ]
      refine wpN_step (i := 10) (by kernel_rfl) rfl (fun K hK => ?_)
      go_simp
      refine Hc.out.mono ?_
      rintro e w5 ⟨i', rfl, g1, g2, g3, g4⟩
      have hKp : Keep (fun q => q = bl) wr.drew w5 := g4.keep fun q hq e => by
        subst hq
        rcases e with e | e
        · exact (hr j q (by omega) e).2.1 rfl
        · exact hpU (e ▸ hUb)
      have hnq : ∀ x, ¬ (Us j (w.heap.size + x) ∨ w.heap.size + x = pe) := fun x e => by
        rcases e with e | e
        · have := hUs _ (hr j _ (by omega) e).1; omega
        · omega
      have z0 := g4.blk (y0.drew) (hnq 0)
      have z1 := g4.blk (y1.drew) (hnq 1)
      have HS := Lib.hid (HR.out.step hn hlt (fun h => ⟨hUb, hUbb⟩) hr hd hpU hpl g1 g2 g3 g4)
      have p0 := hKp _ _ _ rfl (show wr.drew.cell? _ = _ from q1)
      have p1 := hKp _ _ _ rfl (show wr.drew.cell? _ = _ from q2)
      have p2 := hKp _ _ _ rfl (show wr.drew.cell? _ = _ from q3)
      have p3 := hKp _ _ _ rfl (show wr.drew.cell? _ = _ from q4)
      have f0 := g3 bl (off + j * 4) (Keep.lt q1) (HP.out _)
      have f1 := g3 bl (off + j * 4 + 1) (Keep.lt q1) (HP.out _)
      have f2 := g3 bl (off + j * 4 + 2) (Keep.lt q1) (HP.out _)
      have f3 := g3 bl (off + j * 4 + 3) (Keep.lt q1) (HP.out _)
      have hS : (w5).cell? ⟨w.heap.size, 3, none⟩ = some (.slice (some ⟨bl, off, none⟩) n c) ∧ (w5).cell? ⟨bl, off + j * 4, none⟩ = some (.slice (PA j) (PN j) (PC j)) ∧ (w5).cell? ⟨bl, off + j * 4 + 1, none⟩ = some (.int .i64 (Kd j)) ∧ (w5).cell? ⟨bl, off + j * 4 + 2, none⟩ = some (.int .i64 (J j)) ∧ (w5).cell? ⟨bl, off + j * 4 + 3, none⟩ = some (.slice (A j) (N j) (C j)) := ⟨z0.cell rfl, p0, p1, p2, p3⟩
      clear g1 g2 g3 g4 HR Hc q1 q2 q3 q4
      refine hK.out _ _ (fun _ => hS) ?_
      clear hK K
      try simp only [Act.put, List.setIfInBounds_toArray, List.set_cons_zero, List.set_cons_succ, List.getElem_toArray, List.getElem_cons_zero, List.getElem_cons_succ]
      refine wpN_take (i := 11) (v := ?v22) rfl (by kernel_rfl) (fun _ _ _ h => h) hS (Or.inl ⟨by rfl, ?hy22⟩) ?hr22
      case hy22 => (intro wS hSw; (try dsimp only at hSw); go_simp; (try with_reducible rfl))
      try simp only [Act.put, List.setIfInBounds_toArray, List.set_cons_zero, List.set_cons_succ, List.getElem_toArray, List.getElem_cons_zero, List.getElem_cons_succ]
      refine wpN_step (i := 12) (by kernel_rfl) rfl (fun K hK => ?_)
      go_simp
      refine hK.out _ _ (fun h => absurd h (by decide)) ?_
      clear hK K
      try simp only [Act.put, List.setIfInBounds_toArray, List.set_cons_zero, List.set_cons_succ, List.getElem_toArray, List.getElem_cons_zero, List.getElem_cons_succ]
      refine wpN_done (by kernel_rfl) ?_
      refine NoPanic.normal ?_
      have hbq : ∀ x, w.heap.size + x ≠ bl := fun x e => by have := hUs _ hUb; omega
      go_wp2_with fail
      refine ⟨⟨j + 1, by go_num, by omega, ?_, ?_, HS.out⟩, by simp [intOf]; omega⟩
      · exact (((z0.far _ _ (hbq 0)).far _ _ (hbq 0)).far _ _ (hbq 0)).far _ _ (hbq 0)
      · exact (((z1.far _ _ (hbq 1)).far _ _ (hbq 1)).far _ _ (hbq 1)).far _ _ (hbq 1)
    · have d0 : wr.cell? ⟨w.heap.size, 0, none⟩ = some (.slice pa binds.length pc) := y0.cell rfl
      have d1 : wr.cell? ⟨w.heap.size, 1, none⟩ = some (.int .i64 2) := y0.cell rfl
      have d2 : wr.cell? ⟨w.heap.size, 2, none⟩ = some (.int .i64 m) := y0.cell rfl
      have d3 : wr.cell? ⟨w.heap.size, 3, none⟩ = some (.slice a n c) := y0.cell rfl
      have r0 : wr.cell? ⟨w.heap.size + 1, 0, none⟩ = some (.slice none 0 0) := y1.cell rfl
      have r1 : wr.cell? ⟨w.heap.size + 1, 1, none⟩ = some (.int .i64 0) := y1.cell rfl
      have r2 : wr.cell? ⟨w.heap.size + 1, 2, none⟩ = some (.int .i64 0) := y1.cell rfl
      have r3 : wr.cell? ⟨w.heap.size + 1, 3, none⟩ = some (.slice none 0 0) := y1.cell rfl
      have f0 := y1.free 0
      have f1 := y1.free 1
      have f2 := y1.free 2
      have f3 := y1.free 3
      have HD := Lib.hid (hR.done hn (by omega) hb hm ha hr hd 2 m)
      have HO := Lib.hid hR.oft
      have HT := Lib.hid hR.thaw
      have hqn : ¬ U (w.heap.size + 1) := fun h => by have := hUs _ h; omega
      have hlj : ¬ (j : Int) < (n : Int) := by omega
      clear hR y0 y1 ih hb
      go_wp2_with fail
      refine bodyPost_ret (v := .agg #[.slice pa binds.length pc, .int .i64 2, .int .i64 m, .slice a n c]) (by simp [results, Try.results42, go_sem, r0, r1, r2, r3]) rfl ?_
      obtain ⟨w9, hw9⟩ : ∃ w9, ((((wr.setCell ⟨w.heap.size + 1, 0, none⟩ (.slice pa binds.length pc)).setCell ⟨w.heap.size + 1, 1, none⟩ (.int .i64 2)).setCell ⟨w.heap.size + 1, 2, none⟩ (.int .i64 m)).setCell ⟨w.heap.size + 1, 3, none⟩ (.slice a n c)) = w9 := ⟨_, rfl⟩
      have hk9 : Keep (fun q => q ≠ w.heap.size + 1) wr w9 := by rw [← hw9]; exact ((((Keep.refl _ _).setCell _ _ (by simp)).setCell _ _ (by simp)).setCell _ _ (by simp)).setCell _ _ (by simp)
      have hf9 : ∀ q o, w9.frozen? ⟨q, o, none⟩ = wr.frozen? ⟨q, o, none⟩ := fun q o => by rw [← hw9]; simp
      have ho9 : Off (fun q => U q ∨ q = pe) w w9 := by
        rw [← hw9]
        exact (((HO.out.set _ _ (.inr (by simp))).set _ _ (.inr (by simp))).set _ _ (.inr (by simp))).set _ _ (.inr (by simp))
      rw [hw9]
      refine ⟨m, rfl, ?_, ?_, fun q o hq hf => (hf9 q o).trans (HT.out q o hq hf), ho9⟩
      · rw [Rn.ren_eq, if_pos rfl, hmm]
        exact HD.out.1.keep (hk9.weaken fun q hq e => hqn (e ▸ hq))
      · rw [Rn.errs_eq, if_pos rfl, IFN.out]
        exact hk9 _ _ _ (by omega) HD.out.2
set_option maxRecDepth 100000 in
set_option maxHeartbeats 2000000 in
theorem renamed_d3 (d : Int) (hdd : -9223372036854775808 ≤ d ∧ d ≤ 9223372036854775807) (binds : List Ty) (k i : Int) (args : List Tm) (ih : ∀ t ∈ args, t.Fit → RenOw d t) (hfit : (Tm.mk binds k i args).Fit) (Z U : Nat → Prop) (w : World) (bv kv iv av : Value) (pe : Nat) (e0 : Int) (ht : IsOw Z w U bv kv iv av (.mk binds k i args)) (hUs : ∀ q, U q → q < w.heap.size) (hZ : ∀ q, Z q → q < w.heap.size ∧ ∀ o, w.frozen? ⟨q, o, none⟩ = false) (hpe : w.cell? ⟨pe, 0, none⟩ = some (.int .i64 e0)) (hpf : w.frozen? ⟨pe, 0, none⟩ = false) (hpU : ¬ U pe)  (hk : k = 2) (c1 : Rn.sm i d > 1000) (c2 : ¬ e0 = 0 ∧ ¬ 2 < e0) :
    Calls Try.prog 42 #[.agg #[bv, kv, iv, av], .int .i64 d, .pointer (some ⟨pe, 0, none⟩)] w fun e w' => ∃ i', e = .returned (.agg #[bv, kv, .int .i64 i', av]) ∧ IsOw Z w' U bv kv (.int .i64 i') av (Rn.ren d (.mk binds k i args)) ∧ w'.cell? ⟨pe, 0, none⟩ = some (.int .i64 (Rn.errs d (.mk binds k i args) e0)) ∧ Thaw w w' ∧ Off (fun q => U q ∨ q = pe) w w' := by
  cases ht with
  | mk U Ub Us bv k i a n c binds args bl off PA A PN PC N C Kd Ix hb hn hm ha hr hd h1 h2 h3 h4 h5 =>
  obtain ⟨pa, pc, rfl⟩ := hb.shape
  have hpl : pe < w.heap.size := Keep.lt hpe
  obtain ⟨hi0, hi1, hfa⟩ := Tm.fit_iff.1 hfit
  have hnn : n ≤ 9223372036854775807 := by unfold maxLen at hm; omega
  have Hsum := Lib.hid (sum_k i d ⟨hi0, hi1⟩ hdd)
  obtain rfl := hk
  obtain ⟨m, hmm⟩ : ∃ m, Rn.sm i d = m := ⟨_, rfl⟩
  rw [hmm] at Hsum c1
  have IFN : Hid (Rn.note (Rn.sm i d) e0 = e0) := by show _ = _; rw [hmm]; unfold Rn.note Rn.code; rw [if_neg (show ¬ m < 0 by omega), if_pos c1]; rw [if_neg (fun h => h.2.elim c2.1 c2.2)]
  have m0 : ¬ m < 0 := by omega
  obtain ⟨e1, e2⟩ := c2
  have c2 := And.intro e1 e2
  have e3 : (e0 == 0) = false := by simpa using e1
  go_enter Try.func42, Try.ntmps42
  go_wp2_with fail
  obtain ⟨w3, hw3⟩ : ∃ w3, (w.alloc (.cells #[.slice pa binds.length pc, .int .i64 2, .int .i64 i, .slice a n c] 34)).alloc (.cells #[.slice none 0 0, .int .i64 0, .int .i64 0, .slice none 0 0] 34) = w3 := ⟨_, rfl⟩
  try rw [hw3]
  have B3 : Below w.heap.size w w3 := by rw [← hw3]; exact ((Below.refl _ _).alloc (Nat.le_refl _) _).alloc (by simp) _
  have x0 : Blk w3 w.heap.size #[.slice pa binds.length pc, .int .i64 2, .int .i64 i, .slice a n c] 34 := by rw [← hw3]; exact (Blk.new _ _ _ rfl).alloc _
  have x1 : Blk w3 (w.heap.size + 1) #[.slice none 0 0, .int .i64 0, .int .i64 0, .slice none 0 0] 34 := by rw [← hw3]; exact Blk.new _ _ _ (by simp)
  clear hw3
  have P3 : w3.cell? ⟨pe, 0, none⟩ = some (.int .i64 e0) := (B3.cell (p := ⟨pe, 0, none⟩) hpl).trans hpe
  have F3 : w3.frozen? ⟨pe, 0, none⟩ = false := Thaw.below B3 pe 0 hpl hpf
  have k1 : w3.cell? ⟨w.heap.size, 1, none⟩ = some (.int .i64 2) := x0.cell rfl
  have k2 : w3.cell? ⟨w.heap.size, 2, none⟩ = some (.int .i64 i) := x0.cell rfl
  have k3 : w3.cell? ⟨w.heap.size, 3, none⟩ = some (.slice a n c) := x0.cell rfl
  have O3 := Off.of_below (fun q => q = pe) B3
  have T3 := Thaw.below B3
  go_wp2_with fail
  refine (Hsum.out w3).mono ?_
  rintro e w4 ⟨rfl, rfl⟩
  have g2 := x0.free 2
  have hne : (⟨w.heap.size, 2, none⟩ : Addr) ≠ ⟨pe, 0, none⟩ := fun e => by cases e
  obtain ⟨w5, hw5⟩ : ∃ w5, w4.setCell ⟨w.heap.size, 2, none⟩ (.int .i64 m) = w5 := ⟨_, rfl⟩
  have O5 := O3.set ⟨w.heap.size, 2, none⟩ (.int .i64 m) (.inr (Nat.le_refl _))
  have T5 := T3.trans (Thaw.set w4 ⟨w.heap.size, 2, none⟩ (.int .i64 m)) B3.size
  have P5 : (w4.setCell ⟨w.heap.size, 2, none⟩ (.int .i64 m)).cell? ⟨pe, 0, none⟩ = some (.int .i64 e0) := by rw [World.cell?_setCell_other _ _ _ _ hne]; exact P3
  have F5 : (w4.setCell ⟨w.heap.size, 2, none⟩ (.int .i64 m)).frozen? ⟨pe, 0, none⟩ = false := by rw [World.frozen?_setCell]; exact F3
  have y0 := x0.set 2 (.int .i64 m)
  have y1 := x1.far ⟨w.heap.size, 2, none⟩ (.int .i64 m) (by simp)
  have c5 : (w4.setCell ⟨w.heap.size, 2, none⟩ (.int .i64 m)).cell? ⟨w.heap.size, 2, none⟩ = some (.int .i64 m) := World.cell?_setCell_same _ _ _ k2
  have c53 : (w4.setCell ⟨w.heap.size, 2, none⟩ (.int .i64 m)).cell? ⟨w.heap.size, 3, none⟩ = some (.slice a n c) := y0.cell rfl
  have S5 : w.heap.size ≤ (w4.setCell ⟨w.heap.size, 2, none⟩ (.int .i64 m)).heap.size := by simpa using B3.size
  rw [hw5] at O5 T5 P5 F5 y0 y1 c5 c53 S5
  clear x0 x1 B3 O3 T3 P3 F3
  go_wp2_with fail
  clear hw5
  obtain ⟨w7, hw7⟩ : ∃ w7, w5 = w7 := ⟨_, rfl⟩
  have O7 := O5
  have T7 := T5
  have P7 := P5
  rw [hw7] at O7 T7 P7 y0 y1 ⊢
  clear hw7 O5 T5 P5 F5 c5 c53 S5 k1 k2 k3 g2
  have R0 := RInv.start (d := d) (Z := Z) (U := U) (Ub := Ub) (Us := Us) (w7 := w7) hn (fun h => (ha h).2.1) (fun i q hi h => (hr i q hi h).1) hpU h1 h2 h3 h4 h5 O7 T7 P7
  clear O7 T7 P7
  go_loopw [51] (fun ii wr => ∃ j : Nat, ii = .int .i64 j ∧ j ≤ args.length ∧ Blk wr w.heap.size #[.slice pa binds.length pc, .int .i64 2, .int .i64 m, .slice a n c] 34 ∧ Blk wr (w.heap.size + 1) #[.slice none 0 0, .int .i64 0, .int .i64 0, .slice none 0 0] 34 ∧
    RInv d Z U Ub Us bl off n args PA A PN PC N C Kd pe e0 w j wr) (fun ii _ => args.length - (intOf ii).toNat)
  case atStart => exact ⟨0, rfl, by omega, y0, y1, R0⟩
  case round =>
    clear y0 y1 R0
    obtain ⟨j, rfl, hj, y0, y1, hR⟩ := hrel
    by_cases hlt : j < args.length
    · obtain ⟨rfl, hUb, hZb, hUbb⟩ := ha (by omega)
      clear ha
      obtain ⟨J, r5, r6⟩ := hR.cells
      obtain ⟨q1, q2, q3, q4⟩ := r5 j (by omega)
      have r6j := r6 j hlt
      rw [if_neg (by omega)] at r6j
      have hlt0 : (0 : Int) ≤ (j : Int) := Int.natCast_nonneg _
      have hlt1 : (j : Int) < (n : Int) := by omega
      have hsz := hR.oft.size
      have HR := Lib.hid hR.drew
      have Hc := Lib.hid (ih args[j] (List.getElem_mem hlt) (hfa _ (List.getElem_mem hlt)) Z (Us j) wr.drew _ _ _ _ pe _ (r6j.keep (Keep.refl _ _).drew) (fun q hq => Nat.lt_of_lt_of_le (hUs q (hr j q (by omega) hq).1) hsz)
        (fun q hq => ⟨Nat.lt_of_lt_of_le (hZ q hq).1 hsz, fun o => hR.thaw q o (hZ q hq).1 ((hZ q hq).2 o)⟩) hR.e (hR.thaw pe 0 hpl hpf) fun h => hpU (hr j pe (by omega) h).1)
      have HP : Hid (∀ o, wr.frozen? ⟨bl, o, none⟩ = false) := fun o => hR.thaw bl o (hZ bl hZb).1 ((hZ bl hZb).2 o)
      clear r6 r6j r5 hR ih
      go_wp2_with fail
      refine wp_region_noPanic (wp_region_need (S := fun w' => w'.cell? ⟨w.heap.size, 3, none⟩ = some (.slice (some ⟨bl, off, none⟩) n c) ∧ w'.cell? ⟨bl, off + j * 4, none⟩ = some (.slice (PA j) (PN j) (PC j)) ∧ w'.cell? ⟨bl, off + j * 4 + 1, none⟩ = some (.int .i64 (Kd j)) ∧ w'.cell? ⟨bl, off + j * 4 + 2, none⟩ = some (.int .i64 (J j)) ∧ w'.cell? ⟨bl, off + j * 4 + 3, none⟩ = some (.slice (A j) (N j) (C j))) (by kernel_rfl) ?_)
      have hS : (wr.drew).cell? ⟨w.heap.size, 3, none⟩ = some (.slice (some ⟨bl, off, none⟩) n c) ∧ (wr.drew).cell? ⟨bl, off + j * 4, none⟩ = some (.slice (PA j) (PN j) (PC j)) ∧ (wr.drew).cell? ⟨bl, off + j * 4 + 1, none⟩ = some (.int .i64 (Kd j)) ∧ (wr.drew).cell? ⟨bl, off + j * 4 + 2, none⟩ = some (.int .i64 (J j)) ∧ (wr.drew).cell? ⟨bl, off + j * 4 + 3, none⟩ = some (.slice (A j) (N j) (C j)) := ⟨y0.drew.cell rfl, q1, q2, q3, q4⟩
      refine wpN_take (i := 0) (v := ?v23) rfl (by kernel_rfl) (fun _ _ _ h => h) hS (Or.inl ⟨by rfl, ?hy23⟩) ?hr23
      case hy23 => (intro wS hSw; (try dsimp only at hSw); go_simp; (try with_reducible rfl))
      try simp only [Act.put, List.setIfInBounds_toArray, List.set_cons_zero, List.set_cons_succ, List.getElem_toArray, List.getElem_cons_zero, List.getElem_cons_succ]
      refine wpN_take (i := 1) (v := ?v24) rfl (by kernel_rfl) (fun _ _ _ h => h) hS (Or.inl ⟨by rfl, ?hy24⟩) ?hr24
      case hy24 => (intro wS hSw; (try dsimp only at hSw); go_simp; (try with_reducible rfl))
      try simp only [Act.put, List.setIfInBounds_toArray, List.set_cons_zero, List.set_cons_succ, List.getElem_toArray, List.getElem_cons_zero, List.getElem_cons_succ]
      refine wpN_take (i := 2) (v := ?v25) rfl (by kernel_rfl) (fun _ _ _ h => h) hS (Or.inl ⟨by rfl, ?hy25⟩) ?hr25
      case hy25 => (intro wS hSw; (try dsimp only at hSw); go_simp; (try with_reducible rfl))
      try simp only [Act.put, List.setIfInBounds_toArray, List.set_cons_zero, List.set_cons_succ, List.getElem_toArray, List.getElem_cons_zero, List.getElem_cons_succ]
      refine wpN_take (i := 3) (v := ?v26) rfl (by kernel_rfl) (fun _ _ _ h => h) hS (Or.inl ⟨by rfl, ?hy26⟩) ?hr26
      case hy26 => (intro wS hSw; (try dsimp only at hSw); go_simp; (try with_reducible rfl))
      try simp only [Act.put, List.setIfInBounds_toArray, List.set_cons_zero, List.set_cons_succ, List.getElem_toArray, List.getElem_cons_zero, List.getElem_cons_succ]
      refine wpN_take (i := 4) (v := ?v27) rfl (by kernel_rfl) (fun _ _ _ h => h) hS (Or.inl ⟨by rfl, ?hy27⟩) ?hr27
      case hy27 => (intro wS hSw; (try dsimp only at hSw); go_simp; (try with_reducible rfl))
      try simp only [Act.put, List.setIfInBounds_toArray, List.set_cons_zero, List.set_cons_succ, List.getElem_toArray, List.getElem_cons_zero, List.getElem_cons_succ]
      refine wpN_take (i := 5) (v := ?v28) rfl (by kernel_rfl) (fun _ _ _ h => h) hS (Or.inl ⟨by rfl, ?hy28⟩) ?hr28
      case hy28 => (intro wS hSw; (try dsimp only at hSw); go_simp; (try with_reducible rfl))
      try simp only [Act.put, List.setIfInBounds_toArray, List.set_cons_zero, List.set_cons_succ, List.getElem_toArray, List.getElem_cons_zero, List.getElem_cons_succ]
      refine wpN_take (i := 6) (v := ?v29) rfl (by kernel_rfl) (fun _ _ _ h => h) hS (Or.inl ⟨by rfl, ?hy29⟩) ?hr29
      case hy29 => (intro wS hSw; (try dsimp only at hSw); go_simp; (try with_reducible rfl))
      try simp only [Act.put, List.setIfInBounds_toArray, List.set_cons_zero, List.set_cons_succ, List.getElem_toArray, List.getElem_cons_zero, List.getElem_cons_succ]
      refine wpN_take (i := 7) (v := ?v30) rfl (by kernel_rfl) (fun _ _ _ h => h) hS (Or.inl ⟨by rfl, ?hy30⟩) ?hr30
      case hy30 => (intro wS hSw; (try dsimp only at hSw); go_simp; (try with_reducible rfl))
      try simp only [Act.put, List.setIfInBounds_toArray, List.set_cons_zero, List.set_cons_succ, List.getElem_toArray, List.getElem_cons_zero, List.getElem_cons_succ]
      refine wpN_take (i := 8) (v := ?v31) rfl (by kernel_rfl) (fun _ _ _ h => h) hS (Or.inl ⟨by rfl, ?hy31⟩) ?hr31
      case hy31 => (intro wS hSw; (try dsimp only at hSw); go_simp; (try with_reducible rfl))
      try simp only [Act.put, List.setIfInBounds_toArray, List.set_cons_zero, List.set_cons_succ, List.getElem_toArray, List.getElem_cons_zero, List.getElem_cons_succ]
      refine wpN_take (i := 9) (v := ?v32) rfl (by kernel_rfl) (fun _ _ _ h => h) hS (Or.inl ⟨by rfl, ?hy32⟩) ?hr32
      case hy32 => (intro wS hSw; (try dsimp only at hSw); go_simp; (try with_reducible rfl))
      try simp only [Act.put, List.setIfInBounds_toArray, List.set_cons_zero, List.set_cons_succ, List.getElem_toArray, List.getElem_cons_zero, List.getElem_cons_succ]
      refine wpN_step (i := 10) (by kernel_rfl) rfl (fun K hK => ?_)
      go_simp
      refine Hc.out.mono ?_
      rintro e w5 ⟨i', rfl, g1, g2, g3, g4⟩
      have hKp : Keep (fun q => q = bl) wr.drew w5 := g4.keep fun q hq e => by
        subst hq
        rcases e with e | e
        · exact (hr j q (by omega) e).2.1 rfl
        · exact hpU (e ▸ hUb)
      have hnq : ∀ x, ¬ (Us j (w.heap.size + x) ∨ w.heap.size + x = pe) := fun x e => by
        rcases e with e | e
        · have := hUs _ (hr j _ (by omega) e).1; omega
        · omega
      have z0 := g4.blk (y0.drew) (hnq 0)
      have z1 := g4.blk (y1.drew) (hnq 1)
      have HS := Lib.hid (HR.out.step hn hlt (fun h => ⟨hUb, hUbb⟩) hr hd hpU hpl g1 g2 g3 g4)
      have p0 := hKp _ _ _ rfl (show wr.drew.cell? _ = _ from q1)
      have p1 := hKp _ _ _ rfl (show wr.drew.cell? _ = _ from q2)
      have p2 := hKp _ _ _ rfl (show wr.drew.cell? _ = _ from q3)
      have p3 := hKp _ _ _ rfl (show wr.drew.cell? _ = _ from q4)
      have f0 := g3 bl (off + j * 4) (Keep.lt q1) (HP.out _)
      have f1 := g3 bl (off + j * 4 + 1) (Keep.lt q1) (HP.out _)
      have f2 := g3 bl (off + j * 4 + 2) (Keep.lt q1) (HP.out _)
      have f3 := g3 bl (off + j * 4 + 3) (Keep.lt q1) (HP.out _)
      have hS : (w5).cell? ⟨w.heap.size, 3, none⟩ = some (.slice (some ⟨bl, off, none⟩) n c) ∧ (w5).cell? ⟨bl, off + j * 4, none⟩ = some (.slice (PA j) (PN j) (PC j)) ∧ (w5).cell? ⟨bl, off + j * 4 + 1, none⟩ = some (.int .i64 (Kd j)) ∧ (w5).cell? ⟨bl, off + j * 4 + 2, none⟩ = some (.int .i64 (J j)) ∧ (w5).cell? ⟨bl, off + j * 4 + 3, none⟩ = some (.slice (A j) (N j) (C j)) := ⟨z0.cell rfl, p0, p1, p2, p3⟩
      clear g1 g2 g3 g4 HR Hc q1 q2 q3 q4
      refine hK.out _ _ (fun _ => hS) ?_
      clear hK K
      try simp only [Act.put, List.setIfInBounds_toArray, List.set_cons_zero, List.set_cons_succ, List.getElem_toArray, List.getElem_cons_zero, List.getElem_cons_succ]
      refine wpN_take (i := 11) (v := ?v33) rfl (by kernel_rfl) (fun _ _ _ h => h) hS (Or.inl ⟨by rfl, ?hy33⟩) ?hr33
      case hy33 => (intro wS hSw; (try dsimp only at hSw); go_simp; (try with_reducible rfl))
      try simp only [Act.put, List.setIfInBounds_toArray, List.set_cons_zero, List.set_cons_succ, List.getElem_toArray, List.getElem_cons_zero, List.getElem_cons_succ]
      refine wpN_step (i := 12) (by kernel_rfl) rfl (fun K hK => ?_)
      go_simp
      refine hK.out _ _ (fun h => absurd h (by decide)) ?_
      clear hK K
      try simp only [Act.put, List.setIfInBounds_toArray, List.set_cons_zero, List.set_cons_succ, List.getElem_toArray, List.getElem_cons_zero, List.getElem_cons_succ]
      refine wpN_done (by kernel_rfl) ?_
      refine NoPanic.normal ?_
      have hbq : ∀ x, w.heap.size + x ≠ bl := fun x e => by have := hUs _ hUb; omega
      go_wp2_with fail
      refine ⟨⟨j + 1, by go_num, by omega, ?_, ?_, HS.out⟩, by simp [intOf]; omega⟩
      · exact (((z0.far _ _ (hbq 0)).far _ _ (hbq 0)).far _ _ (hbq 0)).far _ _ (hbq 0)
      · exact (((z1.far _ _ (hbq 1)).far _ _ (hbq 1)).far _ _ (hbq 1)).far _ _ (hbq 1)
    · have d0 : wr.cell? ⟨w.heap.size, 0, none⟩ = some (.slice pa binds.length pc) := y0.cell rfl
      have d1 : wr.cell? ⟨w.heap.size, 1, none⟩ = some (.int .i64 2) := y0.cell rfl
      have d2 : wr.cell? ⟨w.heap.size, 2, none⟩ = some (.int .i64 m) := y0.cell rfl
      have d3 : wr.cell? ⟨w.heap.size, 3, none⟩ = some (.slice a n c) := y0.cell rfl
      have r0 : wr.cell? ⟨w.heap.size + 1, 0, none⟩ = some (.slice none 0 0) := y1.cell rfl
      have r1 : wr.cell? ⟨w.heap.size + 1, 1, none⟩ = some (.int .i64 0) := y1.cell rfl
      have r2 : wr.cell? ⟨w.heap.size + 1, 2, none⟩ = some (.int .i64 0) := y1.cell rfl
      have r3 : wr.cell? ⟨w.heap.size + 1, 3, none⟩ = some (.slice none 0 0) := y1.cell rfl
      have f0 := y1.free 0
      have f1 := y1.free 1
      have f2 := y1.free 2
      have f3 := y1.free 3
      have HD := Lib.hid (hR.done hn (by omega) hb hm ha hr hd 2 m)
      have HO := Lib.hid hR.oft
      have HT := Lib.hid hR.thaw
      have hqn : ¬ U (w.heap.size + 1) := fun h => by have := hUs _ h; omega
      have hlj : ¬ (j : Int) < (n : Int) := by omega
      clear hR y0 y1 ih hb
      go_wp2_with fail
      refine bodyPost_ret (v := .agg #[.slice pa binds.length pc, .int .i64 2, .int .i64 m, .slice a n c]) (by simp [results, Try.results42, go_sem, r0, r1, r2, r3]) rfl ?_
      obtain ⟨w9, hw9⟩ : ∃ w9, ((((wr.setCell ⟨w.heap.size + 1, 0, none⟩ (.slice pa binds.length pc)).setCell ⟨w.heap.size + 1, 1, none⟩ (.int .i64 2)).setCell ⟨w.heap.size + 1, 2, none⟩ (.int .i64 m)).setCell ⟨w.heap.size + 1, 3, none⟩ (.slice a n c)) = w9 := ⟨_, rfl⟩
      have hk9 : Keep (fun q => q ≠ w.heap.size + 1) wr w9 := by rw [← hw9]; exact ((((Keep.refl _ _).setCell _ _ (by simp)).setCell _ _ (by simp)).setCell _ _ (by simp)).setCell _ _ (by simp)
      have hf9 : ∀ q o, w9.frozen? ⟨q, o, none⟩ = wr.frozen? ⟨q, o, none⟩ := fun q o => by rw [← hw9]; simp
      have ho9 : Off (fun q => U q ∨ q = pe) w w9 := by
        rw [← hw9]
        exact (((HO.out.set _ _ (.inr (by simp))).set _ _ (.inr (by simp))).set _ _ (.inr (by simp))).set _ _ (.inr (by simp))
      rw [hw9]
      refine ⟨m, rfl, ?_, ?_, fun q o hq hf => (hf9 q o).trans (HT.out q o hq hf), ho9⟩
      · rw [Rn.ren_eq, if_pos rfl, hmm]
        exact HD.out.1.keep (hk9.weaken fun q hq e => hqn (e ▸ hq))
      · rw [Rn.errs_eq, if_pos rfl, IFN.out]
        exact hk9 _ _ _ (by omega) HD.out.2
end Go.Proofs.Ytcblpjheoclkeaa

namespace Go.Proofs.Ytcblpjheoclkeaa
open Go.RowKit
theorem renamed_ow (d : Int) (hdd : -9223372036854775808 ≤ d ∧ d ≤ 9223372036854775807) : ∀ t : Tm, t.Fit → RenOw d t := Tm.ind fun binds k i args ih => by
  intro hfit Z U w bv kv iv av pe e0 ht hUs hZ hpe hpf hpU
  by_cases hk : k = 2
  · by_cases m0 : Rn.sm i d < 0
    · by_cases z : e0 = 0
      · exact renamed_c1 d hdd binds k i args ih hfit Z U w bv kv iv av pe e0 ht hUs hZ hpe hpf hpU hk m0 z
      · by_cases y : 1 < e0
        · exact renamed_c2 d hdd binds k i args ih hfit Z U w bv kv iv av pe e0 ht hUs hZ hpe hpf hpU hk m0 ⟨z, y⟩
        · exact renamed_c3 d hdd binds k i args ih hfit Z U w bv kv iv av pe e0 ht hUs hZ hpe hpf hpU hk m0 ⟨z, y⟩
    · by_cases m1 : Rn.sm i d > 1000
      · by_cases z : e0 = 0
        · exact renamed_d1 d hdd binds k i args ih hfit Z U w bv kv iv av pe e0 ht hUs hZ hpe hpf hpU hk m1 z
        · by_cases y : 2 < e0
          · exact renamed_d2 d hdd binds k i args ih hfit Z U w bv kv iv av pe e0 ht hUs hZ hpe hpf hpU hk m1 ⟨z, y⟩
          · exact renamed_d3 d hdd binds k i args ih hfit Z U w bv kv iv av pe e0 ht hUs hZ hpe hpf hpU hk m1 ⟨z, y⟩
      · exact renamed_b d hdd binds k i args ih hfit Z U w bv kv iv av pe e0 ht hUs hZ hpe hpf hpU hk m0 m1
  · exact renamed_a d hdd binds k i args ih hfit Z U w bv kv iv av pe e0 ht hUs hZ hpe hpf hpU hk
end Go.Proofs.Ytcblpjheoclkeaa

namespace Go.Proofs.Ytcblpjheoclkeaa

section
variable {P : Program} {ops : Array Oper} {Q : Exit → Act → World → Prop} {md : Region.Mode} {S : World → Prop}

theorem wpN_pick (rs : List Nat) {n : Nat} {listed : Array Bool} {a : Act} {w : World} (hr : Region.ready md ops listed = rs) (hne : rs ≠ [])
    (h : ∀ i ∈ rs, wpOp P ops Q i (fun a' w' => (asksS ops i = true → S w') ∧ wpN P md ops Q S n (listed.setIfInBounds i true) a' w') a w) : wpN P md ops Q S (n + 1) listed a w :=
  ⟨fun h0 => absurd (hr.symm.trans h0) hne, fun i hi => wpOp_mono (fun _ _ hh => ⟨fun ha _ => hh.1 ha, hh.2⟩) (h i (by rw [hr] at hi; exact hi))⟩

theorem pick_two {p : Nat → Prop} {i j : Nat} (hi : p i) (hj : p j) : ∀ x ∈ [i, j], p x := by
  intro x hx
  simp only [List.mem_cons, List.not_mem_nil, or_false] at hx
  rcases hx with rfl | rfl
  · exact hi
  · exact hj
end
end Go.Proofs.Ytcblpjheoclkeaa

namespace Go.Proofs.Ytcblpjheoclkeaa
open Go.RowKit
set_option maxRecDepth 100000 in
set_option maxHeartbeats 2000000 in
theorem rename_k {F : Nat → Prop} {w : World} {b k i a : Value} {t : Tm} (d : Int) (hR : RenOw d t) (ht : IsTm F w b k i a t) (hsz : t.full ≤ 80000) (hfit : t.Fit) :
    Calls Try.prog 8 #[.agg #[b, k, i, a], .int .i64 d] w fun e w' => ∃ b' k' i' a', e = .returned (.tuple #[.agg #[b', k', i', a'], .int .i64 (Rn.errs d t 0)]) ∧ IsTm (fun q => w.heap.size ≤ q) w' b' k' i' a' (if Rn.errs d t 0 = 0 then Rn.ren d t else Tm.zero) ∧ Below w.heap.size w w' := by
  have Hcp : Hid (∀ w' : World, Below w.heap.size w w' → Calls Try.prog 43 #[.agg #[b, k, i, a]] w' (OwnTm t w')) := fun w' hb => copy_ow (ht.bel hb) hsz hfit
  have HR := Lib.hid hR
  obtain ⟨pa, pc, qa, qc, rfl, rfl, rfl, rfl⟩ := ht.shape
  clear ht hR
  obtain ⟨x1, hx1⟩ : ∃ x, t.binds.length = x := ⟨_, rfl⟩
  obtain ⟨x2, hx2⟩ : ∃ x, t.args.length = x := ⟨_, rfl⟩
  obtain ⟨x3, hx3⟩ : ∃ x, t.kind = x := ⟨_, rfl⟩
  obtain ⟨x4, hx4⟩ : ∃ x, t.index = x := ⟨_, rfl⟩
  rw [hx1, hx2, hx3, hx4] at Hcp ⊢
  have Hx1 := Lib.hid hx1; have Hx2 := Lib.hid hx2; have Hx3 := Lib.hid hx3; have Hx4 := Lib.hid hx4
  clear hx1 hx2 hx3 hx4
  obtain ⟨E, hEE⟩ : ∃ E, Rn.errs d t 0 = E := ⟨_, rfl⟩
  obtain ⟨T, hTT⟩ : ∃ T, Rn.ren d t = T := ⟨_, rfl⟩
  rw [hEE, hTT]
  have HEE := Lib.hid hEE; have HTT := Lib.hid hTT
  clear hEE hTT
  go_enter Try.func8, Try.ntmps8
  go_wp2_with fail
  obtain ⟨w3, hw3⟩ : ∃ w3, ((w.alloc (.cells #[.slice pa x1 pc, .int .i64 x3, .int .i64 x4, .slice qa x2 qc] 34)).alloc (.cells #[.slice none 0 0, .int .i64 0, .int .i64 0, .slice none 0 0] 34)).alloc (.cells #[.int .i64 0] 35) = w3 := ⟨_, rfl⟩
  have B3 : Below w.heap.size w w3 := by rw [← hw3]; exact (((Below.refl _ _).alloc (Nat.le_refl _) _).alloc (by simp) _).alloc (by simp; omega) _
  have y1 : Blk w3 (w.heap.size + 1) #[.slice none 0 0, .int .i64 0, .int .i64 0, .slice none 0 0] 34 := by rw [← hw3]; exact (Blk.new _ _ _ (by simp)).alloc _
  have y2 : Blk w3 (w.heap.size + 1 + 1) #[.int .i64 0] 35 := by rw [← hw3]; exact Blk.new _ _ _ (by simp)
  have hs3 : w3.heap.size = w.heap.size + 1 + 1 + 1 := by rw [← hw3]; simp
  go_wp2_with fail
  try rw [hw3]
  clear hw3
  refine (Hcp.out w3 B3).mono ?_
  rintro e w4 ⟨b', k', i', a', Z, rfl, hT, hFr, hb4⟩
  rw [hs3] at hT hFr
  have z1 := y1.below hb4
  have z2 := y2.below hb4
  have B4 := B3.trans (hb4.mono B3.size)
  have hRR := Lib.hid (HR.out Z _ w4 _ _ _ _ (w.heap.size + 1 + 1) 0 hT (fun q h => h.2) (fun q hq => ⟨(hFr q hq).1.2, (hFr q hq).2⟩) (z2.cell rfl) (z2.free 0) (fun h => by have := h.1; omega))
  clear hT hFr hb4
  go_wp2_with fail
  refine hRR.out.mono ?_
  rintro e w5 ⟨i2, rfl, hO, hE, _, hOff⟩
  rw [HTT.out] at hO
  rw [HEE.out] at hE
  have v1 := hOff.blk z1 (fun h => by rcases h with h | h <;> omega)
  have B5 : Below w.heap.size w w5 := B4.trans (hOff.toBelow (n := w.heap.size) B4.size fun q h => by rcases h with h | h <;> omega)
  obtain ⟨pa', pc', qa', qc', rfl, rfl, hi2, rfl⟩ := (hO.tm (F := fun _ => True) fun _ _ => trivial).shape
  cases hi2
  have hlt1 := v1.lt
  have hlt2 := Keep.lt hE
  have HO := Lib.hid (hO.tm (F := fun q => w.heap.size + 1 + 1 < q) fun q h => by omega)
  clear hO hRR z1 z2 hOff B4
  obtain ⟨u1, hu1⟩ : ∃ x, T.binds.length = x := ⟨_, rfl⟩
  obtain ⟨u2, hu2⟩ : ∃ x, T.args.length = x := ⟨_, rfl⟩
  obtain ⟨u3, hu3⟩ : ∃ x, T.kind = x := ⟨_, rfl⟩
  obtain ⟨u4, hu4⟩ : ∃ x, T.index = x := ⟨_, rfl⟩
  rw [hu1, hu2, hu3, hu4] at HO ⊢
  clear hu1 hu2 hu3 hu4 y1 y2
  have r0 : w5.cell? ⟨w.heap.size + 1, 0, none⟩ = some (.slice none 0 0) := v1.cell rfl
  have r1 : w5.cell? ⟨w.heap.size + 1, 1, none⟩ = some (.int .i64 0) := v1.cell rfl
  have r2 : w5.cell? ⟨w.heap.size + 1, 2, none⟩ = some (.int .i64 0) := v1.cell rfl
  have r3 : w5.cell? ⟨w.heap.size + 1, 3, none⟩ = some (.slice none 0 0) := v1.cell rfl
  have f0 := v1.free 0
  have f1 := v1.free 1
  have f2 := v1.free 2
  have f3 := v1.free 3
  by_cases he : E = 0
  · subst he
    go_wp2_with fail
    refine bodyPost_ret (v := .tuple #[.agg #[.slice pa' u1 pc', .int .i64 u3, .int .i64 u4, .slice qa' u2 qc'], .int .i64 0]) (by simp [results, Try.results8, go_sem, r0, r1, r2, r3, hlt1]) rfl ?_
    refine ⟨_, _, _, _, rfl, ?_, ((((B5.setCell (by simp <;> omega) _).setCell (by simp <;> omega) _).setCell (by simp <;> omega) _).setCell (by simp <;> omega) _).alloc (by have := B5.size; simp; omega) _⟩
    exact (((((HO.out.keep ((Keep.refl _ _).setCell ⟨w.heap.size + 1, 0, none⟩ _ (by simp <;> omega))).keep ((Keep.refl _ _).setCell ⟨w.heap.size + 1, 1, none⟩ _ (by simp <;> omega))).keep ((Keep.refl _ _).setCell ⟨w.heap.size + 1, 2, none⟩ _ (by simp <;> omega))).keep ((Keep.refl _ _).setCell ⟨w.heap.size + 1, 3, none⟩ _ (by simp <;> omega))).keep ((Keep.refl _ _).alloc _)).weaken fun q _ h => by omega
  · have hb : (E != 0) = true := by simpa using he
    have HE0 : Hid (¬ E = 0) := he
    go_wp2_with fail
    obtain ⟨w8, hw8⟩ : ∃ w8, w5.alloc (.cells #[.slice pa' u1 pc', .int .i64 u3, .int .i64 u4, .slice qa' u2 qc'] 34) = w8 := ⟨_, rfl⟩
    have B8' : Below w.heap.size w w8 := by rw [← hw8]; exact B5.alloc B5.size _
    have zr := (v1.alloc (.cells #[.slice pa' u1 pc', .int .i64 u3, .int .i64 u4, .slice qa' u2 qc'] 34)).drew
    have ce0 : (w5.alloc (.cells #[.slice pa' u1 pc', .int .i64 u3, .int .i64 u4, .slice qa' u2 qc'] 34)).cell? ⟨w.heap.size + 1 + 1, 0, none⟩ = some (.int .i64 E) := (((Below.refl _ _).alloc (Nat.le_refl _) _).cell (p := ⟨w.heap.size + 1 + 1, 0, none⟩) hlt2).trans hE
    rw [hw8] at zr ce0
    rw [hw8]
    clear hw8 v1 hE r0 r1 r2 r3 f0 f1 f2 f3
    have B8 := B8'.drew
    clear B8'
    refine wp_region_noPanic (wp_region_need (S := fun w' => True) (by kernel_rfl) ?_)
    obtain ⟨w9, hw9⟩ : ∃ w9, w8.drew = w9 := ⟨_, rfl⟩
    have ce : w8.drew.cell? ⟨w.heap.size + 1 + 1, 0, none⟩ = some (.int .i64 E) := ce0
    rw [hw9] at B8 zr ce ⊢
    clear hw9 ce0
    have r0 : w9.cell? ⟨w.heap.size + 1, 0, none⟩ = some (.slice none 0 0) := zr.cell rfl
    have r1 : w9.cell? ⟨w.heap.size + 1, 1, none⟩ = some (.int .i64 0) := zr.cell rfl
    have r2 : w9.cell? ⟨w.heap.size + 1, 2, none⟩ = some (.int .i64 0) := zr.cell rfl
    have r3 : w9.cell? ⟨w.heap.size + 1, 3, none⟩ = some (.slice none 0 0) := zr.cell rfl
    have f0 := zr.free 0
    have f1 := zr.free 1
    have f2 := zr.free 2
    have f3 := zr.free 3
    have z := ((((zr.set 0 (.slice none 0 0)).set 1 (.int .i64 0)).set 2 (.int .i64 0)).set 3 (.slice none 0 0))
    have z0 := z.cell (i := 0) (v := .slice none 0 0) rfl
    have z1 := z.cell (i := 1) (v := .int .i64 0) rfl
    have z2 := z.cell (i := 2) (v := .int .i64 0) rfl
    have z3 := z.cell (i := 3) (v := .slice none 0 0) rfl
    have hne : ∀ o, (⟨w.heap.size + 1, o, none⟩ : Addr) ≠ ⟨w.heap.size + 1 + 1, 0, none⟩ := fun o e => by injection e with e; omega
    have hS : True := trivial
    refine wpN_take (i := 0) (v := ?v1) rfl (by kernel_rfl) (fun _ _ _ h => h) hS (Or.inl ⟨by rfl, ?hy1⟩) ?hr1
    case hy1 => (intro wS hSw; (try dsimp only at hSw); go_simp; (try with_reducible rfl))
    try simp only [Act.put, List.setIfInBounds_toArray, List.set_cons_zero, List.set_cons_succ, List.getElem_toArray, List.getElem_cons_zero, List.getElem_cons_succ]
    refine wpN_pick [1, 2] (by kernel_rfl) (by simp) (pick_two ?_ ?_)
    · refine wpOp_step (i := 1) rfl (fun K hK => ?_)
      have hK := Lib.hid hK
      try simp only [Act.put, List.setIfInBounds_toArray, List.set_cons_zero, List.set_cons_succ, List.getElem_toArray, List.getElem_cons_zero, List.getElem_cons_succ]
      go_simp
      refine hK.out _ _ ⟨fun _ => trivial, ?_⟩
      try simp only [Act.put, List.setIfInBounds_toArray, List.set_cons_zero, List.set_cons_succ, List.getElem_toArray, List.getElem_cons_zero, List.getElem_cons_succ]
      · skip
        refine wpN_step (i := 2) (by kernel_rfl) rfl (fun K hK => ?_)
        go_simp
        refine hK.out _ _ (fun h => absurd h (by decide)) ?_
        clear hK K
        try simp only [Act.put, List.setIfInBounds_toArray, List.set_cons_zero, List.set_cons_succ, List.getElem_toArray, List.getElem_cons_zero, List.getElem_cons_succ]
        refine wpN_step (i := 3) (by kernel_rfl) rfl (fun K hK => ?_)
        go_simp
        refine hK.out _ _ (fun h => absurd h (by decide)) ?_
        clear hK K
        try simp only [Act.put, List.setIfInBounds_toArray, List.set_cons_zero, List.set_cons_succ, List.getElem_toArray, List.getElem_cons_zero, List.getElem_cons_succ]
        refine wpN_done (by kernel_rfl) ?_
        refine NoPanic.normal ?_
        go_wp2_with fail
        refine bodyPost_ret (v := .tuple #[.agg #[.slice none 0 0, .int .i64 0, .int .i64 0, .slice none 0 0], .int .i64 E]) (by simp [results, Try.results8, go_sem, z0, z1, z2, z3]) rfl ?_
        try rw [if_neg HE0.out]
        exact ⟨_, _, _, _, rfl, isTm_zero _ _, (((B8.setCell (by simp <;> omega) _).setCell (by simp <;> omega) _).setCell (by simp <;> omega) _).setCell (by simp <;> omega) _⟩
    · refine wpOp_step (i := 2) rfl (fun K hK => ?_)
      have hK := Lib.hid hK
      try simp only [Act.put, List.setIfInBounds_toArray, List.set_cons_zero, List.set_cons_succ, List.getElem_toArray, List.getElem_cons_zero, List.getElem_cons_succ]
      go_simp
      refine hK.out _ _ ⟨fun _ => trivial, ?_⟩
      try simp only [Act.put, List.setIfInBounds_toArray, List.set_cons_zero, List.set_cons_succ, List.getElem_toArray, List.getElem_cons_zero, List.getElem_cons_succ]
      · skip
        refine wpN_step (i := 1) (by kernel_rfl) rfl (fun K hK => ?_)
        go_simp
        refine hK.out _ _ (fun _ => trivial) ?_
        clear hK K
        try simp only [Act.put, List.setIfInBounds_toArray, List.set_cons_zero, List.set_cons_succ, List.getElem_toArray, List.getElem_cons_zero, List.getElem_cons_succ]
        refine wpN_step (i := 3) (by kernel_rfl) rfl (fun K hK => ?_)
        go_simp
        refine hK.out _ _ (fun h => absurd h (by decide)) ?_
        clear hK K
        try simp only [Act.put, List.setIfInBounds_toArray, List.set_cons_zero, List.set_cons_succ, List.getElem_toArray, List.getElem_cons_zero, List.getElem_cons_succ]
        refine wpN_done (by kernel_rfl) ?_
        refine NoPanic.normal ?_
        go_wp2_with fail
        refine bodyPost_ret (v := .tuple #[.agg #[.slice none 0 0, .int .i64 0, .int .i64 0, .slice none 0 0], .int .i64 E]) (by simp [results, Try.results8, go_sem, z0, z1, z2, z3]) rfl ?_
        try rw [if_neg HE0.out]
        exact ⟨_, _, _, _, rfl, isTm_zero _ _, (((B8.setCell (by simp <;> omega) _).setCell (by simp <;> omega) _).setCell (by simp <;> omega) _).setCell (by simp <;> omega) _⟩
end Go.Proofs.Ytcblpjheoclkeaa

namespace Go.Proofs.Ytcblpjheoclkeaa
open Go.RowKit
def TTM_3 : TI := ⟨1, false, [Value.int IntKind.i64 0], [], none, 8, 2, none, false⟩
theorem TTM_3_ok : TypOk Try.prog 3 TTM_3 := ⟨by kernel_rfl, by kernel_rfl, by kernel_rfl, by kernel_rfl, by kernel_rfl⟩
def TTM_34 : TI := ⟨4, true, [Value.slice none 0 0, Value.int IntKind.i64 0, Value.int IntKind.i64 0, Value.slice none 0 0], [(0, 1, false), (1, 2, true), (3, 1, false)], none, 64, 6, none, false⟩
theorem TTM_34_ok : TypOk Try.prog 34 TTM_34 := ⟨by kernel_rfl, by kernel_rfl, by kernel_rfl, by kernel_rfl, by kernel_rfl⟩
def TTM_27 : TI := ⟨4, true, [Value.slice none 0 0, Value.int IntKind.i64 0, Value.int IntKind.i64 0, Value.slice none 0 0], [(0, 1, false), (1, 2, true), (3, 1, false)], none, 64, 6, none, false⟩
theorem TTM_27_ok : TypOk Try.prog 27 TTM_27 := ⟨by kernel_rfl, by kernel_rfl, by kernel_rfl, by kernel_rfl, by kernel_rfl⟩
def TTM_31 : TI := ⟨2, true, [Value.int IntKind.i64 0, Value.int IntKind.i64 0], [(0, 1, false), (1, 1, false)], none, 16, 6, none, true⟩
theorem TTM_31_ok : TypOk Try.prog 31 TTM_31 := ⟨by kernel_rfl, by kernel_rfl, by kernel_rfl, by kernel_rfl, by kernel_rfl⟩
def TTM_24 : TI := ⟨2, true, [Value.int IntKind.i64 0, Value.int IntKind.i64 0], [(0, 1, false), (1, 1, false)], none, 16, 6, none, true⟩
theorem TTM_24_ok : TypOk Try.prog 24 TTM_24 := ⟨by kernel_rfl, by kernel_rfl, by kernel_rfl, by kernel_rfl, by kernel_rfl⟩
def TTM_32 : TI := ⟨1, false, [Value.slice none 0 0], [], some 34, 24, 5, none, false⟩
theorem TTM_32_ok : TypOk Try.prog 32 TTM_32 := ⟨by kernel_rfl, by kernel_rfl, by kernel_rfl, by kernel_rfl, by kernel_rfl⟩
def TTM_30 : TI := ⟨1, false, [Value.slice none 0 0], [], some 83, 24, 5, none, false⟩
theorem TTM_30_ok : TypOk Try.prog 30 TTM_30 := ⟨by kernel_rfl, by kernel_rfl, by kernel_rfl, by kernel_rfl, by kernel_rfl⟩
def TTM_25 : TI := ⟨1, false, [Value.slice none 0 0], [], some 27, 24, 5, none, false⟩
theorem TTM_25_ok : TypOk Try.prog 25 TTM_25 := ⟨by kernel_rfl, by kernel_rfl, by kernel_rfl, by kernel_rfl, by kernel_rfl⟩
def TTM_22 : TI := ⟨1, false, [Value.slice none 0 0], [], some 123, 24, 5, none, false⟩
theorem TTM_22_ok : TypOk Try.prog 22 TTM_22 := ⟨by kernel_rfl, by kernel_rfl, by kernel_rfl, by kernel_rfl, by kernel_rfl⟩
def TTM_83 : TI := ⟨2, true, [Value.slice none 0 0, Value.int IntKind.i64 0], [(0, 1, false), (1, 1, false)], none, 32, 6, none, false⟩
theorem TTM_83_ok : TypOk Try.prog 83 TTM_83 := ⟨by kernel_rfl, by kernel_rfl, by kernel_rfl, by kernel_rfl, by kernel_rfl⟩
def TTM_123 : TI := ⟨2, true, [Value.slice none 0 0, Value.int IntKind.i64 0], [(0, 1, false), (1, 1, false)], none, 32, 6, none, false⟩
theorem TTM_123_ok : TypOk Try.prog 123 TTM_123 := ⟨by kernel_rfl, by kernel_rfl, by kernel_rfl, by kernel_rfl, by kernel_rfl⟩
def TTM_161 : TI := ⟨1, false, [Value.nilFunc], [], none, 8, 8, none, false⟩
theorem TTM_161_ok : TypOk Try.prog 161 TTM_161 := ⟨by kernel_rfl, by kernel_rfl, by kernel_rfl, by kernel_rfl, by kernel_rfl⟩
def TTM_59 : TI := ⟨1, false, [Value.nilFunc], [], none, 8, 8, none, false⟩
theorem TTM_59_ok : TypOk Try.prog 59 TTM_59 := ⟨by kernel_rfl, by kernel_rfl, by kernel_rfl, by kernel_rfl, by kernel_rfl⟩
def TTM : List (Nat × TI) := [(3, TTM_3), (34, TTM_34), (27, TTM_27), (31, TTM_31), (24, TTM_24), (32, TTM_32), (30, TTM_30), (25, TTM_25), (22, TTM_22), (83, TTM_83), (123, TTM_123), (161, TTM_161), (59, TTM_59)]
theorem TTM_ok : TabOk Try.prog TTM := ((((((((((((((TabOk.nil _).cons TTM_59_ok).cons TTM_161_ok).cons TTM_123_ok).cons TTM_83_ok).cons TTM_22_ok).cons TTM_25_ok).cons TTM_30_ok).cons TTM_32_ok).cons TTM_24_ok).cons TTM_31_ok).cons TTM_27_ok).cons TTM_34_ok).cons TTM_3_ok)

theorem bindsT (b : List Ty) (k i : Int) (a : List Tm) : (Tm.mk b k i a).binds = b := rfl
theorem kindT (b : List Ty) (k i : Int) (a : List Tm) : (Tm.mk b k i a).kind = k := rfl
theorem indexT (b : List Ty) (k i : Int) (a : List Tm) : (Tm.mk b k i a).index = i := rfl
theorem argsTm (b : List Ty) (k i : Int) (a : List Tm) : (Tm.mk b k i a).args = a := rfl
theorem tm_ext {t u : Tm} : t = u ↔ (t.kind = u.kind ∧ t.index = u.index) ∧ t.binds = u.binds ∧ t.args = u.args := by
  obtain ⟨b, k, i, a⟩ := t
  obtain ⟨b', k', i', a'⟩ := u
  simp only [bindsT, kindT, indexT, argsTm, Tm.mk.injEq]
  exact ⟨fun ⟨h1, h2, h3, h4⟩ => ⟨⟨h2, h3⟩, h1, h4⟩, fun ⟨⟨h1, h2⟩, h3, h4⟩ => ⟨h3, h1, h2, h4⟩⟩
theorem same2_d : ∀ t u : Tm, PureC Try.prog 11 [.ag (eTm t), .ag (eTm u)] (.v (.bool (decide (t = u)))) := by
 intro t
 induction t using Tm.ind with
 | h b k i a ih =>
 intro u
 refine CallC.lens fun hlen => ?_
 have hl : a.length ≤ 9223372036854775807 := by
  have := hlen _ (List.mem_cons_self ..)
  rw [eTm_eq] at this
  have := this (.sl 4 (eTms a) none) (by simp [argsTm])
  simp only [sl1, eTms_len] at this; exact this
 have hb := rtypesEq_d b u.binds
 rw [eTm_eq, eTm_eq]
 simp only [bindsT, kindT, indexT, argsTm]
 by_cases h1 : k = u.kind ∧ i = u.index
 ·by_cases hlr : a.length = u.args.length
  ·by_cases h2 : b = u.binds
   ·rw [show decide (Tm.mk b k i a = u) = decide (a = u.args) by rw [Bool.eq_iff_iff, decide_eq_true_iff, decide_eq_true_iff, tm_ext]; simp [bindsT, kindT, indexT, argsTm, h1, h2]]
    rw [decide_eq_true h2] at hb
    refine calldw 0 47 [ResultVar.tmp 4] TTM_ok Try.func11 rfl Try.ntmps11 rfl fun cx hnt hn0 => ?_
    ·skip
     refine dw_seq ?_; refine dwk [] TTM_ok hnt fun K hK => ?_; refine hK _ _ ?_; clear hK K; refine dw_seq ?_; refine dw_seq ?_; refine dwk [(10, .v (.bool false)), (14, .v (.int .i64 (↑a.length))), (17, .v (.int .i64 (↑u.args.length))), (18, .v (.bool false))] TTM_ok hnt fun K hK => ?_; refine And.intro (VLe.of_eq (by congr 2; simp [h1])) ?_; refine And.intro (dintE (by rw [eTms_len])) ?_; refine And.intro (dintE (by rw [eTms_len])) ?_
     refine And.intro (bneF (by omega)) ?_; refine dcl (hb) ?_; refine hK _ _ ?_; clear hK K; refine dw_cond (t := false) rfl ?_; rw [if_neg (by simp)]; refine dw_skip ?_; refine dw_seq ?_; refine dw_seq ?_; refine dwk [] TTM_ok hnt fun K hK => ?_; refine hK _ _ ?_; clear hK K; refine dw_block ?_
     refine dw_loop (ι := { j : Nat // a.take j = u.args.take j }) (fun j => [(.t 2, .p 0 0), (.t 3, .p 1 0), (.t 5, .v (.int .i64 ↑j.1)), (.c 0 3, .sl 4 (eTms a) none), (.c 1 3, .sl 4 (eTms u.args) none)]) 2 (fun j => a.length - j.1) (⟨0, rfl⟩) (VS.toA) fun j => ?_
     obtain ⟨j, hj⟩ := j
     dsimp only
     by_cases hlt : j < a.length
     ·have hlt2 : j < u.args.length := by omega
      have hq := ih a[j] (List.getElem_mem hlt) u.args[j]
      rw [eTm_eq, eTm_eq] at hq
      by_cases he : a[j] = u.args[j]
      ·rw [decide_eq_true he] at hq
       refine dw_seq ?_; refine dw_seq ?_; refine dwk [(31, .v (.int .i64 (↑a.length))), (32, .v (.bool true))] TTM_ok hnt fun K hK => ?_; refine And.intro (dintE (by rw [eTms_len])) ?_; refine And.intro auT ?_; refine hK _ _ ?_; clear hK K; refine dw_cond (t := true) rfl ?_; rw [if_pos rfl]; refine dw_skip ?_; refine dw_seq ?_; refine dw_block ?_; refine dw_seq ?_; refine dwkD [(38, .q [.sl 2 (eTys a[j].binds) none, .v (.int .i64 a[j].kind), .v (.int .i64 a[j].index), .sl 4 (eTms a[j].args) none]), (43, .q [.sl 2 (eTys u.args[j].binds) none, .v (.int .i64 u.args[j].kind), .v (.int .i64 u.args[j].index), .sl 4 (eTms u.args[j].args) none])] TTM_ok hnt fun K hK => ?_
       refine And.intro (elo (eTms_len a)) ?_; refine And.intro (elv (eTms_getD a j) (eTm_eq _)) ?_; refine And.intro (elo (eTms_len u.args)) ?_; refine And.intro (elv (eTms_getD u.args j) (eTm_eq _)) ?_; refine dcl (hq) ?_; refine hK _ _ (by kernel_rfl) ?_; clear hK K; refine dw_cond (t := false) rfl ?_; rw [if_neg (by simp)]; refine dw_skip ?_; refine dwk [(34, .v (.int .i64 (↑(j + 1))))] TTM_ok hnt fun K hK => ?_
       refine And.intro auI ?_; refine hK _ _ ?_; clear hK K
       refine ⟨⟨j + 1, take_succ_eq hj hlt hlt2 he⟩, by first | omega | (dsimp only; omega), VS.toA⟩
      ·rw [decide_eq_false he] at hq
       rw [decide_eq_false (ne_at hlt hlt2 he)]
       refine dw_seq ?_; refine dw_seq ?_; refine dwk [(31, .v (.int .i64 (↑a.length))), (32, .v (.bool true))] TTM_ok hnt fun K hK => ?_; refine And.intro (dintE (by rw [eTms_len])) ?_; refine And.intro auT ?_; refine hK _ _ ?_; clear hK K; refine dw_cond (t := true) rfl ?_; rw [if_pos rfl]; refine dw_skip ?_; refine dw_seq ?_; refine dw_block ?_; refine dw_seq ?_; refine dwkD [(38, .q [.sl 2 (eTys a[j].binds) none, .v (.int .i64 a[j].kind), .v (.int .i64 a[j].index), .sl 4 (eTms a[j].args) none]), (43, .q [.sl 2 (eTys u.args[j].binds) none, .v (.int .i64 u.args[j].kind), .v (.int .i64 u.args[j].index), .sl 4 (eTms u.args[j].args) none])] TTM_ok hnt fun K hK => ?_
       refine And.intro (elo (eTms_len a)) ?_; refine And.intro (elv (eTms_getD a j) (eTm_eq _)) ?_; refine And.intro (elo (eTms_len u.args)) ?_; refine And.intro (elv (eTms_getD u.args j) (eTm_eq _)) ?_; refine dcl (hq) ?_; refine hK _ _ (by kernel_rfl) ?_; clear hK K; refine dw_cond (t := true) rfl ?_; rw [if_pos rfl]; refine dw_seq ?_; refine dwk [] TTM_ok hnt fun K hK => ?_; refine hK _ _ ?_; clear hK K
       refine dw_ret ?_
       exact reta rfl
     ·rw [decide_eq_true (eq_of_take hj (by omega) (by omega))]
      refine dw_seq ?_; refine dw_seq ?_; refine dwk [(31, .v (.int .i64 (↑a.length))), (32, .v (.bool false))] TTM_ok hnt fun K hK => ?_; refine And.intro (dintE (by rw [eTms_len])) ?_; refine And.intro auF ?_; refine hK _ _ ?_; clear hK K; refine dw_cond (t := false) rfl ?_; rw [if_neg (by simp)]; refine dw_exit ?_; refine dw_seq ?_; refine dwk [] TTM_ok hnt fun K hK => ?_; refine hK _ _ ?_; clear hK K
      refine dw_ret ?_
      exact reta rfl
   ·rw [show decide (Tm.mk b k i a = u) = false from decide_eq_false fun e => h2 (by rw [← e]; rfl)]
    rw [decide_eq_false h2] at hb
    refine calldw 0 47 [ResultVar.tmp 4] TTM_ok Try.func11 rfl Try.ntmps11 rfl fun cx hnt hn0 => ?_
    ·skip
     refine dw_seq ?_; refine dwk [] TTM_ok hnt fun K hK => ?_; refine hK _ _ ?_; clear hK K; refine dw_seq ?_; refine dw_seq ?_; refine dwk [(10, .v (.bool false)), (14, .v (.int .i64 (↑a.length))), (17, .v (.int .i64 (↑u.args.length))), (18, .v (.bool false))] TTM_ok hnt fun K hK => ?_; refine And.intro (VLe.of_eq (by congr 2; simp [h1])) ?_; refine And.intro (dintE (by rw [eTms_len])) ?_; refine And.intro (dintE (by rw [eTms_len])) ?_
     refine And.intro (bneF (by omega)) ?_; refine dcl (hb) ?_; refine hK _ _ ?_; clear hK K; refine dw_cond (t := true) rfl ?_; rw [if_pos rfl]; refine dw_seq ?_; refine dwk [] TTM_ok hnt fun K hK => ?_; refine hK _ _ ?_; clear hK K; refine dw_ret ?_
     exact reta rfl
  ·rw [show decide (Tm.mk b k i a = u) = false from decide_eq_false fun e => hlr (by rw [← e]; rfl)]
   refine calldw 0 47 [ResultVar.tmp 4] TTM_ok Try.func11 rfl Try.ntmps11 rfl fun cx hnt hn0 => ?_
   ·skip
    refine dw_seq ?_; refine dwk [] TTM_ok hnt fun K hK => ?_; refine hK _ _ ?_; clear hK K; refine dw_seq ?_; refine dw_seq ?_; refine dwk [(10, .v (.bool false)), (14, .v (.int .i64 (↑a.length))), (17, .v (.int .i64 (↑u.args.length))), (18, .v (.bool true))] TTM_ok hnt fun K hK => ?_; refine And.intro (VLe.of_eq (by congr 2; simp [h1])) ?_; refine And.intro (dintE (by rw [eTms_len])) ?_; refine And.intro (dintE (by rw [eTms_len])) ?_
    refine And.intro (bneT (by omega)) ?_; refine hK _ _ ?_; clear hK K; refine dw_cond (t := true) rfl ?_; rw [if_pos rfl]; refine dw_seq ?_; refine dwk [] TTM_ok hnt fun K hK => ?_; refine hK _ _ ?_; clear hK K; refine dw_ret ?_
    exact reta rfl
 ·rw [show decide (Tm.mk b k i a = u) = false from decide_eq_false fun e => h1 (by rw [← e]; exact ⟨rfl, rfl⟩)]
  refine calldw 0 47 [ResultVar.tmp 4] TTM_ok Try.func11 rfl Try.ntmps11 rfl fun cx hnt hn0 => ?_
  ·skip
   refine dw_seq ?_; refine dwk [] TTM_ok hnt fun K hK => ?_; refine hK _ _ ?_; clear hK K; refine dw_seq ?_; refine dw_seq ?_; refine dwk [(10, .v (.bool true))] TTM_ok hnt fun K hK => ?_; refine And.intro (VLe.of_eq (by congr 2; by_cases h3 : k = u.kind <;> by_cases h4 : i = u.index <;> simp_all)) ?_; refine hK _ _ ?_; clear hK K; refine dw_cond (t := true) rfl ?_; rw [if_pos rfl]; refine dw_seq ?_
   refine dwk [] TTM_ok hnt fun K hK => ?_; refine hK _ _ ?_; clear hK K; refine dw_ret ?_
   exact reta rfl
/-! long forms -/
theorem eTms_snoc (l : List Tm) (j : Nat) (h : j < l.length) : eTms (l.take j) ++ [[.sl 2 (eTys l[j].binds) none, .v (.int .i64 l[j].kind), .v (.int .i64 l[j].index), .sl 4 (eTms l[j].args) none]] = eTms (l.take (j + 1)) := by
  rw [← eTm_eq, List.take_add_one, List.getElem?_eq_getElem h, Option.toList_some, eTms_map, eTms_map, List.map_append]; rfl
end Go.Proofs.Ytcblpjheoclkeaa

namespace Go.Proofs.Ytcblpjheoclkeaa
open Go.RowKit Go.Shelf
attribute [local go_sem] Oper.semAt_some

def looseL (n x : Int) : Int := if (if x > 1000 then 1000 else x) + 1 > n then (if x > 1000 then 1000 else x) + 1 else n

end Go.Proofs.Ytcblpjheoclkeaa

namespace Go.Proofs.Ytcblpjheoclkeaa
open Go.RowKit
/-! ints -/
def eIs (l : List Int) : List (List D) := l.map fun i => [.v (.int .i64 i)]
theorem eIs_len (l : List Int) : (eIs l).length = l.length := List.length_map ..
theorem eIs_append (l r : List Int) : eIs (l ++ r) = eIs l ++ eIs r := List.map_append ..
theorem eIs_getD (l : List Int) (i : Nat) (h : i < l.length) : (eIs l).getD i [] = [.v (.int .i64 l[i])] := by
  rw [eIs, List.getD_eq_getElem?_getD, List.getElem?_map, List.getElem?_eq_getElem h]; rfl
@[simp] theorem eIs_ok (f g : Nat → Bool) (l : List Int) : D.okss f g (eIs l) = true := D.okss_map _ l fun _ _ => rfl
end Go.Proofs.Ytcblpjheoclkeaa

namespace Go.Proofs.Ytcblpjheoclkeaa
open Go.RowKit

def eMp (l : List (Int × Value)) : List (Int × D) := l.map fun p => (p.1, .v p.2)
end Go.Proofs.Ytcblpjheoclkeaa

namespace Go.Proofs.Ytcblpjheoclkeaa
open Go.RowKit

theorem full_mem {l : List Tm} {t : Tm} (h : t ∈ l) : t.full ≤ Tm.fulls l := by
  induction l with
  | nil => cases h
  | cons u l ih =>
    simp only [Tm.fulls]
    rcases List.mem_cons.1 h with rfl | h
    · omega
    · have := ih h; omega
theorem fulls_len (l : List Tm) : l.length ≤ Tm.fulls l := by
  induction l with
  | nil => simp
  | cons u l ih => have : 1 ≤ u.full := by obtain ⟨b, k, i, a⟩ := u; rw [Tm.full_eq]; omega
                   simp only [Tm.fulls, List.length_cons]; omega
namespace Pn
end Pn
def eMet (l : List Int) : List (Int × D) := l.map fun i => (i, .v (.bool true))
theorem okm_map {f g : Nat → Bool} {α : Type} (e : α → Int × D) (l : List α) (h : ∀ x ∈ l, (e x).2.ok f g = true) : D.okm f g (l.map e) = true := by
  induction l with
  | nil => rfl
  | cons x l ih =>
    have h1 := h x (by simp)
    have h2 := ih fun y hy => h y (by simp [hy])
    simp only [List.map_cons]
    generalize e x = p at h1 ⊢
    obtain ⟨i, d⟩ := p
    simp only [D.okm, Bool.and_eq_true]; exact ⟨h1, h2⟩
@[simp] theorem eMet_ok (f g : Nat → Bool) (l : List Int) : D.okm f g (eMet l) = true := okm_map _ l fun _ _ => rfl
end Go.Proofs.Ytcblpjheoclkeaa

namespace Go.Proofs.Ytcblpjheoclkeaa
open Go.RowKit
/-! slices.Concat of terms -/
def eTmss (ls : List (List Tm)) : List (List D) := ls.map fun l => [.sl 4 (eTms l) none]
@[simp] theorem eTmss_ok (f g : Nat → Bool) (l : List (List Tm)) : D.okss f g (eTmss l) = true := D.okss_map _ l fun l _ => by simp [D.oks, D.ok, eTms_ok]
/-! variables -/
namespace Li
def vars (B : List Ty) (n : Int) : List Tm := B.mapIdx fun i b => Ty.Eta b 0 (n + B.length - 1 - i)
mutual
def lif (B : List Ty) : Tm → Int → Tm
  | .mk b k i a, n => .mk b k i ((if k = 2 then vars B (n + b.length) else []) ++ lifs B a (n + b.length))
def lifs (B : List Ty) : List Tm → Int → List Tm
  | [], _ => []
  | t :: l, n => lif B t n :: lifs B l n
end
end Li
end Go.Proofs.Ytcblpjheoclkeaa

namespace Go.Proofs.Ytcblpjheoclkeaa
open Go.RowKit

end Go.Proofs.Ytcblpjheoclkeaa

namespace Go.Proofs.Ytcblpjheoclkeaa
open Go.RowKit

section
variable {P : Program} {T : List (Nat × TI)} {cx : Cx} {Fr Fr' : Nat → Prop} {m m' : Mp} {Im Im' : Nat → Nat → Prop} {w w' : World} {a : Act} {σ σ' τ : List (Key × D)} {N N' : Nat} {Q : Exit → List (Key × D) → Nat → Prop}
theorem VS.thaw {g E n : Nat} (h : get σ (.r g) = some (.rw E n 0)) : VS cx σ N (put1 (.r g) (.rp E n []) σ) N := fun m Im w a hs => by
  obtain ⟨R, hR, hro⟩ := hs.ro g _ h
  have e := hro.rwi
  injection e with e1 e2 e3
  obtain ⟨xs, hx⟩ := hs.mem.row g R hR
  have hxs : xs = [] := by
    have := hx.1
    rw [← e3, Nat.zero_mul] at this
    exact List.length_eq_zero_iff.1 this
  subst hxs
  refine ⟨m, hs.putro hR ?_⟩
  rw [e1, e2]
  refine .rp (R := R) [] [] (by rw [← e3]; rfl) (fun i h => absurd h (by simp)) hx (fun u h => absurd h (by simp)) (fun i h => absurd h (by simp)) fun b o hb hi => ?_
  have := hs.mem.rIm g R b o hR hb hi
  rw [← e3, Nat.zero_mul] at this
  omega
end
end Go.Proofs.Ytcblpjheoclkeaa

namespace Go.Proofs.Ytcblpjheoclkeaa
open Go.RowKit
namespace So
variable {α : Type} {l l' r r' : List (Int × α)}
def ins (x : Int × α) : List (Int × α) → List (Int × α)
  | [] => [x]
  | y :: l => if y.1 ≤ x.1 then y :: ins x l else x :: y :: l
def ssr : List (Int × α) → List (Int × α)
  | [] => []
  | x :: l => ins x (ssr l)
def ss (l : List (Int × α)) : List (Int × α) := ssr l.reverse
end So
end Go.Proofs.Ytcblpjheoclkeaa

namespace Go.Proofs.Ytcblpjheoclkeaa
open Go.RowKit
end Go.Proofs.Ytcblpjheoclkeaa

namespace Go.Proofs.Ytcblpjheoclkeaa
open Go.RowKit

namespace So
end So
end Go.Proofs.Ytcblpjheoclkeaa

namespace Go.Proofs.Ytcblpjheoclkeaa
open Go.RowKit

end Go.Proofs.Ytcblpjheoclkeaa

namespace Go.Proofs.Ytcblpjheoclkeaa
open Go.RowKit
namespace So
end So
end Go.Proofs.Ytcblpjheoclkeaa

namespace Go.Proofs.Ytcblpjheoclkeaa
open Go.RowKit

namespace Pn
def atL : List Int → Nat → List (Int × Value)
  | [], _ => []
  | v :: l, k => (v, .int .i64 k) :: atL l (k + 1)
end Pn
@[simp] theorem atL_ok (f g : Nat → Bool) (l : List Int) (k : Nat) : D.okm f g (eMp (Pn.atL l k)) = true := okm_map _ _ fun _ _ => rfl
end Go.Proofs.Ytcblpjheoclkeaa

namespace Go.Proofs.Ytcblpjheoclkeaa
open Go.RowKit
mutual
def lowB : Tm → Bool
  | .mk _ k i a => !(decide (k = 0) && decide (900000 < i)) && lowsB a
def lowsB : List Tm → Bool
  | [] => true
  | t :: l => lowB t && lowsB l
end
end Go.Proofs.Ytcblpjheoclkeaa

namespace Go.Proofs.Ytcblpjheoclkeaa
open Go.RowKit
namespace Pn
end Pn
end Go.Proofs.Ytcblpjheoclkeaa

namespace Go.Proofs.Ytcblpjheoclkeaa
open Go.RowKit

namespace Pn
end Pn
end Go.Proofs.Ytcblpjheoclkeaa

namespace Go.Proofs.Ytcblpjheoclkeaa
open Go.RowKit
def eUse (u : Pn.Use) : List D := [.v (.int .i64 u.mt), .sl 1 (eIs u.vars) none, .sl 2 (eTys u.binds) none, .sl 1 (eIs u.path) none]
def eUses (l : List Pn.Use) : List (List D) := l.map eUse
@[simp] theorem eUses_ok (f g : Nat → Bool) (l : List Pn.Use) : D.okss f g (eUses l) = true := D.okss_map _ l fun u _ => by simp [eUse, D.oks, D.ok, eIs_ok, eTys_ok]
namespace Pn
end Pn
end Go.Proofs.Ytcblpjheoclkeaa

namespace Go.Proofs.Ytcblpjheoclkeaa
open Go.RowKit

theorem binds_mk' (b : List Ty) (k i : Int) (a : List Tm) : (Tm.mk b k i a).binds = b := rfl
theorem kind_mk' (b : List Ty) (k i : Int) (a : List Tm) : (Tm.mk b k i a).kind = k := rfl
theorem index_mk' (b : List Ty) (k i : Int) (a : List Tm) : (Tm.mk b k i a).index = i := rfl
theorem args_mkT (b : List Ty) (k i : Int) (a : List Tm) : (Tm.mk b k i a).args = a := rfl
namespace Pn
abbrev Spot := Tm × List Ty × List Int
mutual
def subs : Tm → List Ty → List Int → List Spot
  | .mk bs k i a, ar, p => (.mk bs k i a, ar ++ bs, p) :: subss a (ar ++ bs) p 0
def subss : List Tm → List Ty → List Int → Nat → List Spot
  | [], _, _, _ => []
  | t :: l, ar, p, j => subs t ar (p ++ [(j : Int)]) ++ subss l ar p (j + 1)
end
mutual
def rigB : Tm → Tm → Bool
  | .mk bs k i a, t => decide (bs = t.binds) && (decide (k = 2) || ((decide (k = t.kind) && decide (i = t.index)) && (decide (a.length = t.args.length) && rigBs a t.args)))
def rigBs : List Tm → List Tm → Bool
  | [], _ => true
  | p :: l, ts => rigB p (ts.headD Tm.zero) && rigBs l ts.tail
end
end Pn
end Go.Proofs.Ytcblpjheoclkeaa

namespace Go.Proofs.Ytcblpjheoclkeaa
open Go.RowKit
namespace So
variable {α : Type} {f : α → Bool} {l : List α} {j : Nat}
end So
def del (m : List Int) (p : Int × Tm) : Bool := m.any fun x => decide (x = p.1)
def kept (m : List Int) (l : List (Int × Tm)) : List (Int × Tm) := l.filter fun p => !del m p
end Go.Proofs.Ytcblpjheoclkeaa

namespace Go.Proofs.Ytcblpjheoclkeaa
open Go.RowKit
namespace Pn
mutual
def pth : Tm → List Int → List (List Int)
  | .mk _ _ _ a, p => p :: pths a p 0
def pths : List Tm → List Int → Nat → List (List Int)
  | [], _, _ => []
  | t :: l, p, j => pth t (p ++ [(j : Int)]) ++ pths l p (j + 1)
end
end Pn
def ePaths (l : List (List Int)) : List (List D) := l.map fun p => [.sl 1 (eIs p) none]
@[simp] theorem ePaths_ok (f g : Nat → Bool) (l : List (List Int)) : D.okss f g (ePaths l) = true := D.okss_map _ l fun l _ => by simp [D.oks, D.ok, eIs_ok]
end Go.Proofs.Ytcblpjheoclkeaa

namespace Go.Proofs.Ytcblpjheoclkeaa
open Go.RowKit
namespace Pn
end Pn
end Go.Proofs.Ytcblpjheoclkeaa

namespace Go.Proofs.Ytcblpjheoclkeaa
open Go.RowKit
variable {β : Type} {Ok : Obj → Prop} {B : Nat} {I I' : β → World → Prop}

end Go.Proofs.Ytcblpjheoclkeaa

namespace Go.Proofs.Ytcblpjheoclkeaa
open Go.RowKit

end Go.Proofs.Ytcblpjheoclkeaa

namespace Go.Proofs.Ytcblpjheoclkeaa
open Go.RowKit

namespace Tm
mutual
def heads : Tm → Int → List (Int × Int)
  | .mk b k i a, n => (if k ≠ 0 then [(k, i)] else if n + (b.length : Int) ≤ i then [(0, i - (n + (b.length : Int)))] else []) ++ headss a (n + (b.length : Int))
def headss : List Tm → Int → List (Int × Int)
  | [], _ => []
  | t :: l, n => heads t n ++ headss l n
end
theorem heads_eq (b : List Ty) (k i : Int) (a : List Tm) (n m : Int) (hm : n + (b.length : Int) = m) : heads (.mk b k i a) n = (if k ≠ 0 then [(k, i)] else if m ≤ i then [(0, i - m)] else []) ++ headss a m := by subst hm; rw [heads]
theorem headss_append (l l' : List Tm) (n : Int) : headss (l ++ l') n = headss l n ++ headss l' n := by
  induction l with
  | nil => simp [headss]
  | cons t l ih => simp [headss, ih]
theorem headss_take (l : List Tm) (n : Int) (j : Nat) (h : j < l.length) : headss (l.take (j + 1)) n = headss (l.take j) n ++ heads l[j] n := by
  rw [List.take_succ_eq_append_getElem h, headss_append]; simp [headss]
theorem headss_len_of {l : List Tm} (h : ∀ t ∈ l, ∀ n, (t.heads n).length ≤ t.full) : ∀ n, (headss l n).length ≤ fulls l := by
  intro n
  induction l with
  | nil => simp [headss, fulls]
  | cons t l ih =>
    have h1 := h t (by simp) n
    have h2 := ih fun u hu => h u (by simp [hu])
    simp only [headss, fulls, List.length_append]; omega
theorem heads_len (t : Tm) : ∀ n, (t.heads n).length ≤ t.full := by
  induction t using Tm.ind with
  | h b k i a ih =>
    intro n
    have h := headss_len_of ih (n + b.length)
    rw [heads_eq _ _ _ _ _ _ rfl, full_eq, List.length_append]
    have : (if k ≠ 0 then [(k, i)] else if n + (b.length : Int) ≤ i then [(0, i - (n + (b.length : Int)))] else []).length ≤ 1 := by
      split
      · simp
      · split <;> simp
    omega
theorem headss_len (l : List Tm) (n : Int) : (headss l n).length ≤ fulls l := headss_len_of (fun t _ n => heads_len t n) n
end Tm

end Go.Proofs.Ytcblpjheoclkeaa

namespace Go.Proofs.Ytcblpjheoclkeaa
open Go.RowKit

end Go.Proofs.Ytcblpjheoclkeaa

namespace Go.Proofs.Ytcblpjheoclkeaa
open Go.RowKit Go.Shelf
attribute [local go_sem] Oper.semAt_some

def hdOf (p : Nat × Nat × Tm) : Option (Int × Int) := if p.2.2.kind ≠ 0 then some (p.2.2.kind, p.2.2.index) else if (p.1 : Int) ≤ p.2.2.index then some (0, IntKind.i64.wrap (p.2.2.index - p.1)) else none
theorem heads_pres_of {l : List Tm} (h : ∀ t ∈ l, ∀ (s d : Nat), t.Fit → t.heads s = (t.pre s d).filterMap hdOf) : ∀ (s d : Nat), (∀ t ∈ l, t.Fit) → Tm.headss l s = (Tm.pres l s d).filterMap hdOf := by
  induction l with
  | nil => intro s d _; simp [Tm.pres, Tm.headss]
  | cons t l ih =>
    intro s d hf
    rw [Tm.pres, Tm.headss, List.filterMap_append, h t (by simp) s d (hf t (by simp)), ih (fun u hu => h u (by simp [hu])) s d (fun u hu => hf u (by simp [hu]))]
theorem heads_pre (t : Tm) : ∀ (s d : Nat), t.Fit → t.heads s = (t.pre s d).filterMap hdOf := by
  induction t using Tm.ind with
  | h b k i a ih =>
    intro s d hf
    obtain ⟨hi0, hi1, hfa⟩ := Tm.fit_iff.1 hf
    rw [Tm.pre_eq, Tm.heads_eq _ _ _ _ _ ((s + b.length : Nat) : Int) (by simp), List.filterMap_cons, heads_pres_of ih _ _ hfa]
    have e : hdOf (s + b.length, d, .mk b k i a) = if k ≠ 0 then some (k, i) else if ((s + b.length : Nat) : Int) ≤ i then some (0, IntKind.i64.wrap (i - ((s + b.length : Nat) : Int))) else none := rfl
    rw [e]
    by_cases hk : k = 0
    · have hk' : ¬ (k ≠ 0) := by simpa using hk
      by_cases h : ((s + b.length : Nat) : Int) ≤ i
      · have hw : IntKind.i64.wrap (i - ((s + b.length : Nat) : Int)) = i - ((s + b.length : Nat) : Int) := IntWalk.i64_in _ (by omega)
        simp only [if_neg hk', if_pos h, hw]; rfl
      · simp only [if_neg hk', if_neg h]; rfl
    · simp only [if_pos hk]; rfl

end Go.Proofs.Ytcblpjheoclkeaa

