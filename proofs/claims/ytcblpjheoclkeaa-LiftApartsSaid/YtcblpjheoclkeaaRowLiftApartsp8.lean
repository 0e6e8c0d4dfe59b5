/-
  subst.renamed, walked (printed by genownr.py). subst.renamed, walked (printed by genownr.py). subst.renamed: other numbers, in place. A region that draws its order where several operations can come up. subst.Rename: other numbers. Package lift, walked in the deep way: variables, each, term. The document's uses, and what is taken out, walked in the deep way. A loop over a function, whose round writes to what its own assignment laid. The reference's loose indexes, and terms that grow. The document's heads of a term. The document's Heads and Count. term.Count. slices.Sort and slices.Compact of ints of the call's own; what they hand back rises. A function that has run loops over functions leaves with a mark for each; rows of ints that grow within such rounds.
-/
import Derived.Test.YtcblpjheoclkeaaRowLiftApartsp7
import Derived.Test.YtcblpjheoclkeaaRowLiftApartsp1
import Derived.RegionTactic
import Derived.Test.YtcblpjheoclkeaaRowLiftApartsp5
import Derived.Test.YtcblpjheoclkeaaRowLiftApartsp4
import Derived.Deep.QuietTactic
import Derived.BigQuiet
import Derived.WalkSmall
import Derived.Lib.OwnBridge
import Derived.Sort.OwnSortedInts
import Derived.RangeFuncBox
set_option maxRecDepth 100000
set_option maxHeartbeats 1000000
set_option linter.unusedVariables false
set_option linter.unusedSimpArgs false
namespace Go.Proofs.Ytcblpjheoclkeaa
open Go.RowKit

set_option maxRecDepth 100000 in
set_option maxHeartbeats 2000000 in
theorem renamed_c1 (d : Int) (hdd : -9223372036854775808 ≤ d ∧ d ≤ 9223372036854775807) (binds : List Ty) (k i : Int) (args : List Tm) (ih : ∀ t ∈ args, t.Fit → RenOw d t) (hfit : (Tm.mk binds k i args).Fit) (Z U : Nat → Prop) (w : World) (bv kv iv av : Value) (pe : Nat) (e0 : Int) (ht : IsOw Z w U bv kv iv av (.mk binds k i args)) (hUs : ∀ q, U q → q < w.heap.size) (hZ : ∀ q, Z q → q < w.heap.size ∧ ∀ o, w.frozen? ⟨q, o, none⟩ = false) (hpe : w.cell? ⟨pe, 0, none⟩ = some (.int .i64 e0)) (hpf : w.frozen? ⟨pe, 0, none⟩ = false) (hpU : ¬ U pe)  (hk : k = 2) (c1 : Rn.sm i d < 0) (c2 : e0 = 0) :
    Calls Try.prog 42 #[.agg #[bv, kv, iv, av], .int .i64 d, .pointer (some ⟨pe, 0, none⟩)] w fun e w' => ∃ i', e = .returned (.agg #[bv, kv, .int .i64 i', av]) ∧ IsOw Z w' U bv kv (.int .i64 i') av (Rn.ren d (.mk binds k i args)) ∧ w'.cell? ⟨pe, 0, none⟩ = some (.int .i64 (Rn.errs d (.mk binds k i args) e0)) ∧ Thaw w w' ∧ Off (fun q => U q ∨ q = pe) w w' := by
  cases ht with
  | mk U Ub Us bv k i a n c binds args bl off PA A PN PC N C Kd Ix hb hn hm ha hr hd h1 h2 h3 h4 h5 =>
  obtain ⟨pa, pc, rfl⟩ := hb.shape
  have hpl : pe < w.heap.size := Keep.lt hpe
  obtain ⟨hi0, hi1, hfa⟩ := Tm.fit_iff.1 hfit
  have hnn : n ≤ 9223372036854775807 := by unfold maxLen at hm; omega
  have Hsum := Lib.hid (sum_k i d ⟨hi0, hi1⟩ hdd)
  obtain rfl := hk
  obtain ⟨m, hmm⟩ : ∃ m, Rn.sm i d = m := ⟨_, rfl⟩
  rw [hmm] at Hsum c1
  have IFN : Hid (Rn.note (Rn.sm i d) 0 = 1) := by show _ = _; rw [hmm]; unfold Rn.note Rn.code; rw [if_pos c1]; rw [if_pos ⟨by decide, .inl rfl⟩]
  have c2' := c2
  go_enter Try.func42, Try.ntmps42
  go_wp2_with fail
  obtain ⟨w3, hw3⟩ : ∃ w3, (w.alloc (.cells #[.slice pa binds.length pc, .int .i64 2, .int .i64 i, .slice a n c] 34)).alloc (.cells #[.slice none 0 0, .int .i64 0, .int .i64 0, .slice none 0 0] 34) = w3 := ⟨_, rfl⟩
  try rw [hw3]
  have B3 : Below w.heap.size w w3 := by rw [← hw3]; exact ((Below.refl _ _).alloc (Nat.le_refl _) _).alloc (by simp) _
  have x0 : Blk w3 w.heap.size #[.slice pa binds.length pc, .int .i64 2, .int .i64 i, .slice a n c] 34 := by rw [← hw3]; exact (Blk.new _ _ _ rfl).alloc _
  have x1 : Blk w3 (w.heap.size + 1) #[.slice none 0 0, .int .i64 0, .int .i64 0, .slice none 0 0] 34 := by rw [← hw3]; exact Blk.new _ _ _ (by simp)
  clear hw3
  have P3 : w3.cell? ⟨pe, 0, none⟩ = some (.int .i64 e0) := (B3.cell (p := ⟨pe, 0, none⟩) hpl).trans hpe
  have F3 : w3.frozen? ⟨pe, 0, none⟩ = false := Thaw.below B3 pe 0 hpl hpf
  have k1 : w3.cell? ⟨w.heap.size, 1, none⟩ = some (.int .i64 2) := x0.cell rfl
  have k2 : w3.cell? ⟨w.heap.size, 2, none⟩ = some (.int .i64 i) := x0.cell rfl
  have k3 : w3.cell? ⟨w.heap.size, 3, none⟩ = some (.slice a n c) := x0.cell rfl
  have O3 := Off.of_below (fun q => q = pe) B3
  have T3 := Thaw.below B3
  go_wp2_with fail
  refine (Hsum.out w3).mono ?_
  rintro e w4 ⟨rfl, rfl⟩
  have g2 := x0.free 2
  have hne : (⟨w.heap.size, 2, none⟩ : Addr) ≠ ⟨pe, 0, none⟩ := fun e => by cases e
  obtain ⟨w5, hw5⟩ : ∃ w5, w4.setCell ⟨w.heap.size, 2, none⟩ (.int .i64 m) = w5 := ⟨_, rfl⟩
  have O5 := O3.set ⟨w.heap.size, 2, none⟩ (.int .i64 m) (.inr (Nat.le_refl _))
  have T5 := T3.trans (Thaw.set w4 ⟨w.heap.size, 2, none⟩ (.int .i64 m)) B3.size
  have P5 : (w4.setCell ⟨w.heap.size, 2, none⟩ (.int .i64 m)).cell? ⟨pe, 0, none⟩ = some (.int .i64 e0) := by rw [World.cell?_setCell_other _ _ _ _ hne]; exact P3
  have F5 : (w4.setCell ⟨w.heap.size, 2, none⟩ (.int .i64 m)).frozen? ⟨pe, 0, none⟩ = false := by rw [World.frozen?_setCell]; exact F3
  have y0 := x0.set 2 (.int .i64 m)
  have y1 := x1.far ⟨w.heap.size, 2, none⟩ (.int .i64 m) (by simp)
  have c5 : (w4.setCell ⟨w.heap.size, 2, none⟩ (.int .i64 m)).cell? ⟨w.heap.size, 2, none⟩ = some (.int .i64 m) := World.cell?_setCell_same _ _ _ k2
  have c53 : (w4.setCell ⟨w.heap.size, 2, none⟩ (.int .i64 m)).cell? ⟨w.heap.size, 3, none⟩ = some (.slice a n c) := y0.cell rfl
  have S5 : w.heap.size ≤ (w4.setCell ⟨w.heap.size, 2, none⟩ (.int .i64 m)).heap.size := by simpa using B3.size
  rw [hw5] at O5 T5 P5 F5 y0 y1 c5 c53 S5
  clear x0 x1 B3 O3 T3 P3 F3
  have hpq : ∀ x, w.heap.size + x ≠ pe := fun x => by omega
  obtain ⟨w7, hw7⟩ : ∃ w7, w5.setCell ⟨pe, 0, none⟩ (.int .i64 1) = w7 := ⟨_, rfl⟩
  have O7 := O5.set ⟨pe, 0, none⟩ (.int .i64 1) (.inl rfl)
  have T7 := T5.trans (Thaw.set w5 ⟨pe, 0, none⟩ (.int .i64 1)) S5
  have P7 : (w5.setCell ⟨pe, 0, none⟩ (.int .i64 1)).cell? ⟨pe, 0, none⟩ = some (.int .i64 1) := World.cell?_setCell_same _ _ _ P5
  have y0 := y0.far ⟨pe, 0, none⟩ (.int .i64 1) (hpq 0)
  have y1 := y1.far ⟨pe, 0, none⟩ (.int .i64 1) (hpq 1)
  rw [hw7] at O7 T7 P7 y0 y1
  have c73 : w7.cell? ⟨w.heap.size, 3, none⟩ = some (.slice a n c) := y0.cell rfl
  go_wp2_with fail
  clear hw7 hw5 O5 T5 P5 F5 c5 c53 S5 c73 k1 k2 k3 g2
  have R0 := RInv.start (d := d) (Z := Z) (U := U) (Ub := Ub) (Us := Us) (w7 := w7) hn (fun h => (ha h).2.1) (fun i q hi h => (hr i q hi h).1) hpU h1 h2 h3 h4 h5 O7 T7 P7
  clear O7 T7 P7
  go_loopw [51] (fun ii wr => ∃ j : Nat, ii = .int .i64 j ∧ j ≤ args.length ∧ Blk wr w.heap.size #[.slice pa binds.length pc, .int .i64 2, .int .i64 m, .slice a n c] 34 ∧ Blk wr (w.heap.size + 1) #[.slice none 0 0, .int .i64 0, .int .i64 0, .slice none 0 0] 34 ∧
    RInv d Z U Ub Us bl off n args PA A PN PC N C Kd pe 1 w j wr) (fun ii _ => args.length - (intOf ii).toNat)
  case atStart => exact ⟨0, rfl, by omega, y0, y1, R0⟩
  case round =>
    clear y0 y1 R0
    obtain ⟨j, rfl, hj, y0, y1, hR⟩ := hrel
    by_cases hlt : j < args.length
    · obtain ⟨rfl, hUb, hZb, hUbb⟩ := ha (by omega)
      clear ha
      obtain ⟨J, r5, r6⟩ := hR.cells
      obtain ⟨q1, q2, q3, q4⟩ := r5 j (by omega)
      have r6j := r6 j hlt
      rw [if_neg (by omega)] at r6j
      have hlt0 : (0 : Int) ≤ (j : Int) := Int.natCast_nonneg _
      have hlt1 : (j : Int) < (n : Int) := by omega
      have hsz := hR.oft.size
      have HR := Lib.hid hR.drew
      have Hc := Lib.hid (ih args[j] (List.getElem_mem hlt) (hfa _ (List.getElem_mem hlt)) Z (Us j) wr.drew _ _ _ _ pe _ (r6j.keep (Keep.refl _ _).drew) (fun q hq => Nat.lt_of_lt_of_le (hUs q (hr j q (by omega) hq).1) hsz)
        (fun q hq => ⟨Nat.lt_of_lt_of_le (hZ q hq).1 hsz, fun o => hR.thaw q o (hZ q hq).1 ((hZ q hq).2 o)⟩) hR.e (hR.thaw pe 0 hpl hpf) fun h => hpU (hr j pe (by omega) h).1)
      have HP : Hid (∀ o, wr.frozen? ⟨bl, o, none⟩ = false) := fun o => hR.thaw bl o (hZ bl hZb).1 ((hZ bl hZb).2 o)
      clear r6 r6j r5 hR ih
      go_wp2_with fail
      refine wp_region_noPanic (wp_region_need (S := fun w' => w'.cell? ⟨w.heap.size, 3, none⟩ = some (.slice (some ⟨bl, off, none⟩) n c) ∧ w'.cell? ⟨bl, off + j * 4, none⟩ = some (.slice (PA j) (PN j) (PC j)) ∧ w'.cell? ⟨bl, off + j * 4 + 1, none⟩ = some (.int .i64 (Kd j)) ∧ w'.cell? ⟨bl, off + j * 4 + 2, none⟩ = some (.int .i64 (J j)) ∧ w'.cell? ⟨bl, off + j * 4 + 3, none⟩ = some (.slice (A j) (N j) (C j))) (by kernel_rfl) ?_)
      have hS : (wr.drew).cell? ⟨w.heap.size, 3, none⟩ = some (.slice (some ⟨bl, off, none⟩) n c) ∧ (wr.drew).cell? ⟨bl, off + j * 4, none⟩ = some (.slice (PA j) (PN j) (PC j)) ∧ (wr.drew).cell? ⟨bl, off + j * 4 + 1, none⟩ = some (.int .i64 (Kd j)) ∧ (wr.drew).cell? ⟨bl, off + j * 4 + 2, none⟩ = some (.int .i64 (J j)) ∧ (wr.drew).cell? ⟨bl, off + j * 4 + 3, none⟩ = some (.slice (A j) (N j) (C j)) := ⟨y0.drew.cell rfl, q1, q2, q3, q4⟩
      refine wpN_take (i := 0) (v := ?v1) rfl (by kernel_rfl) (fun _ _ _ h => h) hS (Or.inl ⟨by rfl, ?hy1⟩) ?hr1
      case hy1 => (intro wS hSw; (try dsimp only at hSw); go_simp; (try with_reducible rfl))
      try simp only [Act.put, List.setIfInBounds_toArray, List.set_cons_zero, List.set_cons_succ, List.getElem_toArray, List.getElem_cons_zero, List.getElem_cons_succ]
      refine wpN_take (i := 1) (v := ?v2) rfl (by kernel_rfl) (fun _ _ _ h => h) hS (Or.inl ⟨by rfl, ?hy2⟩) ?hr2
      case hy2 => (intro wS hSw; (try dsimp only at hSw); go_simp; (try with_reducible rfl))
      try simp only [Act.put, List.setIfInBounds_toArray, List.set_cons_zero, List.set_cons_succ, List.getElem_toArray, List.getElem_cons_zero, List.getElem_cons_succ]
      refine wpN_take (i := 2) (v := ?v3) rfl (by kernel_rfl) (fun _ _ _ h => h) hS (Or.inl ⟨by rfl, ?hy3⟩) ?hr3
      case hy3 => (intro wS hSw; (try dsimp only at hSw); go_simp; (try with_reducible rfl))
      try simp only [Act.put, List.setIfInBounds_toArray, List.set_cons_zero, List.set_cons_succ, List.getElem_toArray, List.getElem_cons_zero, List.getElem_cons_succ]
      refine wpN_take (i := 3) (v := ?v4) rfl (by kernel_rfl) (fun _ _ _ h => h) hS (Or.inl ⟨by rfl, ?hy4⟩) ?hr4
      case hy4 => (intro wS hSw; (try dsimp only at hSw); go_simp; (try with_reducible rfl))
      try simp only [Act.put, List.setIfInBounds_toArray, List.set_cons_zero, List.set_cons_succ, List.getElem_toArray, List.getElem_cons_zero, List.getElem_cons_succ]
      refine wpN_take (i := 4) (v := ?v5) rfl (by kernel_rfl) (fun _ _ _ h => h) hS (Or.inl ⟨by rfl, ?hy5⟩) ?hr5
      case hy5 => (intro wS hSw; (try dsimp only at hSw); go_simp; (try with_reducible rfl))
      try simp only [Act.put, List.setIfInBounds_toArray, List.set_cons_zero, List.set_cons_succ, List.getElem_toArray, List.getElem_cons_zero, List.getElem_cons_succ]
      refine wpN_take (i := 5) (v := ?v6) rfl (by kernel_rfl) (fun _ _ _ h => h) hS (Or.inl ⟨by rfl, ?hy6⟩) ?hr6
      case hy6 => (intro wS hSw; (try dsimp only at hSw); go_simp; (try with_reducible rfl))
      try simp only [Act.put, List.setIfInBounds_toArray, List.set_cons_zero, List.set_cons_succ, List.getElem_toArray, List.getElem_cons_zero, List.getElem_cons_succ]
      refine wpN_take (i := 6) (v := ?v7) rfl (by kernel_rfl) (fun _ _ _ h => h) hS (Or.inl ⟨by rfl, ?hy7⟩) ?hr7
      case hy7 => (intro wS hSw; (try dsimp only at hSw); go_simp; (try with_reducible rfl))
      try simp only [Act.put, List.setIfInBounds_toArray, List.set_cons_zero, List.set_cons_succ, List.getElem_toArray, List.getElem_cons_zero, List.getElem_cons_succ]
      refine wpN_take (i := 7) (v := ?v8) rfl (by kernel_rfl) (fun _ _ _ h => h) hS (Or.inl ⟨by rfl, ?hy8⟩) ?hr8
      case hy8 => (intro wS hSw; (try dsimp only at hSw); go_simp; (try with_reducible rfl))
      try simp only [Act.put, List.setIfInBounds_toArray, List.set_cons_zero, List.set_cons_succ, List.getElem_toArray, List.getElem_cons_zero, List.getElem_cons_succ]
      refine wpN_take (i := 8) (v := ?v9) rfl (by kernel_rfl) (fun _ _ _ h => h) hS (Or.inl ⟨by rfl, ?hy9⟩) ?hr9
      case hy9 => (intro wS hSw; (try dsimp only at hSw); go_simp; (try with_reducible rfl))
      try simp only [Act.put, List.setIfInBounds_toArray, List.set_cons_zero, List.set_cons_succ, List.getElem_toArray, List.getElem_cons_zero, List.getElem_cons_succ]
      refine wpN_take (i := 9) (v := ?v10) rfl (by kernel_rfl) (fun _ _ _ h => h) hS (Or.inl ⟨by rfl, ?hy10⟩) ?hr10
      case hy10 => (intro wS hSw; (try dsimp only at hSw); go_simp; (try with_reducible rfl))
      try simp only [Act.put, List.setIfInBounds_toArray, List.set_cons_zero, List.set_cons_succ, List.getElem_toArray, List.getElem_cons_zero, List.getElem_cons_succ]
      refine wpN_step (i := 10) (by kernel_rfl) rfl (fun K hK => ?_)
      go_simp
      refine Hc.out.mono ?_
      rintro e w5 ⟨i', rfl, g1, g2, g3, g4⟩
      have hKp : Keep (fun q => q = bl) wr.drew w5 := g4.keep fun q hq e => by
        subst hq
        rcases e with e | e
        · exact (hr j q (by omega) e).2.1 rfl
        · exact hpU (e ▸ hUb)
      have hnq : ∀ x, ¬ (Us j (w.heap.size + x) ∨ w.heap.size + x = pe) := fun x e => by
        rcases e with e | e
        · have := hUs _ (hr j _ (by omega) e).1; omega
        · omega
      have z0 := g4.blk (y0.drew) (hnq 0)
      have z1 := g4.blk (y1.drew) (hnq 1)
      have HS := Lib.hid (HR.out.step hn hlt (fun h => ⟨hUb, hUbb⟩) hr hd hpU hpl g1 g2 g3 g4)
      have p0 := hKp _ _ _ rfl (show wr.drew.cell? _ = _ from q1)
      have p1 := hKp _ _ _ rfl (show wr.drew.cell? _ = _ from q2)
      have p2 := hKp _ _ _ rfl (show wr.drew.cell? _ = _ from q3)
      have p3 := hKp _ _ _ rfl (show wr.drew.cell? _ = _ from q4)
      have f0 := g3 bl (off + j * 4) (Keep.lt q1) (HP.out _)
      have f1 := g3 bl (off + j * 4 + 1) (Keep.lt q1) (HP.out _)
      have f2 := g3 bl (off + j * 4 + 2) (Keep.lt q1) (HP.out _)
      have f3 := g3 bl (off + j * 4 + 3) (Keep.lt q1) (HP.out _)
      have hS : (w5).cell? ⟨w.heap.size, 3, none⟩ = some (.slice (some ⟨bl, off, none⟩) n c) ∧ (w5).cell? ⟨bl, off + j * 4, none⟩ = some (.slice (PA j) (PN j) (PC j)) ∧ (w5).cell? ⟨bl, off + j * 4 + 1, none⟩ = some (.int .i64 (Kd j)) ∧ (w5).cell? ⟨bl, off + j * 4 + 2, none⟩ = some (.int .i64 (J j)) ∧ (w5).cell? ⟨bl, off + j * 4 + 3, none⟩ = some (.slice (A j) (N j) (C j)) := ⟨z0.cell rfl, p0, p1, p2, p3⟩
      clear g1 g2 g3 g4 HR Hc q1 q2 q3 q4
      refine hK.out _ _ (fun _ => hS) ?_
      clear hK K
      try simp only [Act.put, List.setIfInBounds_toArray, List.set_cons_zero, List.set_cons_succ, List.getElem_toArray, List.getElem_cons_zero, List.getElem_cons_succ]
      refine wpN_take (i := 11) (v := ?v11) rfl (by kernel_rfl) (fun _ _ _ h => h) hS (Or.inl ⟨by rfl, ?hy11⟩) ?hr11
      case hy11 => (intro wS hSw; (try dsimp only at hSw); go_simp; (try with_reducible rfl))
      try simp only [Act.put, List.setIfInBounds_toArray, List.set_cons_zero, List.set_cons_succ, List.getElem_toArray, List.getElem_cons_zero, List.getElem_cons_succ]
      refine wpN_step (i := 12) (by kernel_rfl) rfl (fun K hK => ?_)
      go_simp
      refine hK.out _ _ (fun h => absurd h (by decide)) ?_
      clear hK K
      try simp only [Act.put, List.setIfInBounds_toArray, List.set_cons_zero, List.set_cons_succ, List.getElem_toArray, List.getElem_cons_zero, List.getElem_cons_succ]
      refine wpN_done (by kernel_rfl) ?_
      refine NoPanic.normal ?_
      have hbq : ∀ x, w.heap.size + x ≠ bl := fun x e => by have := hUs _ hUb; omega
      go_wp2_with fail
      refine ⟨⟨j + 1, by go_num, by omega, ?_, ?_, HS.out⟩, by simp [intOf]; omega⟩
      · exact (((z0.far _ _ (hbq 0)).far _ _ (hbq 0)).far _ _ (hbq 0)).far _ _ (hbq 0)
      · exact (((z1.far _ _ (hbq 1)).far _ _ (hbq 1)).far _ _ (hbq 1)).far _ _ (hbq 1)
    · have d0 : wr.cell? ⟨w.heap.size, 0, none⟩ = some (.slice pa binds.length pc) := y0.cell rfl
      have d1 : wr.cell? ⟨w.heap.size, 1, none⟩ = some (.int .i64 2) := y0.cell rfl
      have d2 : wr.cell? ⟨w.heap.size, 2, none⟩ = some (.int .i64 m) := y0.cell rfl
      have d3 : wr.cell? ⟨w.heap.size, 3, none⟩ = some (.slice a n c) := y0.cell rfl
      have r0 : wr.cell? ⟨w.heap.size + 1, 0, none⟩ = some (.slice none 0 0) := y1.cell rfl
      have r1 : wr.cell? ⟨w.heap.size + 1, 1, none⟩ = some (.int .i64 0) := y1.cell rfl
      have r2 : wr.cell? ⟨w.heap.size + 1, 2, none⟩ = some (.int .i64 0) := y1.cell rfl
      have r3 : wr.cell? ⟨w.heap.size + 1, 3, none⟩ = some (.slice none 0 0) := y1.cell rfl
      have f0 := y1.free 0
      have f1 := y1.free 1
      have f2 := y1.free 2
      have f3 := y1.free 3
      have HD := Lib.hid (hR.done hn (by omega) hb hm ha hr hd 2 m)
      have HO := Lib.hid hR.oft
      have HT := Lib.hid hR.thaw
      have hqn : ¬ U (w.heap.size + 1) := fun h => by have := hUs _ h; omega
      have hlj : ¬ (j : Int) < (n : Int) := by omega
      clear hR y0 y1 ih hb
      go_wp2_with fail
      refine bodyPost_ret (v := .agg #[.slice pa binds.length pc, .int .i64 2, .int .i64 m, .slice a n c]) (by simp [results, Try.results42, go_sem, r0, r1, r2, r3]) rfl ?_
      obtain ⟨w9, hw9⟩ : ∃ w9, ((((wr.setCell ⟨w.heap.size + 1, 0, none⟩ (.slice pa binds.length pc)).setCell ⟨w.heap.size + 1, 1, none⟩ (.int .i64 2)).setCell ⟨w.heap.size + 1, 2, none⟩ (.int .i64 m)).setCell ⟨w.heap.size + 1, 3, none⟩ (.slice a n c)) = w9 := ⟨_, rfl⟩
      have hk9 : Keep (fun q => q ≠ w.heap.size + 1) wr w9 := by rw [← hw9]; exact ((((Keep.refl _ _).setCell _ _ (by simp)).setCell _ _ (by simp)).setCell _ _ (by simp)).setCell _ _ (by simp)
      have hf9 : ∀ q o, w9.frozen? ⟨q, o, none⟩ = wr.frozen? ⟨q, o, none⟩ := fun q o => by rw [← hw9]; simp
      have ho9 : Off (fun q => U q ∨ q = pe) w w9 := by
        rw [← hw9]
        exact (((HO.out.set _ _ (.inr (by simp))).set _ _ (.inr (by simp))).set _ _ (.inr (by simp))).set _ _ (.inr (by simp))
      rw [hw9]
      refine ⟨m, rfl, ?_, ?_, fun q o hq hf => (hf9 q o).trans (HT.out q o hq hf), ho9⟩
      · rw [Rn.ren_eq, if_pos rfl, hmm]
        exact HD.out.1.keep (hk9.weaken fun q hq e => hqn (e ▸ hq))
      · rw [Rn.errs_eq, if_pos rfl, IFN.out]
        exact hk9 _ _ _ (by omega) HD.out.2
set_option maxRecDepth 100000 in
set_option maxHeartbeats 2000000 in
theorem renamed_c2 (d : Int) (hdd : -9223372036854775808 ≤ d ∧ d ≤ 9223372036854775807) (binds : List Ty) (k i : Int) (args : List Tm) (ih : ∀ t ∈ args, t.Fit → RenOw d t) (hfit : (Tm.mk binds k i args).Fit) (Z U : Nat → Prop) (w : World) (bv kv iv av : Value) (pe : Nat) (e0 : Int) (ht : IsOw Z w U bv kv iv av (.mk binds k i args)) (hUs : ∀ q, U q → q < w.heap.size) (hZ : ∀ q, Z q → q < w.heap.size ∧ ∀ o, w.frozen? ⟨q, o, none⟩ = false) (hpe : w.cell? ⟨pe, 0, none⟩ = some (.int .i64 e0)) (hpf : w.frozen? ⟨pe, 0, none⟩ = false) (hpU : ¬ U pe)  (hk : k = 2) (c1 : Rn.sm i d < 0) (c2 : ¬ e0 = 0 ∧ 1 < e0) :
    Calls Try.prog 42 #[.agg #[bv, kv, iv, av], .int .i64 d, .pointer (some ⟨pe, 0, none⟩)] w fun e w' => ∃ i', e = .returned (.agg #[bv, kv, .int .i64 i', av]) ∧ IsOw Z w' U bv kv (.int .i64 i') av (Rn.ren d (.mk binds k i args)) ∧ w'.cell? ⟨pe, 0, none⟩ = some (.int .i64 (Rn.errs d (.mk binds k i args) e0)) ∧ Thaw w w' ∧ Off (fun q => U q ∨ q = pe) w w' := by
  cases ht with
  | mk U Ub Us bv k i a n c binds args bl off PA A PN PC N C Kd Ix hb hn hm ha hr hd h1 h2 h3 h4 h5 =>
  obtain ⟨pa, pc, rfl⟩ := hb.shape
  have hpl : pe < w.heap.size := Keep.lt hpe
  obtain ⟨hi0, hi1, hfa⟩ := Tm.fit_iff.1 hfit
  have hnn : n ≤ 9223372036854775807 := by unfold maxLen at hm; omega
  have Hsum := Lib.hid (sum_k i d ⟨hi0, hi1⟩ hdd)
  obtain rfl := hk
  obtain ⟨m, hmm⟩ : ∃ m, Rn.sm i d = m := ⟨_, rfl⟩
  rw [hmm] at Hsum c1
  have IFN : Hid (Rn.note (Rn.sm i d) e0 = 1) := by show _ = _; rw [hmm]; unfold Rn.note Rn.code; rw [if_pos c1]; rw [if_pos ⟨by decide, .inr c2.2⟩]
  obtain ⟨e1, e2⟩ := c2
  have c2 := And.intro e1 e2
  have e3 : (e0 == 0) = false := by simpa using e1
  go_enter Try.func42, Try.ntmps42
  go_wp2_with fail
  obtain ⟨w3, hw3⟩ : ∃ w3, (w.alloc (.cells #[.slice pa binds.length pc, .int .i64 2, .int .i64 i, .slice a n c] 34)).alloc (.cells #[.slice none 0 0, .int .i64 0, .int .i64 0, .slice none 0 0] 34) = w3 := ⟨_, rfl⟩
  try rw [hw3]
  have B3 : Below w.heap.size w w3 := by rw [← hw3]; exact ((Below.refl _ _).alloc (Nat.le_refl _) _).alloc (by simp) _
  have x0 : Blk w3 w.heap.size #[.slice pa binds.length pc, .int .i64 2, .int .i64 i, .slice a n c] 34 := by rw [← hw3]; exact (Blk.new _ _ _ rfl).alloc _
  have x1 : Blk w3 (w.heap.size + 1) #[.slice none 0 0, .int .i64 0, .int .i64 0, .slice none 0 0] 34 := by rw [← hw3]; exact Blk.new _ _ _ (by simp)
  clear hw3
  have P3 : w3.cell? ⟨pe, 0, none⟩ = some (.int .i64 e0) := (B3.cell (p := ⟨pe, 0, none⟩) hpl).trans hpe
  have F3 : w3.frozen? ⟨pe, 0, none⟩ = false := Thaw.below B3 pe 0 hpl hpf
  have k1 : w3.cell? ⟨w.heap.size, 1, none⟩ = some (.int .i64 2) := x0.cell rfl
  have k2 : w3.cell? ⟨w.heap.size, 2, none⟩ = some (.int .i64 i) := x0.cell rfl
  have k3 : w3.cell? ⟨w.heap.size, 3, none⟩ = some (.slice a n c) := x0.cell rfl
  have O3 := Off.of_below (fun q => q = pe) B3
  have T3 := Thaw.below B3
  go_wp2_with fail
  refine (Hsum.out w3).mono ?_
  rintro e w4 ⟨rfl, rfl⟩
  have g2 := x0.free 2
  have hne : (⟨w.heap.size, 2, none⟩ : Addr) ≠ ⟨pe, 0, none⟩ := fun e => by cases e
  obtain ⟨w5, hw5⟩ : ∃ w5, w4.setCell ⟨w.heap.size, 2, none⟩ (.int .i64 m) = w5 := ⟨_, rfl⟩
  have O5 := O3.set ⟨w.heap.size, 2, none⟩ (.int .i64 m) (.inr (Nat.le_refl _))
  have T5 := T3.trans (Thaw.set w4 ⟨w.heap.size, 2, none⟩ (.int .i64 m)) B3.size
  have P5 : (w4.setCell ⟨w.heap.size, 2, none⟩ (.int .i64 m)).cell? ⟨pe, 0, none⟩ = some (.int .i64 e0) := by rw [World.cell?_setCell_other _ _ _ _ hne]; exact P3
  have F5 : (w4.setCell ⟨w.heap.size, 2, none⟩ (.int .i64 m)).frozen? ⟨pe, 0, none⟩ = false := by rw [World.frozen?_setCell]; exact F3
  have y0 := x0.set 2 (.int .i64 m)
  have y1 := x1.far ⟨w.heap.size, 2, none⟩ (.int .i64 m) (by simp)
  have c5 : (w4.setCell ⟨w.heap.size, 2, none⟩ (.int .i64 m)).cell? ⟨w.heap.size, 2, none⟩ = some (.int .i64 m) := World.cell?_setCell_same _ _ _ k2
  have c53 : (w4.setCell ⟨w.heap.size, 2, none⟩ (.int .i64 m)).cell? ⟨w.heap.size, 3, none⟩ = some (.slice a n c) := y0.cell rfl
  have S5 : w.heap.size ≤ (w4.setCell ⟨w.heap.size, 2, none⟩ (.int .i64 m)).heap.size := by simpa using B3.size
  rw [hw5] at O5 T5 P5 F5 y0 y1 c5 c53 S5
  clear x0 x1 B3 O3 T3 P3 F3
  have hpq : ∀ x, w.heap.size + x ≠ pe := fun x => by omega
  obtain ⟨w7, hw7⟩ : ∃ w7, w5.setCell ⟨pe, 0, none⟩ (.int .i64 1) = w7 := ⟨_, rfl⟩
  have O7 := O5.set ⟨pe, 0, none⟩ (.int .i64 1) (.inl rfl)
  have T7 := T5.trans (Thaw.set w5 ⟨pe, 0, none⟩ (.int .i64 1)) S5
  have P7 : (w5.setCell ⟨pe, 0, none⟩ (.int .i64 1)).cell? ⟨pe, 0, none⟩ = some (.int .i64 1) := World.cell?_setCell_same _ _ _ P5
  have y0 := y0.far ⟨pe, 0, none⟩ (.int .i64 1) (hpq 0)
  have y1 := y1.far ⟨pe, 0, none⟩ (.int .i64 1) (hpq 1)
  rw [hw7] at O7 T7 P7 y0 y1
  have c73 : w7.cell? ⟨w.heap.size, 3, none⟩ = some (.slice a n c) := y0.cell rfl
  go_wp2_with fail
  clear hw7 hw5 O5 T5 P5 F5 c5 c53 S5 c73 k1 k2 k3 g2
  have R0 := RInv.start (d := d) (Z := Z) (U := U) (Ub := Ub) (Us := Us) (w7 := w7) hn (fun h => (ha h).2.1) (fun i q hi h => (hr i q hi h).1) hpU h1 h2 h3 h4 h5 O7 T7 P7
  clear O7 T7 P7
  go_loopw [51] (fun ii wr => ∃ j : Nat, ii = .int .i64 j ∧ j ≤ args.length ∧ Blk wr w.heap.size #[.slice pa binds.length pc, .int .i64 2, .int .i64 m, .slice a n c] 34 ∧ Blk wr (w.heap.size + 1) #[.slice none 0 0, .int .i64 0, .int .i64 0, .slice none 0 0] 34 ∧
    RInv d Z U Ub Us bl off n args PA A PN PC N C Kd pe 1 w j wr) (fun ii _ => args.length - (intOf ii).toNat)
  case atStart => exact ⟨0, rfl, by omega, y0, y1, R0⟩
  case round =>
    clear y0 y1 R0
    obtain ⟨j, rfl, hj, y0, y1, hR⟩ := hrel
    by_cases hlt : j < args.length
    · obtain ⟨rfl, hUb, hZb, hUbb⟩ := ha (by omega)
      clear ha
      obtain ⟨J, r5, r6⟩ := hR.cells
      obtain ⟨q1, q2, q3, q4⟩ := r5 j (by omega)
      have r6j := r6 j hlt
      rw [if_neg (by omega)] at r6j
      have hlt0 : (0 : Int) ≤ (j : Int) := Int.natCast_nonneg _
      have hlt1 : (j : Int) < (n : Int) := by omega
      have hsz := hR.oft.size
      have HR := Lib.hid hR.drew
      have Hc := Lib.hid (ih args[j] (List.getElem_mem hlt) (hfa _ (List.getElem_mem hlt)) Z (Us j) wr.drew _ _ _ _ pe _ (r6j.keep (Keep.refl _ _).drew) (fun q hq => Nat.lt_of_lt_of_le (hUs q (hr j q (by omega) hq).1) hsz)
        (fun q hq => ⟨Nat.lt_of_lt_of_le (hZ q hq).1 hsz, fun o => hR.thaw q o (hZ q hq).1 ((hZ q hq).2 o)⟩) hR.e (hR.thaw pe 0 hpl hpf) fun h => hpU (hr j pe (by omega) h).1)
      have HP : Hid (∀ o, wr.frozen? ⟨bl, o, none⟩ = false) := fun o => hR.thaw bl o (hZ bl hZb).1 ((hZ bl hZb).2 o)
      clear r6 r6j r5 hR ih
      go_wp2_with fail
      refine wp_region_noPanic (wp_region_need (S := fun w' => w'.cell? ⟨w.heap.size, 3, none⟩ = some (.slice (some ⟨bl, off, none⟩) n c) ∧ w'.cell? ⟨bl, off + j * 4, none⟩ = some (.slice (PA j) (PN j) (PC j)) ∧ w'.cell? ⟨bl, off + j * 4 + 1, none⟩ = some (.int .i64 (Kd j)) ∧ w'.cell? ⟨bl, off + j * 4 + 2, none⟩ = some (.int .i64 (J j)) ∧ w'.cell? ⟨bl, off + j * 4 + 3, none⟩ = some (.slice (A j) (N j) (C j))) (by kernel_rfl) ?_)
      have hS : (wr.drew).cell? ⟨w.heap.size, 3, none⟩ = some (.slice (some ⟨bl, off, none⟩) n c) ∧ (wr.drew).cell? ⟨bl, off + j * 4, none⟩ = some (.slice (PA j) (PN j) (PC j)) ∧ (wr.drew).cell? ⟨bl, off + j * 4 + 1, none⟩ = some (.int .i64 (Kd j)) ∧ (wr.drew).cell? ⟨bl, off + j * 4 + 2, none⟩ = some (.int .i64 (J j)) ∧ (wr.drew).cell? ⟨bl, off + j * 4 + 3, none⟩ = some (.slice (A j) (N j) (C j)) := ⟨y0.drew.cell rfl, q1, q2, q3, q4⟩
      refine wpN_take (i := 0) (v := ?v12) rfl (by kernel_rfl) (fun _ _ _ h => h) hS (Or.inl ⟨by rfl, ?hy12⟩) ?hr12
      case hy12 => (intro wS hSw; (try dsimp only at hSw); go_simp; (try with_reducible rfl))
      try simp only [Act.put, List.setIfInBounds_toArray, List.set_cons_zero, List.set_cons_succ, List.getElem_toArray, List.getElem_cons_zero, List.getElem_cons_succ]
      refine wpN_take (i := 1) (v := ?v13) rfl (by kernel_rfl) (fun _ _ _ h => h) hS (Or.inl ⟨by rfl, ?hy13⟩) ?hr13
      case hy13 => (intro wS hSw; (try dsimp only at hSw); go_simp; (try with_reducible rfl))
      try simp only [Act.put, List.setIfInBounds_toArray, List.set_cons_zero, List.set_cons_succ, List.getElem_toArray, List.getElem_cons_zero, List.getElem_cons_succ]
      refine wpN_take (i := 2) (v := ?v14) rfl (by kernel_rfl) (fun _ _ _ h => h) hS (Or.inl ⟨by rfl, ?hy14⟩) ?hr14
      case hy14 => (intro wS hSw; (try dsimp only at hSw); go_simp; (try with_reducible rfl))
      try simp only [Act.put, List.setIfInBounds_toArray, List.set_cons_zero, List.set_cons_succ, List.getElem_toArray, List.getElem_cons_zero, List.getElem_cons_succ]
      refine wpN_take (i := 3) (v := ?v15) rfl (by kernel_rfl) (fun _ _ _ h => h) hS (Or.inl ⟨by rfl, ?hy15⟩) ?hr15
      case hy15 => (intro wS hSw; (try dsimp only at hSw); go_simp; (try with_reducible rfl))
      try simp only [Act.put, List.setIfInBounds_toArray, List.set_cons_zero, List.set_cons_succ, List.getElem_toArray, List.getElem_cons_zero, List.getElem_cons_succ]
      refine wpN_take (i := 4) (v := ?v16) rfl (by kernel_rfl) (fun _ _ _ h => h) hS (Or.inl ⟨by rfl, ?hy16⟩) ?hr16
      case hy16 => (intro wS hSw; (try dsimp only at hSw); go_simp; (try with_reducible rfl))
      try simp only [Act.put, List.setIfInBounds_toArray, List.set_cons_zero, List.set_cons_succ, List.getElem_toArray, List.getElem_cons_zero, List.getElem_cons_succ]
      refine wpN_take (i := 5) (v := ?v17) rfl (by kernel_rfl) (fun _ _ _ h => h) hS (Or.inl ⟨by rfl, ?hy17⟩) ?hr17
      case hy17 => (intro wS hSw; (try dsimp only at hSw); go_simp; (try with_reducible rfl))
      try simp only [Act.put, List.setIfInBounds_toArray, List.set_cons_zero, List.set_cons_succ, List.getElem_toArray, List.getElem_cons_zero, List.getElem_cons_succ]
      refine wpN_take (i := 6) (v := ?v18) rfl (by kernel_rfl) (fun _ _ _ h => h) hS (Or.inl ⟨by rfl, ?hy18⟩) ?hr18
      case hy18 => (intro wS hSw; (try dsimp only at hSw); go_simp; (try with_reducible rfl))
      try simp only [Act.put, List.setIfInBounds_toArray, List.set_cons_zero, List.set_cons_succ, List.getElem_toArray, List.getElem_cons_zero, List.getElem_cons_succ]
      refine wpN_take (i := 7) (v := ?v19) rfl (by kernel_rfl) (fun _ _ _ h => h) hS (Or.inl ⟨by rfl, ?hy19⟩) ?hr19
      case hy19 => (intro wS hSw; (try dsimp only at hSw); go_simp; (try with_reducible rfl))
      try simp only [Act.put, List.setIfInBounds_toArray, List.set_cons_zero, List.set_cons_succ, List.getElem_toArray, List.getElem_cons_zero, List.getElem_cons_succ]
      refine wpN_take (i := 8) (v := ?v20) rfl (by kernel_rfl) (fun _ _ _ h => h) hS (Or.inl ⟨by rfl, ?hy20⟩) ?hr20
      case hy20 => (intro wS hSw; (try dsimp only at hSw); go_simp; (try with_reducible rfl))
      try simp only [Act.put, List.setIfInBounds_toArray, List.set_cons_zero, List.set_cons_succ, List.getElem_toArray, List.getElem_cons_zero, List.getElem_cons_succ]
      refine wpN_take (i := 9) (v := ?v21) rfl (by kernel_rfl) (fun _ _ _ h => h) hS (Or.inl ⟨by rfl, ?hy21⟩) ?hr21
      case hy21 => (intro wS hSw; (try dsimp only at hSw); go_simp; (try with_reducible rfl))
      try simp only [Act.put, List.setIfInBounds_toArray, List.set_cons_zero, List.set_cons_succ, List.getElem_toArray, List.getElem_cons_zero, List.getElem_cons_succ]
      refine wpN_step (i := 10) (by kernel_rfl) rfl (fun K hK => ?_)
      go_simp
      refine Hc.out.mono ?_
      rintro e w5 ⟨i', rfl, g1, g2, g3, g4⟩
      have hKp : Keep (fun q => q = bl) wr.drew w5 := g4.keep fun q hq e => by
        subst hq
        rcases e with e | e
        · exact (hr j q (by omega) e).2.1 rfl
        · exact hpU (e ▸ hUb)
      have hnq : ∀ x, ¬ (Us j (w.heap.size + x) ∨ w.heap.size + x = pe) := fun x e => by
        rcases e with e | e
        · have := hUs _ (hr j _ (by omega) e).1; omega
        · omega
      have z0 := g4.blk (y0.drew) (hnq 0)
      have z1 := g4.blk (y1.drew) (hnq 1)
      have HS := Lib.hid (HR.out.step hn hlt (fun h => ⟨hUb, hUbb⟩) hr hd hpU hpl g1 g2 g3 g4)
      have p0 := hKp _ _ _ rfl (show wr.drew.cell? _ = _ from q1)
      have p1 := hKp _ _ _ rfl (show wr.drew.cell? _ = _ from q2)
      have p2 := hKp _ _ _ rfl (show wr.drew.cell? _ = _ from q3)
      have p3 := hKp _ _ _ rfl (show wr.drew.cell? _ = _ from q4)
      have f0 := g3 bl (off + j * 4) (Keep.lt q1) (HP.out _)
      have f1 := g3 bl (off + j * 4 + 1) (Keep.lt q1) (HP.out _)
      have f2 := g3 bl (off + j * 4 + 2) (Keep.lt q1) (HP.out _)
      have f3 := g3 bl (off + j * 4 + 3) (Keep.lt q1) (HP.out _)
      have hS : (w5).cell? ⟨w.heap.size, 3, none⟩ = some (.slice (some ⟨bl, off, none⟩) n c) ∧ (w5).cell? ⟨bl, off + j * 4, none⟩ = some (.slice (PA j) (PN j) (PC j)) ∧ (w5).cell? ⟨bl, off + j * 4 + 1, none⟩ = some (.int .i64 (Kd j)) ∧ (w5).cell? ⟨bl, off + j * 4 + 2, none⟩ = some (.int .i64 (J j)) ∧ (w5).cell? ⟨bl, off + j * 4 + 3, none⟩ = some (.slice (A j) (N j) (C j)) := ⟨z0.cell rfl, p0, p1, p2, p3⟩
      clear g1 g2 g3 g4 HR Hc q1 q2 q3 q4
      refine hK.out _ _ (fun _ => hS) ?_
      clear hK K
      try simp only [Act.put, List.setIfInBounds_toArray, List.set_cons_zero, List.set_cons_succ, List.getElem_toArray, List.getElem_cons_zero, List.getElem_cons_succ]
      refine wpN_take (i := 11) (v := ?v22) rfl (by kernel_rfl) (fun _ _ _ h => h) hS (Or.inl ⟨by rfl, ?hy22⟩) ?hr22
      case hy22 => (intro wS hSw; (try dsimp only at hSw); go_simp; (try with_reducible rfl))
      try simp only [Act.put, List.setIfInBounds_toArray, List.set_cons_zero, List.set_cons_succ, List.getElem_toArray, List.getElem_cons_zero, List.getElem_cons_succ]
      refine wpN_step (i := 12) (by kernel_rfl) rfl (fun K hK => ?_)
      go_simp
      refine hK.out _ _ (fun h => absurd h (by decide)) ?_
      clear hK K
      try simp only [Act.put, List.setIfInBounds_toArray, List.set_cons_zero, List.set_cons_succ, List.getElem_toArray, List.getElem_cons_zero, List.getElem_cons_succ]
      refine wpN_done (by kernel_rfl) ?_
      refine NoPanic.normal ?_
      have hbq : ∀ x, w.heap.size + x ≠ bl := fun x e => by have := hUs _ hUb; omega
      go_wp2_with fail
      refine ⟨⟨j + 1, by go_num, by omega, ?_, ?_, HS.out⟩, by simp [intOf]; omega⟩
      · exact (((z0.far _ _ (hbq 0)).far _ _ (hbq 0)).far _ _ (hbq 0)).far _ _ (hbq 0)
      · exact (((z1.far _ _ (hbq 1)).far _ _ (hbq 1)).far _ _ (hbq 1)).far _ _ (hbq 1)
    · have d0 : wr.cell? ⟨w.heap.size, 0, none⟩ = some (.slice pa binds.length pc) := y0.cell rfl
      have d1 : wr.cell? ⟨w.heap.size, 1, none⟩ = some (.int .i64 2) := y0.cell rfl
      have d2 : wr.cell? ⟨w.heap.size, 2, none⟩ = some (.int .i64 m) := y0.cell rfl
      have d3 : wr.cell? ⟨w.heap.size, 3, none⟩ = some (.slice a n c) := y0.cell rfl
      have r0 : wr.cell? ⟨w.heap.size + 1, 0, none⟩ = some (.slice none 0 0) := y1.cell rfl
      have r1 : wr.cell? ⟨w.heap.size + 1, 1, none⟩ = some (.int .i64 0) := y1.cell rfl
      have r2 : wr.cell? ⟨w.heap.size + 1, 2, none⟩ = some (.int .i64 0) := y1.cell rfl
      have r3 : wr.cell? ⟨w.heap.size + 1, 3, none⟩ = some (.slice none 0 0) := y1.cell rfl
      have f0 := y1.free 0
      have f1 := y1.free 1
      have f2 := y1.free 2
      have f3 := y1.free 3
      have HD := Lib.hid (hR.done hn (by omega) hb hm ha hr hd 2 m)
      have HO := Lib.hid hR.oft
      have HT := Lib.hid hR.thaw
      have hqn : ¬ U (w.heap.size + 1) := fun h => by have := hUs _ h; omega
      have hlj : ¬ (j : Int) < (n : Int) := by omega
      clear hR y0 y1 ih hb
      go_wp2_with fail
      refine bodyPost_ret (v := .agg #[.slice pa binds.length pc, .int .i64 2, .int .i64 m, .slice a n c]) (by simp [results, Try.results42, go_sem, r0, r1, r2, r3]) rfl ?_
      obtain ⟨w9, hw9⟩ : ∃ w9, ((((wr.setCell ⟨w.heap.size + 1, 0, none⟩ (.slice pa binds.length pc)).setCell ⟨w.heap.size + 1, 1, none⟩ (.int .i64 2)).setCell ⟨w.heap.size + 1, 2, none⟩ (.int .i64 m)).setCell ⟨w.heap.size + 1, 3, none⟩ (.slice a n c)) = w9 := ⟨_, rfl⟩
      have hk9 : Keep (fun q => q ≠ w.heap.size + 1) wr w9 := by rw [← hw9]; exact ((((Keep.refl _ _).setCell _ _ (by simp)).setCell _ _ (by simp)).setCell _ _ (by simp)).setCell _ _ (by simp)
      have hf9 : ∀ q o, w9.frozen? ⟨q, o, none⟩ = wr.frozen? ⟨q, o, none⟩ := fun q o => by rw [← hw9]; simp
      have ho9 : Off (fun q => U q ∨ q = pe) w w9 := by
        rw [← hw9]
        exact (((HO.out.set _ _ (.inr (by simp))).set _ _ (.inr (by simp))).set _ _ (.inr (by simp))).set _ _ (.inr (by simp))
      rw [hw9]
      refine ⟨m, rfl, ?_, ?_, fun q o hq hf => (hf9 q o).trans (HT.out q o hq hf), ho9⟩
      · rw [Rn.ren_eq, if_pos rfl, hmm]
        exact HD.out.1.keep (hk9.weaken fun q hq e => hqn (e ▸ hq))
      · rw [Rn.errs_eq, if_pos rfl, IFN.out]
        exact hk9 _ _ _ (by omega) HD.out.2
set_option maxRecDepth 100000 in
set_option maxHeartbeats 2000000 in
theorem renamed_c3 (d : Int) (hdd : -9223372036854775808 ≤ d ∧ d ≤ 9223372036854775807) (binds : List Ty) (k i : Int) (args : List Tm) (ih : ∀ t ∈ args, t.Fit → RenOw d t) (hfit : (Tm.mk binds k i args).Fit) (Z U : Nat → Prop) (w : World) (bv kv iv av : Value) (pe : Nat) (e0 : Int) (ht : IsOw Z w U bv kv iv av (.mk binds k i args)) (hUs : ∀ q, U q → q < w.heap.size) (hZ : ∀ q, Z q → q < w.heap.size ∧ ∀ o, w.frozen? ⟨q, o, none⟩ = false) (hpe : w.cell? ⟨pe, 0, none⟩ = some (.int .i64 e0)) (hpf : w.frozen? ⟨pe, 0, none⟩ = false) (hpU : ¬ U pe)  (hk : k = 2) (c1 : Rn.sm i d < 0) (c2 : ¬ e0 = 0 ∧ ¬ 1 < e0) :
    Calls Try.prog 42 #[.agg #[bv, kv, iv, av], .int .i64 d, .pointer (some ⟨pe, 0, none⟩)] w fun e w' => ∃ i', e = .returned (.agg #[bv, kv, .int .i64 i', av]) ∧ IsOw Z w' U bv kv (.int .i64 i') av (Rn.ren d (.mk binds k i args)) ∧ w'.cell? ⟨pe, 0, none⟩ = some (.int .i64 (Rn.errs d (.mk binds k i args) e0)) ∧ Thaw w w' ∧ Off (fun q => U q ∨ q = pe) w w' := by
  cases ht with
  | mk U Ub Us bv k i a n c binds args bl off PA A PN PC N C Kd Ix hb hn hm ha hr hd h1 h2 h3 h4 h5 =>
  obtain ⟨pa, pc, rfl⟩ := hb.shape
  have hpl : pe < w.heap.size := Keep.lt hpe
  obtain ⟨hi0, hi1, hfa⟩ := Tm.fit_iff.1 hfit
  have hnn : n ≤ 9223372036854775807 := by unfold maxLen at hm; omega
  have Hsum := Lib.hid (sum_k i d ⟨hi0, hi1⟩ hdd)
  obtain rfl := hk
  obtain ⟨m, hmm⟩ : ∃ m, Rn.sm i d = m := ⟨_, rfl⟩
  rw [hmm] at Hsum c1
  have IFN : Hid (Rn.note (Rn.sm i d) e0 = e0) := by show _ = _; rw [hmm]; unfold Rn.note Rn.code; rw [if_pos c1]; rw [if_neg (fun h => h.2.elim c2.1 c2.2)]
  obtain ⟨e1, e2⟩ := c2
  have c2 := And.intro e1 e2
  have e3 : (e0 == 0) = false := by simpa using e1
  go_enter Try.func42, Try.ntmps42
  go_wp2_with fail
  obtain ⟨w3, hw3⟩ : ∃ w3, (w.alloc (.cells #[.slice pa binds.length pc, .int .i64 2, .int .i64 i, .slice a n c] 34)).alloc (.cells #[.slice none 0 0, .int .i64 0, .int .i64 0, .slice none 0 0] 34) = w3 := ⟨_, rfl⟩
  try rw [hw3]
  have B3 : Below w.heap.size w w3 := by rw [← hw3]; exact ((Below.refl _ _).alloc (Nat.le_refl _) _).alloc (by simp) _
  have x0 : Blk w3 w.heap.size #[.slice pa binds.length pc, .int .i64 2, .int .i64 i, .slice a n c] 34 := by rw [← hw3]; exact (Blk.new _ _ _ rfl).alloc _
  have x1 : Blk w3 (w.heap.size + 1) #[.slice none 0 0, .int .i64 0, .int .i64 0, .slice none 0 0] 34 := by rw [← hw3]; exact Blk.new _ _ _ (by simp)
  clear hw3
  have P3 : w3.cell? ⟨pe, 0, none⟩ = some (.int .i64 e0) := (B3.cell (p := ⟨pe, 0, none⟩) hpl).trans hpe
  have F3 : w3.frozen? ⟨pe, 0, none⟩ = false := Thaw.below B3 pe 0 hpl hpf
  have k1 : w3.cell? ⟨w.heap.size, 1, none⟩ = some (.int .i64 2) := x0.cell rfl
  have k2 : w3.cell? ⟨w.heap.size, 2, none⟩ = some (.int .i64 i) := x0.cell rfl
  have k3 : w3.cell? ⟨w.heap.size, 3, none⟩ = some (.slice a n c) := x0.cell rfl
  have O3 := Off.of_below (fun q => q = pe) B3
  have T3 := Thaw.below B3
  go_wp2_with fail
  refine (Hsum.out w3).mono ?_
  rintro e w4 ⟨rfl, rfl⟩
  have g2 := x0.free 2
  have hne : (⟨w.heap.size, 2, none⟩ : Addr) ≠ ⟨pe, 0, none⟩ := fun e => by cases e
  obtain ⟨w5, hw5⟩ : ∃ w5, w4.setCell ⟨w.heap.size, 2, none⟩ (.int .i64 m) = w5 := ⟨_, rfl⟩
  have O5 := O3.set ⟨w.heap.size, 2, none⟩ (.int .i64 m) (.inr (Nat.le_refl _))
  have T5 := T3.trans (Thaw.set w4 ⟨w.heap.size, 2, none⟩ (.int .i64 m)) B3.size
  have P5 : (w4.setCell ⟨w.heap.size, 2, none⟩ (.int .i64 m)).cell? ⟨pe, 0, none⟩ = some (.int .i64 e0) := by rw [World.cell?_setCell_other _ _ _ _ hne]; exact P3
  have F5 : (w4.setCell ⟨w.heap.size, 2, none⟩ (.int .i64 m)).frozen? ⟨pe, 0, none⟩ = false := by rw [World.frozen?_setCell]; exact F3
  have y0 := x0.set 2 (.int .i64 m)
  have y1 := x1.far ⟨w.heap.size, 2, none⟩ (.int .i64 m) (by simp)
  have c5 : (w4.setCell ⟨w.heap.size, 2, none⟩ (.int .i64 m)).cell? ⟨w.heap.size, 2, none⟩ = some (.int .i64 m) := World.cell?_setCell_same _ _ _ k2
  have c53 : (w4.setCell ⟨w.heap.size, 2, none⟩ (.int .i64 m)).cell? ⟨w.heap.size, 3, none⟩ = some (.slice a n c) := y0.cell rfl
  have S5 : w.heap.size ≤ (w4.setCell ⟨w.heap.size, 2, none⟩ (.int .i64 m)).heap.size := by simpa using B3.size
  rw [hw5] at O5 T5 P5 F5 y0 y1 c5 c53 S5
  clear x0 x1 B3 O3 T3 P3 F3
  go_wp2_with fail
  clear hw5
  obtain ⟨w7, hw7⟩ : ∃ w7, w5 = w7 := ⟨_, rfl⟩
  have O7 := O5
  have T7 := T5
  have P7 := P5
  rw [hw7] at O7 T7 P7 y0 y1 ⊢
  clear hw7 O5 T5 P5 F5 c5 c53 S5 k1 k2 k3 g2
  have R0 := RInv.start (d := d) (Z := Z) (U := U) (Ub := Ub) (Us := Us) (w7 := w7) hn (fun h => (ha h).2.1) (fun i q hi h => (hr i q hi h).1) hpU h1 h2 h3 h4 h5 O7 T7 P7
  clear O7 T7 P7
  go_loopw [51] (fun ii wr => ∃ j : Nat, ii = .int .i64 j ∧ j ≤ args.length ∧ Blk wr w.heap.size #[.slice pa binds.length pc, .int .i64 2, .int .i64 m, .slice a n c] 34 ∧ Blk wr (w.heap.size + 1) #[.slice none 0 0, .int .i64 0, .int .i64 0, .slice none 0 0] 34 ∧
    RInv d Z U Ub Us bl off n args PA A PN PC N C Kd pe e0 w j wr) (fun ii _ => args.length - (intOf ii).toNat)
  case atStart => exact ⟨0, rfl, by omega, y0, y1, R0⟩
  case round =>
    clear y0 y1 R0
    obtain ⟨j, rfl, hj, y0, y1, hR⟩ := hrel
    by_cases hlt : j < args.length
    · obtain ⟨rfl, hUb, hZb, hUbb⟩ := ha (by omega)
      clear ha
      obtain ⟨J, r5, r6⟩ := hR.cells
      obtain ⟨q1, q2, q3, q4⟩ := r5 j (by omega)
      have r6j := r6 j hlt
      rw [if_neg (by omega)] at r6j
      have hlt0 : (0 : Int) ≤ (j : Int) := Int.natCast_nonneg _
      have hlt1 : (j : Int) < (n : Int) := by omega
      have hsz := hR.oft.size
      have HR := Lib.hid hR.drew
      have Hc := Lib.hid (ih args[j] (List.getElem_mem hlt) (hfa _ (List.getElem_mem hlt)) Z (Us j) wr.drew _ _ _ _ pe _ (r6j.keep (Keep.refl _ _).drew) (fun q hq => Nat.lt_of_lt_of_le (hUs q (hr j q (by omega) hq).1) hsz)
        (fun q hq => ⟨Nat.lt_of_lt_of_le (hZ q hq).1 hsz, fun o => hR.thaw q o (hZ q hq).1 ((hZ q hq).2 o)⟩) hR.e (hR.thaw pe 0 hpl hpf) fun h => hpU (hr j pe (by omega) h).1)
      have HP : Hid (∀ o, wr.frozen? ⟨bl, o, none⟩ = false) := fun o => hR.thaw bl o (hZ bl hZb).1 ((hZ bl hZb).2 o)
      clear r6 r6j r5 hR ih
      go_wp2_with fail
      refine wp_region_noPanic (wp_region_need (S := fun w' => w'.cell? ⟨w.heap.size, 3, none⟩ = some (.slice (some ⟨bl, off, none⟩) n c) ∧ w'.cell? ⟨bl, off + j * 4, none⟩ = some (.slice (PA j) (PN j) (PC j)) ∧ w'.cell? ⟨bl, off + j * 4 + 1, none⟩ = some (.int .i64 (Kd j)) ∧ w'.cell? ⟨bl, off + j * 4 + 2, none⟩ = some (.int .i64 (J j)) ∧ w'.cell? ⟨bl, off + j * 4 + 3, none⟩ = some (.slice (A j) (N j) (C j))) (by kernel_rfl) ?_)
      have hS : (wr.drew).cell? ⟨w.heap.size, 3, none⟩ = some (.slice (some ⟨bl, off, none⟩) n c) ∧ (wr.drew).cell? ⟨bl, off + j * 4, none⟩ = some (.slice (PA j) (PN j) (PC j)) ∧ (wr.drew).cell? ⟨bl, off + j * 4 + 1, none⟩ = some (.int .i64 (Kd j)) ∧ (wr.drew).cell? ⟨bl, off + j * 4 + 2, none⟩ = some (.int .i64 (J j)) ∧ (wr.drew).cell? ⟨bl, off + j * 4 + 3, none⟩ = some (.slice (A j) (N j) (C j)) := ⟨y0.drew.cell rfl, q1, q2, q3, q4⟩
      refine wpN_take (i := 0) (v := ?v23) rfl (by kernel_rfl) (fun _ _ _ h => h) hS (Or.inl ⟨by rfl, ?hy23⟩) ?hr23
      case hy23 => (intro wS hSw; (try dsimp only at hSw); go_simp; (try with_reducible rfl))
      try simp only [Act.put, List.setIfInBounds_toArray, List.set_cons_zero, List.set_cons_succ, List.getElem_toArray, List.getElem_cons_zero, List.getElem_cons_succ]
      refine wpN_take (i := 1) (v := ?v24) rfl (by kernel_rfl) (fun _ _ _ h => h) hS (Or.inl ⟨by rfl, ?hy24⟩) ?hr24
      case hy24 => (intro wS hSw; (try dsimp only at hSw); go_simp; (try with_reducible rfl))
      try simp only [Act.put, List.setIfInBounds_toArray, List.set_cons_zero, List.set_cons_succ, List.getElem_toArray, List.getElem_cons_zero, List.getElem_cons_succ]
      refine wpN_take (i := 2) (v := ?v25) rfl (by kernel_rfl) (fun _ _ _ h => h) hS (Or.inl ⟨by rfl, ?hy25⟩) ?hr25
      case hy25 => (intro wS hSw; (try dsimp only at hSw); go_simp; (try with_reducible rfl))
      try simp only [Act.put, List.setIfInBounds_toArray, List.set_cons_zero, List.set_cons_succ, List.getElem_toArray, List.getElem_cons_zero, List.getElem_cons_succ]
      refine wpN_take (i := 3) (v := ?v26) rfl (by kernel_rfl) (fun _ _ _ h => h) hS (Or.inl ⟨by rfl, ?hy26⟩) ?hr26
      case hy26 => (intro wS hSw; (try dsimp only at hSw); go_simp; (try with_reducible rfl))
      try simp only [Act.put, List.setIfInBounds_toArray, List.set_cons_zero, List.set_cons_succ, List.getElem_toArray, List.getElem_cons_zero, List.getElem_cons_succ]
      refine wpN_take (i := 4) (v := ?v27) rfl (by kernel_rfl) (fun _ _ _ h => h) hS (Or.inl ⟨by rfl, ?hy27⟩) ?hr27
      case hy27 => (intro wS hSw; (try dsimp only at hSw); go_simp; (try with_reducible rfl))
      try simp only [Act.put, List.setIfInBounds_toArray, List.set_cons_zero, List.set_cons_succ, List.getElem_toArray, List.getElem_cons_zero, List.getElem_cons_succ]
      refine wpN_take (i := 5) (v := ?v28) rfl (by kernel_rfl) (fun _ _ _ h => h) hS (Or.inl ⟨by rfl, ?hy28⟩) ?hr28
      case hy28 => (intro wS hSw; (try dsimp only at hSw); go_simp; (try with_reducible rfl))
      try simp only [Act.put, List.setIfInBounds_toArray, List.set_cons_zero, List.set_cons_succ, List.getElem_toArray, List.getElem_cons_zero, List.getElem_cons_succ]
      refine wpN_take (i := 6) (v := ?v29) rfl (by kernel_rfl) (fun _ _ _ h => h) hS (Or.inl ⟨by rfl, ?hy29⟩) ?hr29
      case hy29 => (intro wS hSw; (try dsimp only at hSw); go_simp; (try with_reducible rfl))
      try simp only [Act.put, List.setIfInBounds_toArray, List.set_cons_zero, List.set_cons_succ, List.getElem_toArray, List.getElem_cons_zero, List.getElem_cons_succ]
      refine wpN_take (i := 7) (v := ?v30) rfl (by kernel_rfl) (fun _ _ _ h => h) hS (Or.inl ⟨by rfl, ?hy30⟩) ?hr30
      case hy30 => (intro wS hSw; (try dsimp only at hSw); go_simp; (try with_reducible rfl))
      try simp only [Act.put, List.setIfInBounds_toArray, List.set_cons_zero, List.set_cons_succ, List.getElem_toArray, List.getElem_cons_zero, List.getElem_cons_succ]
      refine wpN_take (i := 8) (v := ?v31) rfl (by kernel_rfl) (fun _ _ _ h => h) hS (Or.inl ⟨by rfl, ?hy31⟩) ?hr31
      case hy31 => (intro wS hSw; (try dsimp only at hSw); go_simp; (try with_reducible rfl))
      try simp only [Act.put, List.setIfInBounds_toArray, List.set_cons_zero, List.set_cons_succ, List.getElem_toArray, List.getElem_cons_zero, List.getElem_cons_succ]
      refine wpN_take (i := 9) (v := ?v32) rfl (by kernel_rfl) (fun _ _ _ h => h) hS (Or.inl ⟨by rfl, ?hy32⟩) ?hr32
      case hy32 => (intro wS hSw; (try dsimp only at hSw); go_simp; (try with_reducible rfl))
      try simp only [Act.put, List.setIfInBounds_toArray, List.set_cons_zero, List.set_cons_succ, List.getElem_toArray, List.getElem_cons_zero, List.getElem_cons_succ]
      refine wpN_step (i := 10) (by kernel_rfl) rfl (fun K hK => ?_)
      go_simp
      refine Hc.out.mono ?_
      rintro e w5 ⟨i', rfl, g1, g2, g3, g4⟩
      have hKp : Keep (fun q => q = bl) wr.drew w5 := g4.keep fun q hq e => by
        subst hq
        rcases e with e | e
        · exact (hr j q (by omega) e).2.1 rfl
        · exact hpU (e ▸ hUb)
      have hnq : ∀ x, ¬ (Us j (w.heap.size + x) ∨ w.heap.size + x = pe) := fun x e => by
        rcases e with e | e
        · have := hUs _ (hr j _ (by omega) e).1; omega
        · omega
      have z0 := g4.blk (y0.drew) (hnq 0)
      have z1 := g4.blk (y1.drew) (hnq 1)
      have HS := Lib.hid (HR.out.step hn hlt (fun h => ⟨hUb, hUbb⟩) hr hd hpU hpl g1 g2 g3 g4)
      have p0 := hKp _ _ _ rfl (show wr.drew.cell? _ = _ from q1)
      have p1 := hKp _ _ _ rfl (show wr.drew.cell? _ = _ from q2)
      have p2 := hKp _ _ _ rfl (show wr.drew.cell? _ = _ from q3)
      have p3 := hKp _ _ _ rfl (show wr.drew.cell? _ = _ from q4)
      have f0 := g3 bl (off + j * 4) (Keep.lt q1) (HP.out _)
      have f1 := g3 bl (off + j * 4 + 1) (Keep.lt q1) (HP.out _)
      have f2 := g3 bl (off + j * 4 + 2) (Keep.lt q1) (HP.out _)
      have f3 := g3 bl (off + j * 4 + 3) (Keep.lt q1) (HP.out _)
      have hS : (w5).cell? ⟨w.heap.size, 3, none⟩ = some (.slice (some ⟨bl, off, none⟩) n c) ∧ (w5).cell? ⟨bl, off + j * 4, none⟩ = some (.slice (PA j) (PN j) (PC j)) ∧ (w5).cell? ⟨bl, off + j * 4 + 1, none⟩ = some (.int .i64 (Kd j)) ∧ (w5).cell? ⟨bl, off + j * 4 + 2, none⟩ = some (.int .i64 (J j)) ∧ (w5).cell? ⟨bl, off + j * 4 + 3, none⟩ = some (.slice (A j) (N j) (C j)) := ⟨z0.cell rfl, p0, p1, p2, p3⟩
      clear g1 g2 g3 g4 HR Hc q1 q2 q3 q4
      refine hK.out _ _ (fun _ => hS) ?_
      clear hK K
      try simp only [Act.put, List.setIfInBounds_toArray, List.set_cons_zero, List.set_cons_succ, List.getElem_toArray, List.getElem_cons_zero, List.getElem_cons_succ]
      refine wpN_take (i := 11) (v := ?v33) rfl (by kernel_rfl) (fun _ _ _ h => h) hS (Or.inl ⟨by rfl, ?hy33⟩) ?hr33
      case hy33 => (intro wS hSw; (try dsimp only at hSw); go_simp; (try with_reducible rfl))
      try simp only [Act.put, List.setIfInBounds_toArray, List.set_cons_zero, List.set_cons_succ, List.getElem_toArray, List.getElem_cons_zero, List.getElem_cons_succ]
      refine wpN_step (i := 12) (by kernel_rfl) rfl (fun K hK => ?_)
      go_simp
      refine hK.out _ _ (fun h => absurd h (by decide)) ?_
      clear hK K
      try simp only [Act.put, List.setIfInBounds_toArray, List.set_cons_zero, List.set_cons_succ, List.getElem_toArray, List.getElem_cons_zero, List.getElem_cons_succ]
      refine wpN_done (by kernel_rfl) ?_
      refine NoPanic.normal ?_
      have hbq : ∀ x, w.heap.size + x ≠ bl := fun x e => by have := hUs _ hUb; omega
      go_wp2_with fail
      refine ⟨⟨j + 1, by go_num, by omega, ?_, ?_, HS.out⟩, by simp [intOf]; omega⟩
      · exact (((z0.far _ _ (hbq 0)).far _ _ (hbq 0)).far _ _ (hbq 0)).far _ _ (hbq 0)
      · exact (((z1.far _ _ (hbq 1)).far _ _ (hbq 1)).far _ _ (hbq 1)).far _ _ (hbq 1)
    · have d0 : wr.cell? ⟨w.heap.size, 0, none⟩ = some (.slice pa binds.length pc) := y0.cell rfl
      have d1 : wr.cell? ⟨w.heap.size, 1, none⟩ = some (.int .i64 2) := y0.cell rfl
      have d2 : wr.cell? ⟨w.heap.size, 2, none⟩ = some (.int .i64 m) := y0.cell rfl
      have d3 : wr.cell? ⟨w.heap.size, 3, none⟩ = some (.slice a n c) := y0.cell rfl
      have r0 : wr.cell? ⟨w.heap.size + 1, 0, none⟩ = some (.slice none 0 0) := y1.cell rfl
      have r1 : wr.cell? ⟨w.heap.size + 1, 1, none⟩ = some (.int .i64 0) := y1.cell rfl
      have r2 : wr.cell? ⟨w.heap.size + 1, 2, none⟩ = some (.int .i64 0) := y1.cell rfl
      have r3 : wr.cell? ⟨w.heap.size + 1, 3, none⟩ = some (.slice none 0 0) := y1.cell rfl
      have f0 := y1.free 0
      have f1 := y1.free 1
      have f2 := y1.free 2
      have f3 := y1.free 3
      have HD := Lib.hid (hR.done hn (by omega) hb hm ha hr hd 2 m)
      have HO := Lib.hid hR.oft
      have HT := Lib.hid hR.thaw
      have hqn : ¬ U (w.heap.size + 1) := fun h => by have := hUs _ h; omega
      have hlj : ¬ (j : Int) < (n : Int) := by omega
      clear hR y0 y1 ih hb
      go_wp2_with fail
      refine bodyPost_ret (v := .agg #[.slice pa binds.length pc, .int .i64 2, .int .i64 m, .slice a n c]) (by simp [results, Try.results42, go_sem, r0, r1, r2, r3]) rfl ?_
      obtain ⟨w9, hw9⟩ : ∃ w9, ((((wr.setCell ⟨w.heap.size + 1, 0, none⟩ (.slice pa binds.length pc)).setCell ⟨w.heap.size + 1, 1, none⟩ (.int .i64 2)).setCell ⟨w.heap.size + 1, 2, none⟩ (.int .i64 m)).setCell ⟨w.heap.size + 1, 3, none⟩ (.slice a n c)) = w9 := ⟨_, rfl⟩
      have hk9 : Keep (fun q => q ≠ w.heap.size + 1) wr w9 := by rw [← hw9]; exact ((((Keep.refl _ _).setCell _ _ (by simp)).setCell _ _ (by simp)).setCell _ _ (by simp)).setCell _ _ (by simp)
      have hf9 : ∀ q o, w9.frozen? ⟨q, o, none⟩ = wr.frozen? ⟨q, o, none⟩ := fun q o => by rw [← hw9]; simp
      have ho9 : Off (fun q => U q ∨ q = pe) w w9 := by
        rw [← hw9]
        exact (((HO.out.set _ _ (.inr (by simp))).set _ _ (.inr (by simp))).set _ _ (.inr (by simp))).set _ _ (.inr (by simp))
      rw [hw9]
      refine ⟨m, rfl, ?_, ?_, fun q o hq hf => (hf9 q o).trans (HT.out q o hq hf), ho9⟩
      · rw [Rn.ren_eq, if_pos rfl, hmm]
        exact HD.out.1.keep (hk9.weaken fun q hq e => hqn (e ▸ hq))
      · rw [Rn.errs_eq, if_pos rfl, IFN.out]
        exact hk9 _ _ _ (by omega) HD.out.2
end Go.Proofs.Ytcblpjheoclkeaa

namespace Go.Proofs.Ytcblpjheoclkeaa
open Go.RowKit

set_option maxRecDepth 100000 in
set_option maxHeartbeats 2000000 in
theorem renamed_d1 (d : Int) (hdd : -9223372036854775808 ≤ d ∧ d ≤ 9223372036854775807) (binds : List Ty) (k i : Int) (args : List Tm) (ih : ∀ t ∈ args, t.Fit → RenOw d t) (hfit : (Tm.mk binds k i args).Fit) (Z U : Nat → Prop) (w : World) (bv kv iv av : Value) (pe : Nat) (e0 : Int) (ht : IsOw Z w U bv kv iv av (.mk binds k i args)) (hUs : ∀ q, U q → q < w.heap.size) (hZ : ∀ q, Z q → q < w.heap.size ∧ ∀ o, w.frozen? ⟨q, o, none⟩ = false) (hpe : w.cell? ⟨pe, 0, none⟩ = some (.int .i64 e0)) (hpf : w.frozen? ⟨pe, 0, none⟩ = false) (hpU : ¬ U pe)  (hk : k = 2) (c1 : Rn.sm i d > 1000) (c2 : e0 = 0) :
    Calls Try.prog 42 #[.agg #[bv, kv, iv, av], .int .i64 d, .pointer (some ⟨pe, 0, none⟩)] w fun e w' => ∃ i', e = .returned (.agg #[bv, kv, .int .i64 i', av]) ∧ IsOw Z w' U bv kv (.int .i64 i') av (Rn.ren d (.mk binds k i args)) ∧ w'.cell? ⟨pe, 0, none⟩ = some (.int .i64 (Rn.errs d (.mk binds k i args) e0)) ∧ Thaw w w' ∧ Off (fun q => U q ∨ q = pe) w w' := by
  cases ht with
  | mk U Ub Us bv k i a n c binds args bl off PA A PN PC N C Kd Ix hb hn hm ha hr hd h1 h2 h3 h4 h5 =>
  obtain ⟨pa, pc, rfl⟩ := hb.shape
  have hpl : pe < w.heap.size := Keep.lt hpe
  obtain ⟨hi0, hi1, hfa⟩ := Tm.fit_iff.1 hfit
  have hnn : n ≤ 9223372036854775807 := by unfold maxLen at hm; omega
  have Hsum := Lib.hid (sum_k i d ⟨hi0, hi1⟩ hdd)
  obtain rfl := hk
  obtain ⟨m, hmm⟩ : ∃ m, Rn.sm i d = m := ⟨_, rfl⟩
  rw [hmm] at Hsum c1
  have IFN : Hid (Rn.note (Rn.sm i d) 0 = 2) := by show _ = _; rw [hmm]; unfold Rn.note Rn.code; rw [if_neg (show ¬ m < 0 by omega), if_pos c1]; rw [if_pos ⟨by decide, .inl rfl⟩]
  have m0 : ¬ m < 0 := by omega
  have c2' := c2
  go_enter Try.func42, Try.ntmps42
  go_wp2_with fail
  obtain ⟨w3, hw3⟩ : ∃ w3, (w.alloc (.cells #[.slice pa binds.length pc, .int .i64 2, .int .i64 i, .slice a n c] 34)).alloc (.cells #[.slice none 0 0, .int .i64 0, .int .i64 0, .slice none 0 0] 34) = w3 := ⟨_, rfl⟩
  try rw [hw3]
  have B3 : Below w.heap.size w w3 := by rw [← hw3]; exact ((Below.refl _ _).alloc (Nat.le_refl _) _).alloc (by simp) _
  have x0 : Blk w3 w.heap.size #[.slice pa binds.length pc, .int .i64 2, .int .i64 i, .slice a n c] 34 := by rw [← hw3]; exact (Blk.new _ _ _ rfl).alloc _
  have x1 : Blk w3 (w.heap.size + 1) #[.slice none 0 0, .int .i64 0, .int .i64 0, .slice none 0 0] 34 := by rw [← hw3]; exact Blk.new _ _ _ (by simp)
  clear hw3
  have P3 : w3.cell? ⟨pe, 0, none⟩ = some (.int .i64 e0) := (B3.cell (p := ⟨pe, 0, none⟩) hpl).trans hpe
  have F3 : w3.frozen? ⟨pe, 0, none⟩ = false := Thaw.below B3 pe 0 hpl hpf
  have k1 : w3.cell? ⟨w.heap.size, 1, none⟩ = some (.int .i64 2) := x0.cell rfl
  have k2 : w3.cell? ⟨w.heap.size, 2, none⟩ = some (.int .i64 i) := x0.cell rfl
  have k3 : w3.cell? ⟨w.heap.size, 3, none⟩ = some (.slice a n c) := x0.cell rfl
  have O3 := Off.of_below (fun q => q = pe) B3
  have T3 := Thaw.below B3
  go_wp2_with fail
  refine (Hsum.out w3).mono ?_
  rintro e w4 ⟨rfl, rfl⟩
  have g2 := x0.free 2
  have hne : (⟨w.heap.size, 2, none⟩ : Addr) ≠ ⟨pe, 0, none⟩ := fun e => by cases e
  obtain ⟨w5, hw5⟩ : ∃ w5, w4.setCell ⟨w.heap.size, 2, none⟩ (.int .i64 m) = w5 := ⟨_, rfl⟩
  have O5 := O3.set ⟨w.heap.size, 2, none⟩ (.int .i64 m) (.inr (Nat.le_refl _))
  have T5 := T3.trans (Thaw.set w4 ⟨w.heap.size, 2, none⟩ (.int .i64 m)) B3.size
  have P5 : (w4.setCell ⟨w.heap.size, 2, none⟩ (.int .i64 m)).cell? ⟨pe, 0, none⟩ = some (.int .i64 e0) := by rw [World.cell?_setCell_other _ _ _ _ hne]; exact P3
  have F5 : (w4.setCell ⟨w.heap.size, 2, none⟩ (.int .i64 m)).frozen? ⟨pe, 0, none⟩ = false := by rw [World.frozen?_setCell]; exact F3
  have y0 := x0.set 2 (.int .i64 m)
  have y1 := x1.far ⟨w.heap.size, 2, none⟩ (.int .i64 m) (by simp)
  have c5 : (w4.setCell ⟨w.heap.size, 2, none⟩ (.int .i64 m)).cell? ⟨w.heap.size, 2, none⟩ = some (.int .i64 m) := World.cell?_setCell_same _ _ _ k2
  have c53 : (w4.setCell ⟨w.heap.size, 2, none⟩ (.int .i64 m)).cell? ⟨w.heap.size, 3, none⟩ = some (.slice a n c) := y0.cell rfl
  have S5 : w.heap.size ≤ (w4.setCell ⟨w.heap.size, 2, none⟩ (.int .i64 m)).heap.size := by simpa using B3.size
  rw [hw5] at O5 T5 P5 F5 y0 y1 c5 c53 S5
  clear x0 x1 B3 O3 T3 P3 F3
  have hpq : ∀ x, w.heap.size + x ≠ pe := fun x => by omega
  obtain ⟨w7, hw7⟩ : ∃ w7, w5.setCell ⟨pe, 0, none⟩ (.int .i64 2) = w7 := ⟨_, rfl⟩
  have O7 := O5.set ⟨pe, 0, none⟩ (.int .i64 2) (.inl rfl)
  have T7 := T5.trans (Thaw.set w5 ⟨pe, 0, none⟩ (.int .i64 2)) S5
  have P7 : (w5.setCell ⟨pe, 0, none⟩ (.int .i64 2)).cell? ⟨pe, 0, none⟩ = some (.int .i64 2) := World.cell?_setCell_same _ _ _ P5
  have y0 := y0.far ⟨pe, 0, none⟩ (.int .i64 2) (hpq 0)
  have y1 := y1.far ⟨pe, 0, none⟩ (.int .i64 2) (hpq 1)
  rw [hw7] at O7 T7 P7 y0 y1
  have c73 : w7.cell? ⟨w.heap.size, 3, none⟩ = some (.slice a n c) := y0.cell rfl
  go_wp2_with fail
  clear hw7 hw5 O5 T5 P5 F5 c5 c53 S5 c73 k1 k2 k3 g2
  have R0 := RInv.start (d := d) (Z := Z) (U := U) (Ub := Ub) (Us := Us) (w7 := w7) hn (fun h => (ha h).2.1) (fun i q hi h => (hr i q hi h).1) hpU h1 h2 h3 h4 h5 O7 T7 P7
  clear O7 T7 P7
  go_loopw [51] (fun ii wr => ∃ j : Nat, ii = .int .i64 j ∧ j ≤ args.length ∧ Blk wr w.heap.size #[.slice pa binds.length pc, .int .i64 2, .int .i64 m, .slice a n c] 34 ∧ Blk wr (w.heap.size + 1) #[.slice none 0 0, .int .i64 0, .int .i64 0, .slice none 0 0] 34 ∧
    RInv d Z U Ub Us bl off n args PA A PN PC N C Kd pe 2 w j wr) (fun ii _ => args.length - (intOf ii).toNat)
  case atStart => exact ⟨0, rfl, by omega, y0, y1, R0⟩
  case round =>
    clear y0 y1 R0
    obtain ⟨j, rfl, hj, y0, y1, hR⟩ := hrel
    by_cases hlt : j < args.length
    · obtain ⟨rfl, hUb, hZb, hUbb⟩ := ha (by omega)
      clear ha
      obtain ⟨J, r5, r6⟩ := hR.cells
      obtain ⟨q1, q2, q3, q4⟩ := r5 j (by omega)
      have r6j := r6 j hlt
      rw [if_neg (by omega)] at r6j
      have hlt0 : (0 : Int) ≤ (j : Int) := Int.natCast_nonneg _
      have hlt1 : (j : Int) < (n : Int) := by omega
      have hsz := hR.oft.size
      have HR := Lib.hid hR.drew
      have Hc := Lib.hid (ih args[j] (List.getElem_mem hlt) (hfa _ (List.getElem_mem hlt)) Z (Us j) wr.drew _ _ _ _ pe _ (r6j.keep (Keep.refl _ _).drew) (fun q hq => Nat.lt_of_lt_of_le (hUs q (hr j q (by omega) hq).1) hsz)
        (fun q hq => ⟨Nat.lt_of_lt_of_le (hZ q hq).1 hsz, fun o => hR.thaw q o (hZ q hq).1 ((hZ q hq).2 o)⟩) hR.e (hR.thaw pe 0 hpl hpf) fun h => hpU (hr j pe (by omega) h).1)
      have HP : Hid (∀ o, wr.frozen? ⟨bl, o, none⟩ = false) := fun o => hR.thaw bl o (hZ bl hZb).1 ((hZ bl hZb).2 o)
      clear r6 r6j r5 hR ih
      go_wp2_with fail
      refine wp_region_noPanic (wp_region_need (S := fun w' => w'.cell? ⟨w.heap.size, 3, none⟩ = some (.slice (some ⟨bl, off, none⟩) n c) ∧ w'.cell? ⟨bl, off + j * 4, none⟩ = some (.slice (PA j) (PN j) (PC j)) ∧ w'.cell? ⟨bl, off + j * 4 + 1, none⟩ = some (.int .i64 (Kd j)) ∧ w'.cell? ⟨bl, off + j * 4 + 2, none⟩ = some (.int .i64 (J j)) ∧ w'.cell? ⟨bl, off + j * 4 + 3, none⟩ = some (.slice (A j) (N j) (C j))) (by kernel_rfl) ?_)
      have hS : (wr.drew).cell? ⟨w.heap.size, 3, none⟩ = some (.slice (some ⟨bl, off, none⟩) n c) ∧ (wr.drew).cell? ⟨bl, off + j * 4, none⟩ = some (.slice (PA j) (PN j) (PC j)) ∧ (wr.drew).cell? ⟨bl, off + j * 4 + 1, none⟩ = some (.int .i64 (Kd j)) ∧ (wr.drew).cell? ⟨bl, off + j * 4 + 2, none⟩ = some (.int .i64 (J j)) ∧ (wr.drew).cell? ⟨bl, off + j * 4 + 3, none⟩ = some (.slice (A j) (N j) (C j)) := ⟨y0.drew.cell rfl, q1, q2, q3, q4⟩
      refine wpN_take (i := 0) (v := ?v1) rfl (by kernel_rfl) (fun _ _ _ h => h) hS (Or.inl ⟨by rfl, ?hy1⟩) ?hr1
      case hy1 => (intro wS hSw; (try dsimp only at hSw); go_simp; (try with_reducible rfl))
      try simp only [Act.put, List.setIfInBounds_toArray, List.set_cons_zero, List.set_cons_succ, List.getElem_toArray, List.getElem_cons_zero, List.getElem_cons_succ]
      refine wpN_take (i := 1) (v := ?v2) rfl (by kernel_rfl) (fun _ _ _ h => h) hS (Or.inl ⟨by rfl, ?hy2⟩) ?hr2
      case hy2 => (intro wS hSw; (try dsimp only at hSw); go_simp; (try with_reducible rfl))
      try simp only [Act.put, List.setIfInBounds_toArray, List.set_cons_zero, List.set_cons_succ, List.getElem_toArray, List.getElem_cons_zero, List.getElem_cons_succ]
      refine wpN_take (i := 2) (v := ?v3) rfl (by kernel_rfl) (fun _ _ _ h => h) hS (Or.inl ⟨by rfl, ?hy3⟩) ?hr3
      case hy3 => (intro wS hSw; (try dsimp only at hSw); go_simp; (try with_reducible rfl))
      try simp only [Act.put, List.setIfInBounds_toArray, List.set_cons_zero, List.set_cons_succ, List.getElem_toArray, List.getElem_cons_zero, List.getElem_cons_succ]
      refine wpN_take (i := 3) (v := ?v4) rfl (by kernel_rfl) (fun _ _ _ h => h) hS (Or.inl ⟨by rfl, ?hy4⟩) ?hr4
      case hy4 => (intro wS hSw; (try dsimp only at hSw); go_simp; (try with_reducible rfl))
      try simp only [Act.put, List.setIfInBounds_toArray, List.set_cons_zero, List.set_cons_succ, List.getElem_toArray, List.getElem_cons_zero, List.getElem_cons_succ]
      refine wpN_take (i := 4) (v := ?v5) rfl (by kernel_rfl) (fun _ _ _ h => h) hS (Or.inl ⟨by rfl, ?hy5⟩) ?hr5
      case hy5 => (intro wS hSw; (try dsimp only at hSw); go_simp; (try with_reducible rfl))
      try simp only [Act.put, List.setIfInBounds_toArray, List.set_cons_zero, List.set_cons_succ, List.getElem_toArray, List.getElem_cons_zero, List.getElem_cons_succ]
      refine wpN_take (i := 5) (v := ?v6) rfl (by kernel_rfl) (fun _ _ _ h => h) hS (Or.inl ⟨by rfl, ?hy6⟩) ?hr6
      case hy6 => (intro wS hSw; (try dsimp only at hSw); go_simp; (try with_reducible rfl))
      try simp only [Act.put, List.setIfInBounds_toArray, List.set_cons_zero, List.set_cons_succ, List.getElem_toArray, List.getElem_cons_zero, List.getElem_cons_succ]
      refine wpN_take (i := 6) (v := ?v7) rfl (by kernel_rfl) (fun _ _ _ h => h) hS (Or.inl ⟨by rfl, ?hy7⟩) ?hr7
      case hy7 => (intro wS hSw; (try dsimp only at hSw); go_simp; (try with_reducible rfl))
      try simp only [Act.put, List.setIfInBounds_toArray, List.set_cons_zero, List.set_cons_succ, List.getElem_toArray, List.getElem_cons_zero, List.getElem_cons_succ]
      refine wpN_take (i := 7) (v := ?v8) rfl (by kernel_rfl) (fun _ _ _ h => h) hS (Or.inl ⟨by rfl, ?hy8⟩) ?hr8
      case hy8 => (intro wS hSw; (try dsimp only at hSw); go_simp; (try with_reducible rfl))
      try simp only [Act.put, List.setIfInBounds_toArray, List.set_cons_zero, List.set_cons_succ, List.getElem_toArray, List.getElem_cons_zero, List.getElem_cons_succ]
      refine wpN_take (i := 8) (v := ?v9) rfl (by kernel_rfl) (fun _ _ _ h => h) hS (Or.inl ⟨by rfl, ?hy9⟩) ?hr9
      case hy9 => (intro wS hSw; (try dsimp only at hSw); go_simp; (try with_reducible rfl))
      try simp only [Act.put, List.setIfInBounds_toArray, List.set_cons_zero, List.set_cons_succ, List.getElem_toArray, List.getElem_cons_zero, List.getElem_cons_succ]
      refine wpN_take (i := 9) (v := ?v10) rfl (by kernel_rfl) (fun _ _ _ h => h) hS (Or.inl ⟨by rfl, ?hy10⟩) ?hr10
      case hy10 => (intro wS hSw; (try dsimp only at hSw); go_simp; (try with_reducible rfl))
      try simp only [Act.put, List.setIfInBounds_toArray, List.set_cons_zero, List.set_cons_succ, List.getElem_toArray, List.getElem_cons_zero, List.getElem_cons_succ]
      refine wpN_step (i := 10) (by kernel_rfl) rfl (fun K hK => ?_)
      go_simp
      refine Hc.out.mono ?_
      rintro e w5 ⟨i', rfl, g1, g2, g3, g4⟩
      have hKp : Keep (fun q => q = bl) wr.drew w5 := g4.keep fun q hq e => by
        subst hq
        rcases e with e | e
        · exact (hr j q (by omega) e).2.1 rfl
        · exact hpU (e ▸ hUb)
      have hnq : ∀ x, ¬ (Us j (w.heap.size + x) ∨ w.heap.size + x = pe) := fun x e => by
        rcases e with e | e
        · have := hUs _ (hr j _ (by omega) e).1; omega
        · omega
      have z0 := g4.blk (y0.drew) (hnq 0)
      have z1 := g4.blk (y1.drew) (hnq 1)
      have HS := Lib.hid (HR.out.step hn hlt (fun h => ⟨hUb, hUbb⟩) hr hd hpU hpl g1 g2 g3 g4)
      have p0 := hKp _ _ _ rfl (show wr.drew.cell? _ = _ from q1)
      have p1 := hKp _ _ _ rfl (show wr.drew.cell? _ = _ from q2)
      have p2 := hKp _ _ _ rfl (show wr.drew.cell? _ = _ from q3)
      have p3 := hKp _ _ _ rfl (show wr.drew.cell? _ = _ from q4)
      have f0 := g3 bl (off + j * 4) (Keep.lt q1) (HP.out _)
      have f1 := g3 bl (off + j * 4 + 1) (Keep.lt q1) (HP.out _)
      have f2 := g3 bl (off + j * 4 + 2) (Keep.lt q1) (HP.out _)
      have f3 := g3 bl (off + j * 4 + 3) (Keep.lt q1) (HP.out _)
      have hS : (w5).cell? ⟨w.heap.size, 3, none⟩ = some (.slice (some ⟨bl, off, none⟩) n c) ∧ (w5).cell? ⟨bl, off + j * 4, none⟩ = some (.slice (PA j) (PN j) (PC j)) ∧ (w5).cell? ⟨bl, off + j * 4 + 1, none⟩ = some (.int .i64 (Kd j)) ∧ (w5).cell? ⟨bl, off + j * 4 + 2, none⟩ = some (.int .i64 (J j)) ∧ (w5).cell? ⟨bl, off + j * 4 + 3, none⟩ = some (.slice (A j) (N j) (C j)) := ⟨z0.cell rfl, p0, p1, p2, p3⟩
      clear g1 g2 g3 g4 HR Hc q1 q2 q3 q4
      refine hK.out _ _ (fun _ => hS) ?_
      clear hK K
      try simp only [Act.put, List.setIfInBounds_toArray, List.set_cons_zero, List.set_cons_succ, List.getElem_toArray, List.getElem_cons_zero, List.getElem_cons_succ]
      refine wpN_take (i := 11) (v := ?v11) rfl (by kernel_rfl) (fun _ _ _ h => h) hS (Or.inl ⟨by rfl, ?hy11⟩) ?hr11
      case hy11 => (intro wS hSw; (try dsimp only at hSw); go_simp; (try with_reducible rfl))
      try simp only [Act.put, List.setIfInBounds_toArray, List.set_cons_zero, List.set_cons_succ, List.getElem_toArray, List.getElem_cons_zero, List.getElem_cons_succ]
      refine wpN_step (i := 12) (by kernel_rfl) rfl (fun K hK => ?_)
      go_simp
      refine hK.out _ _ (fun h => absurd h (by decide)) ?_
      clear hK K
      try simp only [Act.put, List.setIfInBounds_toArray, List.set_cons_zero, List.set_cons_succ, List.getElem_toArray, List.getElem_cons_zero, List.getElem_cons_succ]
      refine wpN_done (by kernel_rfl) ?_
      refine NoPanic.normal ?_
      have hbq : ∀ x, w.heap.size + x ≠ bl := fun x e => by have := hUs _ hUb; omega
      go_wp2_with fail
      refine ⟨⟨j + 1, by go_num, by omega, ?_, ?_, HS.out⟩, by simp [intOf]; omega⟩
      · exact (((z0.far _ _ (hbq 0)).far _ _ (hbq 0)).far _ _ (hbq 0)).far _ _ (hbq 0)
      · exact (((z1.far _ _ (hbq 1)).far _ _ (hbq 1)).far _ _ (hbq 1)).far _ _ (hbq 1)
    · have d0 : wr.cell? ⟨w.heap.size, 0, none⟩ = some (.slice pa binds.length pc) := y0.cell rfl
      have d1 : wr.cell? ⟨w.heap.size, 1, none⟩ = some (.int .i64 2) := y0.cell rfl
      have d2 : wr.cell? ⟨w.heap.size, 2, none⟩ = some (.int .i64 m) := y0.cell rfl
      have d3 : wr.cell? ⟨w.heap.size, 3, none⟩ = some (.slice a n c) := y0.cell rfl
      have r0 : wr.cell? ⟨w.heap.size + 1, 0, none⟩ = some (.slice none 0 0) := y1.cell rfl
      have r1 : wr.cell? ⟨w.heap.size + 1, 1, none⟩ = some (.int .i64 0) := y1.cell rfl
      have r2 : wr.cell? ⟨w.heap.size + 1, 2, none⟩ = some (.int .i64 0) := y1.cell rfl
      have r3 : wr.cell? ⟨w.heap.size + 1, 3, none⟩ = some (.slice none 0 0) := y1.cell rfl
      have f0 := y1.free 0
      have f1 := y1.free 1
      have f2 := y1.free 2
      have f3 := y1.free 3
      have HD := Lib.hid (hR.done hn (by omega) hb hm ha hr hd 2 m)
      have HO := Lib.hid hR.oft
      have HT := Lib.hid hR.thaw
      have hqn : ¬ U (w.heap.size + 1) := fun h => by have := hUs _ h; omega
      have hlj : ¬ (j : Int) < (n : Int) := by omega
      clear hR y0 y1 ih hb
      go_wp2_with fail
      refine bodyPost_ret (v := .agg #[.slice pa binds.length pc, .int .i64 2, .int .i64 m, .slice a n c]) (by simp [results, Try.results42, go_sem, r0, r1, r2, r3]) rfl ?_
      obtain ⟨w9, hw9⟩ : ∃ w9, ((((wr.setCell ⟨w.heap.size + 1, 0, none⟩ (.slice pa binds.length pc)).setCell ⟨w.heap.size + 1, 1, none⟩ (.int .i64 2)).setCell ⟨w.heap.size + 1, 2, none⟩ (.int .i64 m)).setCell ⟨w.heap.size + 1, 3, none⟩ (.slice a n c)) = w9 := ⟨_, rfl⟩
      have hk9 : Keep (fun q => q ≠ w.heap.size + 1) wr w9 := by rw [← hw9]; exact ((((Keep.refl _ _).setCell _ _ (by simp)).setCell _ _ (by simp)).setCell _ _ (by simp)).setCell _ _ (by simp)
      have hf9 : ∀ q o, w9.frozen? ⟨q, o, none⟩ = wr.frozen? ⟨q, o, none⟩ := fun q o => by rw [← hw9]; simp
      have ho9 : Off (fun q => U q ∨ q = pe) w w9 := by
        rw [← hw9]
        exact (((HO.out.set _ _ (.inr (by simp))).set _ _ (.inr (by simp))).set _ _ (.inr (by simp))).set _ _ (.inr (by simp))
      rw [hw9]
      refine ⟨m, rfl, ?_, ?_, fun q o hq hf => (hf9 q o).trans (HT.out q o hq hf), ho9⟩
      · rw [Rn.ren_eq, if_pos rfl, hmm]
        exact HD.out.1.keep (hk9.weaken fun q hq e => hqn (e ▸ hq))
      · rw [Rn.errs_eq, if_pos rfl, IFN.out]
        exact hk9 _ _ _ (by omega) HD.out.2
set_option maxRecDepth 100000 in
set_option maxHeartbeats 2000000 in
theorem renamed_d2 (d : Int) (hdd : -9223372036854775808 ≤ d ∧ d ≤ 9223372036854775807) (binds : List Ty) (k i : Int) (args : List Tm) (ih : ∀ t ∈ args, t.Fit → RenOw d t) (hfit : (Tm.mk binds k i args).Fit) (Z U : Nat → Prop) (w : World) (bv kv iv av : Value) (pe : Nat) (e0 : Int) (ht : IsOw Z w U bv kv iv av (.mk binds k i args)) (hUs : ∀ q, U q → q < w.heap.size) (hZ : ∀ q, Z q → q < w.heap.size ∧ ∀ o, w.frozen? ⟨q, o, none⟩ = false) (hpe : w.cell? ⟨pe, 0, none⟩ = some (.int .i64 e0)) (hpf : w.frozen? ⟨pe, 0, none⟩ = false) (hpU : ¬ U pe)  (hk : k = 2) (c1 : Rn.sm i d > 1000) (c2 : ¬ e0 = 0 ∧ 2 < e0) :
    Calls Try.prog 42 #[.agg #[bv, kv, iv, av], .int .i64 d, .pointer (some ⟨pe, 0, none⟩)] w fun e w' => ∃ i', e = .returned (.agg #[bv, kv, .int .i64 i', av]) ∧ IsOw Z w' U bv kv (.int .i64 i') av (Rn.ren d (.mk binds k i args)) ∧ w'.cell? ⟨pe, 0, none⟩ = some (.int .i64 (Rn.errs d (.mk binds k i args) e0)) ∧ Thaw w w' ∧ Off (fun q => U q ∨ q = pe) w w' := by
  cases ht with
  | mk U Ub Us bv k i a n c binds args bl off PA A PN PC N C Kd Ix hb hn hm ha hr hd h1 h2 h3 h4 h5 =>
  obtain ⟨pa, pc, rfl⟩ := hb.shape
  have hpl : pe < w.heap.size := Keep.lt hpe
  obtain ⟨hi0, hi1, hfa⟩ := Tm.fit_iff.1 hfit
  have hnn : n ≤ 9223372036854775807 := by unfold maxLen at hm; omega
  have Hsum := Lib.hid (sum_k i d ⟨hi0, hi1⟩ hdd)
  obtain rfl := hk
  obtain ⟨m, hmm⟩ : ∃ m, Rn.sm i d = m := ⟨_, rfl⟩
  rw [hmm] at Hsum c1
  have IFN : Hid (Rn.note (Rn.sm i d) e0 = 2) := by show _ = _; rw [hmm]; unfold Rn.note Rn.code; rw [if_neg (show ¬ m < 0 by omega), if_pos c1]; rw [if_pos ⟨by decide, .inr c2.2⟩]
  have m0 : ¬ m < 0 := by omega
  obtain ⟨e1, e2⟩ := c2
  have c2 := And.intro e1 e2
  have e3 : (e0 == 0) = false := by simpa using e1
  go_enter Try.func42, Try.ntmps42
  go_wp2_with fail
  obtain ⟨w3, hw3⟩ : ∃ w3, (w.alloc (.cells #[.slice pa binds.length pc, .int .i64 2, .int .i64 i, .slice a n c] 34)).alloc (.cells #[.slice none 0 0, .int .i64 0, .int .i64 0, .slice none 0 0] 34) = w3 := ⟨_, rfl⟩
  try rw [hw3]
  have B3 : Below w.heap.size w w3 := by rw [← hw3]; exact ((Below.refl _ _).alloc (Nat.le_refl _) _).alloc (by simp) _
  have x0 : Blk w3 w.heap.size #[.slice pa binds.length pc, .int .i64 2, .int .i64 i, .slice a n c] 34 := by rw [← hw3]; exact (Blk.new _ _ _ rfl).alloc _
  have x1 : Blk w3 (w.heap.size + 1) #[.slice none 0 0, .int .i64 0, .int .i64 0, .slice none 0 0] 34 := by rw [← hw3]; exact Blk.new _ _ _ (by simp)
  clear hw3
  have P3 : w3.cell? ⟨pe, 0, none⟩ = some (.int .i64 e0) := (B3.cell (p := ⟨pe, 0, none⟩) hpl).trans hpe
  have F3 : w3.frozen? ⟨pe, 0, none⟩ = false := Thaw.below B3 pe 0 hpl hpf
  have k1 : w3.cell? ⟨w.heap.size, 1, none⟩ = some (.int .i64 2) := x0.cell rfl
  have k2 : w3.cell? ⟨w.heap.size, 2, none⟩ = some (.int .i64 i) := x0.cell rfl
  have k3 : w3.cell? ⟨w.heap.size, 3, none⟩ = some (.slice a n c) := x0.cell rfl
  have O3 := Off.of_below (fun q => q = pe) B3
  have T3 := Thaw.below B3
  go_wp2_with fail
  refine (Hsum.out w3).mono ?_
  rintro e w4 ⟨rfl, rfl⟩
  have g2 := x0.free 2
  have hne : (⟨w.heap.size, 2, none⟩ : Addr) ≠ ⟨pe, 0, none⟩ := fun e => by cases e
  obtain ⟨w5, hw5⟩ : ∃ w5, w4.setCell ⟨w.heap.size, 2, none⟩ (.int .i64 m) = w5 := ⟨_, rfl⟩
  have O5 := O3.set ⟨w.heap.size, 2, none⟩ (.int .i64 m) (.inr (Nat.le_refl _))
  have T5 := T3.trans (Thaw.set w4 ⟨w.heap.size, 2, none⟩ (.int .i64 m)) B3.size
  have P5 : (w4.setCell ⟨w.heap.size, 2, none⟩ (.int .i64 m)).cell? ⟨pe, 0, none⟩ = some (.int .i64 e0) := by rw [World.cell?_setCell_other _ _ _ _ hne]; exact P3
  have F5 : (w4.setCell ⟨w.heap.size, 2, none⟩ (.int .i64 m)).frozen? ⟨pe, 0, none⟩ = false := by rw [World.frozen?_setCell]; exact F3
  have y0 := x0.set 2 (.int .i64 m)
  have y1 := x1.far ⟨w.heap.size, 2, none⟩ (.int .i64 m) (by simp)
  have c5 : (w4.setCell ⟨w.heap.size, 2, none⟩ (.int .i64 m)).cell? ⟨w.heap.size, 2, none⟩ = some (.int .i64 m) := World.cell?_setCell_same _ _ _ k2
  have c53 : (w4.setCell ⟨w.heap.size, 2, none⟩ (.int .i64 m)).cell? ⟨w.heap.size, 3, none⟩ = some (.slice a n c) := y0.cell rfl
  have S5 : w.heap.size ≤ (w4.setCell ⟨w.heap.size, 2, none⟩ (.int .i64 m)).heap.size := by simpa using B3.size
  rw [hw5] at O5 T5 P5 F5 y0 y1 c5 c53 S5
  clear x0 x1 B3 O3 T3 P3 F3
  have hpq : ∀ x, w.heap.size + x ≠ pe := fun x => by omega
  obtain ⟨w7, hw7⟩ : ∃ w7, w5.setCell ⟨pe, 0, none⟩ (.int .i64 2) = w7 := ⟨_, rfl⟩
  have O7 := O5.set ⟨pe, 0, none⟩ (.int .i64 2) (.inl rfl)
  have T7 := T5.trans (Thaw.set w5 ⟨pe, 0, none⟩ (.int .i64 2)) S5
  have P7 : (w5.setCell ⟨pe, 0, none⟩ (.int .i64 2)).cell? ⟨pe, 0, none⟩ = some (.int .i64 2) := World.cell?_setCell_same _ _ _ P5
  have y0 := y0.far ⟨pe, 0, none⟩ (.int .i64 2) (hpq 0)
  have y1 := y1.far ⟨pe, 0, none⟩ (.int .i64 2) (hpq 1)
  rw [hw7] at O7 T7 P7 y0 y1
  have c73 : w7.cell? ⟨w.heap.size, 3, none⟩ = some (.slice a n c) := y0.cell rfl
  go_wp2_with fail
  clear hw7 hw5 O5 T5 P5 F5 c5 c53 S5 c73 k1 k2 k3 g2
  have R0 := RInv.start (d := d) (Z := Z) (U := U) (Ub := Ub) (Us := Us) (w7 := w7) hn (fun h => (ha h).2.1) (fun i q hi h => (hr i q hi h).1) hpU h1 h2 h3 h4 h5 O7 T7 P7
  clear O7 T7 P7
  go_loopw [51] (fun ii wr => ∃ j : Nat, ii = .int .i64 j ∧ j ≤ args.length ∧ Blk wr w.heap.size #[.slice pa binds.length pc, .int .i64 2, .int .i64 m, .slice a n c] 34 ∧ Blk wr (w.heap.size + 1) #[.slice none 0 0, .int .i64 0, .int .i64 0, .slice none 0 0] 34 ∧
    RInv d Z U Ub Us bl off n args PA A PN PC N C Kd pe 2 w j wr) (fun ii _ => args.length - (intOf ii).toNat)
  case atStart => exact ⟨0, rfl, by omega, y0, y1, R0⟩
  case round =>
    clear y0 y1 R0
    obtain ⟨j, rfl, hj, y0, y1, hR⟩ := hrel
    by_cases hlt : j < args.length
    · obtain ⟨rfl, hUb, hZb, hUbb⟩ := ha (by omega)
      clear ha
      obtain ⟨J, r5, r6⟩ := hR.cells
      obtain ⟨q1, q2, q3, q4⟩ := r5 j (by omega)
      have r6j := r6 j hlt
      rw [if_neg (by omega)] at r6j
      have hlt0 : (0 : Int) ≤ (j : Int) := Int.natCast_nonneg _
      have hlt1 : (j : Int) < (n : Int) := by omega
      have hsz := hR.oft.size
      have HR := Lib.hid hR.drew
      have Hc := Lib.hid (ih args[j] (List.getElem_mem hlt) (hfa _ (List.getElem_mem hlt)) Z (Us j) wr.drew _ _ _ _ pe _ (r6j.keep (Keep.refl _ _).drew) (fun q hq => Nat.lt_of_lt_of_le (hUs q (hr j q (by omega) hq).1) hsz)
        (fun q hq => ⟨Nat.lt_of_lt_of_le (hZ q hq).1 hsz, fun o => hR.thaw q o (hZ q hq).1 ((hZ q hq).2 o)⟩) hR.e (hR.thaw pe 0 hpl hpf) fun h => hpU (hr j pe (by omega) h).1)
      have HP : Hid (∀ o, wr.frozen? ⟨bl, o, none⟩ = false) := fun o => hR.thaw bl o (hZ bl hZb).1 ((hZ bl hZb).2 o)
      clear r6 r6j r5 hR ih
      go_wp2_with fail
      refine wp_region_noPanic (wp_region_need (S := fun w' => w'.cell? ⟨w.heap.size, 3, none⟩ = some (.slice (some ⟨bl, off, none⟩) n c) ∧ w'.cell? ⟨bl, off + j * 4, none⟩ = some (.slice (PA j) (PN j) (PC j)) ∧ w'.cell? ⟨bl, off + j * 4 + 1, none⟩ = some (.int .i64 (Kd j)) ∧ w'.cell? ⟨bl, off + j * 4 + 2, none⟩ = some (.int .i64 (J j)) ∧ w'.cell? ⟨bl, off + j * 4 + 3, none⟩ = some (.slice (A j) (N j) (C j))) (by kernel_rfl) ?_)
      have hS : (wr.drew).cell? ⟨w.heap.size, 3, none⟩ = some (.slice (some ⟨bl, off, none⟩) n c) ∧ (wr.drew).cell? ⟨bl, off + j * 4, none⟩ = some (.slice (PA j) (PN j) (PC j)) ∧ (wr.drew).cell? ⟨bl, off + j * 4 + 1, none⟩ = some (.int .i64 (Kd j)) ∧ (wr.drew).cell? ⟨bl, off + j * 4 + 2, none⟩ = some (.int .i64 (J j)) ∧ (wr.drew).cell? ⟨bl, off + j * 4 + 3, none⟩ = some (.slice (A j) (N j) (C j)) := ⟨y0.drew.cell rfl, q1, q2, q3, q4⟩
      refine wpN_take (i := 0) (v := ?v12) rfl (by kernel_rfl) (fun _ _ _ h => h) hS (Or.inl ⟨by rfl, ?hy12⟩) ?hr12
      case hy12 => (intro wS hSw; (try dsimp only at hSw); go_simp; (try with_reducible rfl))
      try simp only [Act.put, List.setIfInBounds_toArray, List.set_cons_zero, List.set_cons_succ, List.getElem_toArray, List.getElem_cons_zero, List.getElem_cons_succ]
      refine wpN_take (i := 1) (v := ?v13) rfl (by kernel_rfl) (fun _ _ _ h => h) hS (Or.inl ⟨by rfl, ?hy13⟩) ?hr13
      case hy13 => (intro wS hSw; (try dsimp only at hSw); go_simp; (try with_reducible rfl))
      try simp only [Act.put, List.setIfInBounds_toArray, List.set_cons_zero, List.set_cons_succ, List.getElem_toArray, List.getElem_cons_zero, List.getElem_cons_succ]
      refine wpN_take (i := 2) (v := ?v14) rfl (by kernel_rfl) (fun _ _ _ h => h) hS (Or.inl ⟨by rfl, ?hy14⟩) ?hr14
      case hy14 => (intro wS hSw; (try dsimp only at hSw); go_simp; (try with_reducible rfl))
      try simp only [Act.put, List.setIfInBounds_toArray, List.set_cons_zero, List.set_cons_succ, List.getElem_toArray, List.getElem_cons_zero, List.getElem_cons_succ]
      refine wpN_take (i := 3) (v := ?v15) rfl (by kernel_rfl) (fun _ _ _ h => h) hS (Or.inl ⟨by rfl, ?hy15⟩) ?hr15
      case hy15 => (intro wS hSw; (try dsimp only at hSw); go_simp; (try with_reducible rfl))
      try simp only [Act.put, List.setIfInBounds_toArray, List.set_cons_zero, List.set_cons_succ, List.getElem_toArray, List.getElem_cons_zero, List.getElem_cons_succ]
      refine wpN_take (i := 4) (v := ?v16) rfl (by kernel_rfl) (fun _ _ _ h => h) hS (Or.inl ⟨by rfl, ?hy16⟩) ?hr16
      case hy16 => (intro wS hSw; (try dsimp only at hSw); go_simp; (try with_reducible rfl))
      try simp only [Act.put, List.setIfInBounds_toArray, List.set_cons_zero, List.set_cons_succ, List.getElem_toArray, List.getElem_cons_zero, List.getElem_cons_succ]
      refine wpN_take (i := 5) (v := ?v17) rfl (by kernel_rfl) (fun _ _ _ h => h) hS (Or.inl ⟨by rfl, ?hy17⟩) ?hr17
      case hy17 => (intro wS hSw; (try dsimp only at hSw); go_simp; (try with_reducible rfl))
      try simp only [Act.put, List.setIfInBounds_toArray, List.set_cons_zero, List.set_cons_succ, List.getElem_toArray, List.getElem_cons_zero, List.getElem_cons_succ]
      refine wpN_take (i := 6) (v := ?v18) rfl (by kernel_rfl) (fun _ _ _ h => h) hS (Or.inl ⟨by rfl, ?hy18⟩) ?hr18
      case hy18 => (intro wS hSw; (try dsimp only at hSw); go_simp; (try with_reducible rfl))
      try simp only [Act.put, List.setIfInBounds_toArray, List.set_cons_zero, List.set_cons_succ, List.getElem_toArray, List.getElem_cons_zero, List.getElem_cons_succ]
      refine wpN_take (i := 7) (v := ?v19) rfl (by kernel_rfl) (fun _ _ _ h => h) hS (Or.inl ⟨by rfl, ?hy19⟩) ?hr19
      case hy19 => (intro wS hSw; (try dsimp only at hSw); go_simp; (try with_reducible rfl))
      try simp only [Act.put, List.setIfInBounds_toArray, List.set_cons_zero, List.set_cons_succ, List.getElem_toArray, List.getElem_cons_zero, List.getElem_cons_succ]
      refine wpN_take (i := 8) (v := ?v20) rfl (by kernel_rfl) (fun _ _ _ h => h) hS (Or.inl ⟨by rfl, ?hy20⟩) ?hr20
      case hy20 => (intro wS hSw; (try dsimp only at hSw); go_simp; (try with_reducible rfl))
      try simp only [Act.put, List.setIfInBounds_toArray, List.set_cons_zero, List.set_cons_succ, List.getElem_toArray, List.getElem_cons_zero, List.getElem_cons_succ]
      refine wpN_take (i := 9) (v := ?v21) rfl (by kernel_rfl) (fun _ _ _ h => h) hS (Or.inl ⟨by rfl, ?hy21⟩) ?hr21
      case hy21 => (intro wS hSw; (try dsimp only at hSw); go_simp; (try with_reducible rfl))
      try simp only [Act.put, List.setIfInBounds_toArray, List.set_cons_zero, List.set_cons_succ, List.getElem_toArray, List.getElem_cons_zero, List.getElem_cons_succ]
      refine wpN_step (i := 10) (by kernel_rfl) rfl (fun K hK => ?_)
      go_simp
      refine Hc.out.mono ?_
      rintro e w5 ⟨i', rfl, g1, g2, g3, g4⟩
      have hKp : Keep (fun q => q = bl) wr.drew w5 := g4.keep fun q hq e => by
        subst hq
        rcases e with e | e
        · exact (hr j q (by omega) e).2.1 rfl
        · exact hpU (e ▸ hUb)
      have hnq : ∀ x, ¬ (Us j (w.heap.size + x) ∨ w.heap.size + x = pe) := fun x e => by
        rcases e with e | e
        · have := hUs _ (hr j _ (by omega) e).1; omega
        · omega
      have z0 := g4.blk (y0.drew) (hnq 0)
      have z1 := g4.blk (y1.drew) (hnq 1)
      have HS := Lib.hid (HR.out.step hn hlt (fun h => ⟨hUb, hUbb⟩) hr hd hpU hpl g1 g2 g3 g4)
      have p0 := hKp _ _ _ rfl (show wr.drew.cell? _ = _ from q1)
      have p1 := hKp _ _ _ rfl (show wr.drew.cell? _ = _ from q2)
      have p2 := hKp _ _ _ rfl (show wr.drew.cell? _ = _ from q3)
      have p3 := hKp _ _ _ rfl (show wr.drew.cell? _ = _ from q4)
      have f0 := g3 bl (off + j * 4) (Keep.lt q1) (HP.out _)
      have f1 := g3 bl (off + j * 4 + 1) (Keep.lt q1) (HP.out _)
      have f2 := g3 bl (off + j * 4 + 2) (Keep.lt q1) (HP.out _)
      have f3 := g3 bl (off + j * 4 + 3) (Keep.lt q1) (HP.out _)
      have hS : (w5).cell? ⟨w.heap.size, 3, none⟩ = some (.slice (some ⟨bl, off, none⟩) n c) ∧ (w5).cell? ⟨bl, off + j * 4, none⟩ = some (.slice (PA j) (PN j) (PC j)) ∧ (w5).cell? ⟨bl, off + j * 4 + 1, none⟩ = some (.int .i64 (Kd j)) ∧ (w5).cell? ⟨bl, off + j * 4 + 2, none⟩ = some (.int .i64 (J j)) ∧ (w5).cell? ⟨bl, off + j * 4 + 3, none⟩ = some (.slice (A j) (N j) (C j)) := ⟨z0.cell rfl, p0, p1, p2, p3⟩
      clear g1 g2 g3 g4 HR Hc q1 q2 q3 q4
      refine hK.out _ _ (fun _ => hS) ?_
      clear hK K
      try simp only [Act.put, List.setIfInBounds_toArray, List.set_cons_zero, List.set_cons_succ, List.getElem_toArray, List.getElem_cons_zero, List.getElem_cons_succ]
      refine wpN_take (i := 11) (v := ?v22) rfl (by kernel_rfl) (fun _ _ _ h => h) hS (Or.inl ⟨by rfl, ?hy22⟩) ?hr22
      case hy22 => (intro wS hSw; (try dsimp only at hSw); go_simp; (try with_reducible rfl))
      try simp only [Act.put, List.setIfInBounds_toArray, List.set_cons_zero, List.set_cons_succ, List.getElem_toArray, List.getElem_cons_zero, List.getElem_cons_succ]
      refine wpN_step (i := 12) (by kernel_rfl) rfl (fun K hK => ?_)
      go_simp
      refine hK.out _ _ (fun h => absurd h (by decide)) ?_
      clear hK K
      try simp only [Act.put, List.setIfInBounds_toArray, List.set_cons_zero, List.set_cons_succ, List.getElem_toArray, List.getElem_cons_zero, List.getElem_cons_succ]
      refine wpN_done (by kernel_rfl) ?_
      refine NoPanic.normal ?_
      have hbq : ∀ x, w.heap.size + x ≠ bl := fun x e => by have := hUs _ hUb; omega
      go_wp2_with fail
      refine ⟨⟨j + 1, by go_num, by omega, ?_, ?_, HS.out⟩, by simp [intOf]; omega⟩
      · exact (((z0.far _ _ (hbq 0)).far _ _ (hbq 0)).far _ _ (hbq 0)).far _ _ (hbq 0)
      · exact (((z1.far _ _ (hbq 1)).far _ _ (hbq 1)).far _ _ (hbq 1)).far _ _ (hbq 1)
    · have d0 : wr.cell? ⟨w.heap.size, 0, none⟩ = some (.slice pa binds.length pc) := y0.cell rfl
      have d1 : wr.cell? ⟨w.heap.size, 1, none⟩ = some (.int .i64 2) := y0.cell rfl
      have d2 : wr.cell? ⟨w.heap.size, 2, none⟩ = some (.int .i64 m) := y0.cell rfl
      have d3 : wr.cell? ⟨w.heap.size, 3, none⟩ = some (.slice a n c) := y0.cell rfl
      have r0 : wr.cell? ⟨w.heap.size + 1, 0, none⟩ = some (.slice none 0 0) := y1.cell rfl
      have r1 : wr.cell? ⟨w.heap.size + 1, 1, none⟩ = some (.int .i64 0) := y1.cell rfl
      have r2 : wr.cell? ⟨w.heap.size + 1, 2, none⟩ = some (.int .i64 0) := y1.cell rfl
      have r3 : wr.cell? ⟨w.heap.size + 1, 3, none⟩ = some (.slice none 0 0) := y1.cell rfl
      have f0 := y1.free 0
      have f1 := y1.free 1
      have f2 := y1.free 2
      have f3 := y1.free 3
      have HD := Lib.hid (hR.done hn (by omega) hb hm ha hr hd 2 m)
      have HO := Lib.hid hR.oft
      have HT := Lib.hid hR.thaw
      have hqn : ¬ U (w.heap.size + 1) := fun h => by have := hUs _ h; omega
      have hlj : ¬ (j : Int) < (n : Int) := by omega
      clear hR y0 y1 ih hb
      go_wp2_with fail
      refine bodyPost_ret (v := .agg #[.slice pa binds.length pc, .int .i64 2, .int .i64 m, .slice a n c]) (by simp [results, Try.results42, go_sem, r0, r1, r2, r3]) rfl ?_
      obtain ⟨w9, hw9⟩ : ∃ w9, ((((wr.setCell ⟨w.heap.size + 1, 0, none⟩ (.slice pa binds.length pc)).setCell ⟨w.heap.size + 1, 1, none⟩ (.int .i64 2)).setCell ⟨w.heap.size + 1, 2, none⟩ (.int .i64 m)).setCell ⟨w.heap.size + 1, 3, none⟩ (.slice a n c)) = w9 := ⟨_, rfl⟩
      have hk9 : Keep (fun q => q ≠ w.heap.size + 1) wr w9 := by rw [← hw9]; exact ((((Keep.refl _ _).setCell _ _ (by simp)).setCell _ _ (by simp)).setCell _ _ (by simp)).setCell _ _ (by simp)
      have hf9 : ∀ q o, w9.frozen? ⟨q, o, none⟩ = wr.frozen? ⟨q, o, none⟩ := fun q o => by rw [← hw9]; simp
      have ho9 : Off (fun q => U q ∨ q = pe) w w9 := by
        rw [← hw9]
        exact (((HO.out.set _ _ (.inr (by simp))).set _ _ (.inr (by simp))).set _ _ (.inr (by simp))).set _ _ (.inr (by simp))
      rw [hw9]
      refine ⟨m, rfl, ?_, ?_, fun q o hq hf => (hf9 q o).trans (HT.out q o hq hf), ho9⟩
      · rw [Rn.ren_eq, if_pos rfl, hmm]
        exact HD.out.1.keep (hk9.weaken fun q hq e => hqn (e ▸ hq))
      · rw [Rn.errs_eq, if_pos rfl, IFN.out]
        exact hk9 _ _ _ (by omega) HD.out.2
set_option maxRecDepth 100000 in
set_option maxHeartbeats 2000000 in
theorem renamed_d3 (d : Int) (hdd : -9223372036854775808 ≤ d ∧ d ≤ 9223372036854775807) (binds : List Ty) (k i : Int) (args : List Tm) (ih : ∀ t ∈ args, t.Fit → RenOw d t) (hfit : (Tm.mk binds k i args).Fit) (Z U : Nat → Prop) (w : World) (bv kv iv av : Value) (pe : Nat) (e0 : Int) (ht : IsOw Z w U bv kv iv av (.mk binds k i args)) (hUs : ∀ q, U q → q < w.heap.size) (hZ : ∀ q, Z q → q < w.heap.size ∧ ∀ o, w.frozen? ⟨q, o, none⟩ = false) (hpe : w.cell? ⟨pe, 0, none⟩ = some (.int .i64 e0)) (hpf : w.frozen? ⟨pe, 0, none⟩ = false) (hpU : ¬ U pe)  (hk : k = 2) (c1 : Rn.sm i d > 1000) (c2 : ¬ e0 = 0 ∧ ¬ 2 < e0) :
    Calls Try.prog 42 #[.agg #[bv, kv, iv, av], .int .i64 d, .pointer (some ⟨pe, 0, none⟩)] w fun e w' => ∃ i', e = .returned (.agg #[bv, kv, .int .i64 i', av]) ∧ IsOw Z w' U bv kv (.int .i64 i') av (Rn.ren d (.mk binds k i args)) ∧ w'.cell? ⟨pe, 0, none⟩ = some (.int .i64 (Rn.errs d (.mk binds k i args) e0)) ∧ Thaw w w' ∧ Off (fun q => U q ∨ q = pe) w w' := by
  cases ht with
  | mk U Ub Us bv k i a n c binds args bl off PA A PN PC N C Kd Ix hb hn hm ha hr hd h1 h2 h3 h4 h5 =>
  obtain ⟨pa, pc, rfl⟩ := hb.shape
  have hpl : pe < w.heap.size := Keep.lt hpe
  obtain ⟨hi0, hi1, hfa⟩ := Tm.fit_iff.1 hfit
  have hnn : n ≤ 9223372036854775807 := by unfold maxLen at hm; omega
  have Hsum := Lib.hid (sum_k i d ⟨hi0, hi1⟩ hdd)
  obtain rfl := hk
  obtain ⟨m, hmm⟩ : ∃ m, Rn.sm i d = m := ⟨_, rfl⟩
  rw [hmm] at Hsum c1
  have IFN : Hid (Rn.note (Rn.sm i d) e0 = e0) := by show _ = _; rw [hmm]; unfold Rn.note Rn.code; rw [if_neg (show ¬ m < 0 by omega), if_pos c1]; rw [if_neg (fun h => h.2.elim c2.1 c2.2)]
  have m0 : ¬ m < 0 := by omega
  obtain ⟨e1, e2⟩ := c2
  have c2 := And.intro e1 e2
  have e3 : (e0 == 0) = false := by simpa using e1
  go_enter Try.func42, Try.ntmps42
  go_wp2_with fail
  obtain ⟨w3, hw3⟩ : ∃ w3, (w.alloc (.cells #[.slice pa binds.length pc, .int .i64 2, .int .i64 i, .slice a n c] 34)).alloc (.cells #[.slice none 0 0, .int .i64 0, .int .i64 0, .slice none 0 0] 34) = w3 := ⟨_, rfl⟩
  try rw [hw3]
  have B3 : Below w.heap.size w w3 := by rw [← hw3]; exact ((Below.refl _ _).alloc (Nat.le_refl _) _).alloc (by simp) _
  have x0 : Blk w3 w.heap.size #[.slice pa binds.length pc, .int .i64 2, .int .i64 i, .slice a n c] 34 := by rw [← hw3]; exact (Blk.new _ _ _ rfl).alloc _
  have x1 : Blk w3 (w.heap.size + 1) #[.slice none 0 0, .int .i64 0, .int .i64 0, .slice none 0 0] 34 := by rw [← hw3]; exact Blk.new _ _ _ (by simp)
  clear hw3
  have P3 : w3.cell? ⟨pe, 0, none⟩ = some (.int .i64 e0) := (B3.cell (p := ⟨pe, 0, none⟩) hpl).trans hpe
  have F3 : w3.frozen? ⟨pe, 0, none⟩ = false := Thaw.below B3 pe 0 hpl hpf
  have k1 : w3.cell? ⟨w.heap.size, 1, none⟩ = some (.int .i64 2) := x0.cell rfl
  have k2 : w3.cell? ⟨w.heap.size, 2, none⟩ = some (.int .i64 i) := x0.cell rfl
  have k3 : w3.cell? ⟨w.heap.size, 3, none⟩ = some (.slice a n c) := x0.cell rfl
  have O3 := Off.of_below (fun q => q = pe) B3
  have T3 := Thaw.below B3
  go_wp2_with fail
  refine (Hsum.out w3).mono ?_
  rintro e w4 ⟨rfl, rfl⟩
  have g2 := x0.free 2
  have hne : (⟨w.heap.size, 2, none⟩ : Addr) ≠ ⟨pe, 0, none⟩ := fun e => by cases e
  obtain ⟨w5, hw5⟩ : ∃ w5, w4.setCell ⟨w.heap.size, 2, none⟩ (.int .i64 m) = w5 := ⟨_, rfl⟩
  have O5 := O3.set ⟨w.heap.size, 2, none⟩ (.int .i64 m) (.inr (Nat.le_refl _))
  have T5 := T3.trans (Thaw.set w4 ⟨w.heap.size, 2, none⟩ (.int .i64 m)) B3.size
  have P5 : (w4.setCell ⟨w.heap.size, 2, none⟩ (.int .i64 m)).cell? ⟨pe, 0, none⟩ = some (.int .i64 e0) := by rw [World.cell?_setCell_other _ _ _ _ hne]; exact P3
  have F5 : (w4.setCell ⟨w.heap.size, 2, none⟩ (.int .i64 m)).frozen? ⟨pe, 0, none⟩ = false := by rw [World.frozen?_setCell]; exact F3
  have y0 := x0.set 2 (.int .i64 m)
  have y1 := x1.far ⟨w.heap.size, 2, none⟩ (.int .i64 m) (by simp)
  have c5 : (w4.setCell ⟨w.heap.size, 2, none⟩ (.int .i64 m)).cell? ⟨w.heap.size, 2, none⟩ = some (.int .i64 m) := World.cell?_setCell_same _ _ _ k2
  have c53 : (w4.setCell ⟨w.heap.size, 2, none⟩ (.int .i64 m)).cell? ⟨w.heap.size, 3, none⟩ = some (.slice a n c) := y0.cell rfl
  have S5 : w.heap.size ≤ (w4.setCell ⟨w.heap.size, 2, none⟩ (.int .i64 m)).heap.size := by simpa using B3.size
  rw [hw5] at O5 T5 P5 F5 y0 y1 c5 c53 S5
  clear x0 x1 B3 O3 T3 P3 F3
  go_wp2_with fail
  clear hw5
  obtain ⟨w7, hw7⟩ : ∃ w7, w5 = w7 := ⟨_, rfl⟩
  have O7 := O5
  have T7 := T5
  have P7 := P5
  rw [hw7] at O7 T7 P7 y0 y1 ⊢
  clear hw7 O5 T5 P5 F5 c5 c53 S5 k1 k2 k3 g2
  have R0 := RInv.start (d := d) (Z := Z) (U := U) (Ub := Ub) (Us := Us) (w7 := w7) hn (fun h => (ha h).2.1) (fun i q hi h => (hr i q hi h).1) hpU h1 h2 h3 h4 h5 O7 T7 P7
  clear O7 T7 P7
  go_loopw [51] (fun ii wr => ∃ j : Nat, ii = .int .i64 j ∧ j ≤ args.length ∧ Blk wr w.heap.size #[.slice pa binds.length pc, .int .i64 2, .int .i64 m, .slice a n c] 34 ∧ Blk wr (w.heap.size + 1) #[.slice none 0 0, .int .i64 0, .int .i64 0, .slice none 0 0] 34 ∧
    RInv d Z U Ub Us bl off n args PA A PN PC N C Kd pe e0 w j wr) (fun ii _ => args.length - (intOf ii).toNat)
  case atStart => exact ⟨0, rfl, by omega, y0, y1, R0⟩
  case round =>
    clear y0 y1 R0
    obtain ⟨j, rfl, hj, y0, y1, hR⟩ := hrel
    by_cases hlt : j < args.length
    · obtain ⟨rfl, hUb, hZb, hUbb⟩ := ha (by omega)
      clear ha
      obtain ⟨J, r5, r6⟩ := hR.cells
      obtain ⟨q1, q2, q3, q4⟩ := r5 j (by omega)
      have r6j := r6 j hlt
      rw [if_neg (by omega)] at r6j
      have hlt0 : (0 : Int) ≤ (j : Int) := Int.natCast_nonneg _
      have hlt1 : (j : Int) < (n : Int) := by omega
      have hsz := hR.oft.size
      have HR := Lib.hid hR.drew
      have Hc := Lib.hid (ih args[j] (List.getElem_mem hlt) (hfa _ (List.getElem_mem hlt)) Z (Us j) wr.drew _ _ _ _ pe _ (r6j.keep (Keep.refl _ _).drew) (fun q hq => Nat.lt_of_lt_of_le (hUs q (hr j q (by omega) hq).1) hsz)
        (fun q hq => ⟨Nat.lt_of_lt_of_le (hZ q hq).1 hsz, fun o => hR.thaw q o (hZ q hq).1 ((hZ q hq).2 o)⟩) hR.e (hR.thaw pe 0 hpl hpf) fun h => hpU (hr j pe (by omega) h).1)
      have HP : Hid (∀ o, wr.frozen? ⟨bl, o, none⟩ = false) := fun o => hR.thaw bl o (hZ bl hZb).1 ((hZ bl hZb).2 o)
      clear r6 r6j r5 hR ih
      go_wp2_with fail
      refine wp_region_noPanic (wp_region_need (S := fun w' => w'.cell? ⟨w.heap.size, 3, none⟩ = some (.slice (some ⟨bl, off, none⟩) n c) ∧ w'.cell? ⟨bl, off + j * 4, none⟩ = some (.slice (PA j) (PN j) (PC j)) ∧ w'.cell? ⟨bl, off + j * 4 + 1, none⟩ = some (.int .i64 (Kd j)) ∧ w'.cell? ⟨bl, off + j * 4 + 2, none⟩ = some (.int .i64 (J j)) ∧ w'.cell? ⟨bl, off + j * 4 + 3, none⟩ = some (.slice (A j) (N j) (C j))) (by kernel_rfl) ?_)
      have hS : (wr.drew).cell? ⟨w.heap.size, 3, none⟩ = some (.slice (some ⟨bl, off, none⟩) n c) ∧ (wr.drew).cell? ⟨bl, off + j * 4, none⟩ = some (.slice (PA j) (PN j) (PC j)) ∧ (wr.drew).cell? ⟨bl, off + j * 4 + 1, none⟩ = some (.int .i64 (Kd j)) ∧ (wr.drew).cell? ⟨bl, off + j * 4 + 2, none⟩ = some (.int .i64 (J j)) ∧ (wr.drew).cell? ⟨bl, off + j * 4 + 3, none⟩ = some (.slice (A j) (N j) (C j)) := ⟨y0.drew.cell rfl, q1, q2, q3, q4⟩
      refine wpN_take (i := 0) (v := ?v23) rfl (by kernel_rfl) (fun _ _ _ h => h) hS (Or.inl ⟨by rfl, ?hy23⟩) ?hr23
      case hy23 => (intro wS hSw; (try dsimp only at hSw); go_simp; (try with_reducible rfl))
      try simp only [Act.put, List.setIfInBounds_toArray, List.set_cons_zero, List.set_cons_succ, List.getElem_toArray, List.getElem_cons_zero, List.getElem_cons_succ]
      refine wpN_take (i := 1) (v := ?v24) rfl (by kernel_rfl) (fun _ _ _ h => h) hS (Or.inl ⟨by rfl, ?hy24⟩) ?hr24
      case hy24 => (intro wS hSw; (try dsimp only at hSw); go_simp; (try with_reducible rfl))
      try simp only [Act.put, List.setIfInBounds_toArray, List.set_cons_zero, List.set_cons_succ, List.getElem_toArray, List.getElem_cons_zero, List.getElem_cons_succ]
      refine wpN_take (i := 2) (v := ?v25) rfl (by kernel_rfl) (fun _ _ _ h => h) hS (Or.inl ⟨by rfl, ?hy25⟩) ?hr25
      case hy25 => (intro wS hSw; (try dsimp only at hSw); go_simp; (try with_reducible rfl))
      try simp only [Act.put, List.setIfInBounds_toArray, List.set_cons_zero, List.set_cons_succ, List.getElem_toArray, List.getElem_cons_zero, List.getElem_cons_succ]
      refine wpN_take (i := 3) (v := ?v26) rfl (by kernel_rfl) (fun _ _ _ h => h) hS (Or.inl ⟨by rfl, ?hy26⟩) ?hr26
      case hy26 => (intro wS hSw; (try dsimp only at hSw); go_simp; (try with_reducible rfl))
      try simp only [Act.put, List.setIfInBounds_toArray, List.set_cons_zero, List.set_cons_succ, List.getElem_toArray, List.getElem_cons_zero, List.getElem_cons_succ]
      refine wpN_take (i := 4) (v := ?v27) rfl (by kernel_rfl) (fun _ _ _ h => h) hS (Or.inl ⟨by rfl, ?hy27⟩) ?hr27
      case hy27 => (intro wS hSw; (try dsimp only at hSw); go_simp; (try with_reducible rfl))
      try simp only [Act.put, List.setIfInBounds_toArray, List.set_cons_zero, List.set_cons_succ, List.getElem_toArray, List.getElem_cons_zero, List.getElem_cons_succ]
      refine wpN_take (i := 5) (v := ?v28) rfl (by kernel_rfl) (fun _ _ _ h => h) hS (Or.inl ⟨by rfl, ?hy28⟩) ?hr28
      case hy28 => (intro wS hSw; (try dsimp only at hSw); go_simp; (try with_reducible rfl))
      try simp only [Act.put, List.setIfInBounds_toArray, List.set_cons_zero, List.set_cons_succ, List.getElem_toArray, List.getElem_cons_zero, List.getElem_cons_succ]
      refine wpN_take (i := 6) (v := ?v29) rfl (by kernel_rfl) (fun _ _ _ h => h) hS (Or.inl ⟨by rfl, ?hy29⟩) ?hr29
      case hy29 => (intro wS hSw; (try dsimp only at hSw); go_simp; (try with_reducible rfl))
      try simp only [Act.put, List.setIfInBounds_toArray, List.set_cons_zero, List.set_cons_succ, List.getElem_toArray, List.getElem_cons_zero, List.getElem_cons_succ]
      refine wpN_take (i := 7) (v := ?v30) rfl (by kernel_rfl) (fun _ _ _ h => h) hS (Or.inl ⟨by rfl, ?hy30⟩) ?hr30
      case hy30 => (intro wS hSw; (try dsimp only at hSw); go_simp; (try with_reducible rfl))
      try simp only [Act.put, List.setIfInBounds_toArray, List.set_cons_zero, List.set_cons_succ, List.getElem_toArray, List.getElem_cons_zero, List.getElem_cons_succ]
      refine wpN_take (i := 8) (v := ?v31) rfl (by kernel_rfl) (fun _ _ _ h => h) hS (Or.inl ⟨by rfl, ?hy31⟩) ?hr31
      case hy31 => (intro wS hSw; (try dsimp only at hSw); go_simp; (try with_reducible rfl))
      try simp only [Act.put, List.setIfInBounds_toArray, List.set_cons_zero, List.set_cons_succ, List.getElem_toArray, List.getElem_cons_zero, List.getElem_cons_succ]
      refine wpN_take (i := 9) (v := ?v32) rfl (by kernel_rfl) (fun _ _ _ h => h) hS (Or.inl ⟨by rfl, ?hy32⟩) ?hr32
      case hy32 => (intro wS hSw; (try dsimp only at hSw); go_simp; (try with_reducible rfl))
      try simp only [Act.put, List.setIfInBounds_toArray, List.set_cons_zero, List.set_cons_succ, List.getElem_toArray, List.getElem_cons_zero, List.getElem_cons_succ]
      refine wpN_step (i := 10) (by kernel_rfl) rfl (fun K hK => ?_)
      go_simp
      refine Hc.out.mono ?_
      rintro e w5 ⟨i', rfl, g1, g2, g3, g4⟩
      have hKp : Keep (fun q => q = bl) wr.drew w5 := g4.keep fun q hq e => by
        subst hq
        rcases e with e | e
        · exact (hr j q (by omega) e).2.1 rfl
        · exact hpU (e ▸ hUb)
      have hnq : ∀ x, ¬ (Us j (w.heap.size + x) ∨ w.heap.size + x = pe) := fun x e => by
        rcases e with e | e
        · have := hUs _ (hr j _ (by omega) e).1; omega
        · omega
      have z0 := g4.blk (y0.drew) (hnq 0)
      have z1 := g4.blk (y1.drew) (hnq 1)
      have HS := Lib.hid (HR.out.step hn hlt (fun h => ⟨hUb, hUbb⟩) hr hd hpU hpl g1 g2 g3 g4)
      have p0 := hKp _ _ _ rfl (show wr.drew.cell? _ = _ from q1)
      have p1 := hKp _ _ _ rfl (show wr.drew.cell? _ = _ from q2)
      have p2 := hKp _ _ _ rfl (show wr.drew.cell? _ = _ from q3)
      have p3 := hKp _ _ _ rfl (show wr.drew.cell? _ = _ from q4)
      have f0 := g3 bl (off + j * 4) (Keep.lt q1) (HP.out _)
      have f1 := g3 bl (off + j * 4 + 1) (Keep.lt q1) (HP.out _)
      have f2 := g3 bl (off + j * 4 + 2) (Keep.lt q1) (HP.out _)
      have f3 := g3 bl (off + j * 4 + 3) (Keep.lt q1) (HP.out _)
      have hS : (w5).cell? ⟨w.heap.size, 3, none⟩ = some (.slice (some ⟨bl, off, none⟩) n c) ∧ (w5).cell? ⟨bl, off + j * 4, none⟩ = some (.slice (PA j) (PN j) (PC j)) ∧ (w5).cell? ⟨bl, off + j * 4 + 1, none⟩ = some (.int .i64 (Kd j)) ∧ (w5).cell? ⟨bl, off + j * 4 + 2, none⟩ = some (.int .i64 (J j)) ∧ (w5).cell? ⟨bl, off + j * 4 + 3, none⟩ = some (.slice (A j) (N j) (C j)) := ⟨z0.cell rfl, p0, p1, p2, p3⟩
      clear g1 g2 g3 g4 HR Hc q1 q2 q3 q4
      refine hK.out _ _ (fun _ => hS) ?_
      clear hK K
      try simp only [Act.put, List.setIfInBounds_toArray, List.set_cons_zero, List.set_cons_succ, List.getElem_toArray, List.getElem_cons_zero, List.getElem_cons_succ]
      refine wpN_take (i := 11) (v := ?v33) rfl (by kernel_rfl) (fun _ _ _ h => h) hS (Or.inl ⟨by rfl, ?hy33⟩) ?hr33
      case hy33 => (intro wS hSw; (try dsimp only at hSw); go_simp; (try with_reducible rfl))
      try simp only [Act.put, List.setIfInBounds_toArray, List.set_cons_zero, List.set_cons_succ, List.getElem_toArray, List.getElem_cons_zero, List.getElem_cons_succ]
      refine wpN_step (i := 12) (by kernel_rfl) rfl (fun K hK => ?_)
      go_simp
      refine hK.out _ _ (fun h => absurd h (by decide)) ?_
      clear hK K
      try simp only [Act.put, List.setIfInBounds_toArray, List.set_cons_zero, List.set_cons_succ, List.getElem_toArray, List.getElem_cons_zero, List.getElem_cons_succ]
      refine wpN_done (by kernel_rfl) ?_
      refine NoPanic.normal ?_
      have hbq : ∀ x, w.heap.size + x ≠ bl := fun x e => by have := hUs _ hUb; omega
      go_wp2_with fail
      refine ⟨⟨j + 1, by go_num, by omega, ?_, ?_, HS.out⟩, by simp [intOf]; omega⟩
      · exact (((z0.far _ _ (hbq 0)).far _ _ (hbq 0)).far _ _ (hbq 0)).far _ _ (hbq 0)
      · exact (((z1.far _ _ (hbq 1)).far _ _ (hbq 1)).far _ _ (hbq 1)).far _ _ (hbq 1)
    · have d0 : wr.cell? ⟨w.heap.size, 0, none⟩ = some (.slice pa binds.length pc) := y0.cell rfl
      have d1 : wr.cell? ⟨w.heap.size, 1, none⟩ = some (.int .i64 2) := y0.cell rfl
      have d2 : wr.cell? ⟨w.heap.size, 2, none⟩ = some (.int .i64 m) := y0.cell rfl
      have d3 : wr.cell? ⟨w.heap.size, 3, none⟩ = some (.slice a n c) := y0.cell rfl
      have r0 : wr.cell? ⟨w.heap.size + 1, 0, none⟩ = some (.slice none 0 0) := y1.cell rfl
      have r1 : wr.cell? ⟨w.heap.size + 1, 1, none⟩ = some (.int .i64 0) := y1.cell rfl
      have r2 : wr.cell? ⟨w.heap.size + 1, 2, none⟩ = some (.int .i64 0) := y1.cell rfl
      have r3 : wr.cell? ⟨w.heap.size + 1, 3, none⟩ = some (.slice none 0 0) := y1.cell rfl
      have f0 := y1.free 0
      have f1 := y1.free 1
      have f2 := y1.free 2
      have f3 := y1.free 3
      have HD := Lib.hid (hR.done hn (by omega) hb hm ha hr hd 2 m)
      have HO := Lib.hid hR.oft
      have HT := Lib.hid hR.thaw
      have hqn : ¬ U (w.heap.size + 1) := fun h => by have := hUs _ h; omega
      have hlj : ¬ (j : Int) < (n : Int) := by omega
      clear hR y0 y1 ih hb
      go_wp2_with fail
      refine bodyPost_ret (v := .agg #[.slice pa binds.length pc, .int .i64 2, .int .i64 m, .slice a n c]) (by simp [results, Try.results42, go_sem, r0, r1, r2, r3]) rfl ?_
      obtain ⟨w9, hw9⟩ : ∃ w9, ((((wr.setCell ⟨w.heap.size + 1, 0, none⟩ (.slice pa binds.length pc)).setCell ⟨w.heap.size + 1, 1, none⟩ (.int .i64 2)).setCell ⟨w.heap.size + 1, 2, none⟩ (.int .i64 m)).setCell ⟨w.heap.size + 1, 3, none⟩ (.slice a n c)) = w9 := ⟨_, rfl⟩
      have hk9 : Keep (fun q => q ≠ w.heap.size + 1) wr w9 := by rw [← hw9]; exact ((((Keep.refl _ _).setCell _ _ (by simp)).setCell _ _ (by simp)).setCell _ _ (by simp)).setCell _ _ (by simp)
      have hf9 : ∀ q o, w9.frozen? ⟨q, o, none⟩ = wr.frozen? ⟨q, o, none⟩ := fun q o => by rw [← hw9]; simp
      have ho9 : Off (fun q => U q ∨ q = pe) w w9 := by
        rw [← hw9]
        exact (((HO.out.set _ _ (.inr (by simp))).set _ _ (.inr (by simp))).set _ _ (.inr (by simp))).set _ _ (.inr (by simp))
      rw [hw9]
      refine ⟨m, rfl, ?_, ?_, fun q o hq hf => (hf9 q o).trans (HT.out q o hq hf), ho9⟩
      · rw [Rn.ren_eq, if_pos rfl, hmm]
        exact HD.out.1.keep (hk9.weaken fun q hq e => hqn (e ▸ hq))
      · rw [Rn.errs_eq, if_pos rfl, IFN.out]
        exact hk9 _ _ _ (by omega) HD.out.2
end Go.Proofs.Ytcblpjheoclkeaa

namespace Go.Proofs.Ytcblpjheoclkeaa
open Go.RowKit
theorem renamed_ow (d : Int) (hdd : -9223372036854775808 ≤ d ∧ d ≤ 9223372036854775807) : ∀ t : Tm, t.Fit → RenOw d t := Tm.ind fun binds k i args ih => by
  intro hfit Z U w bv kv iv av pe e0 ht hUs hZ hpe hpf hpU
  by_cases hk : k = 2
  · by_cases m0 : Rn.sm i d < 0
    · by_cases z : e0 = 0
      · exact renamed_c1 d hdd binds k i args ih hfit Z U w bv kv iv av pe e0 ht hUs hZ hpe hpf hpU hk m0 z
      · by_cases y : 1 < e0
        · exact renamed_c2 d hdd binds k i args ih hfit Z U w bv kv iv av pe e0 ht hUs hZ hpe hpf hpU hk m0 ⟨z, y⟩
        · exact renamed_c3 d hdd binds k i args ih hfit Z U w bv kv iv av pe e0 ht hUs hZ hpe hpf hpU hk m0 ⟨z, y⟩
    · by_cases m1 : Rn.sm i d > 1000
      · by_cases z : e0 = 0
        · exact renamed_d1 d hdd binds k i args ih hfit Z U w bv kv iv av pe e0 ht hUs hZ hpe hpf hpU hk m1 z
        · by_cases y : 2 < e0
          · exact renamed_d2 d hdd binds k i args ih hfit Z U w bv kv iv av pe e0 ht hUs hZ hpe hpf hpU hk m1 ⟨z, y⟩
          · exact renamed_d3 d hdd binds k i args ih hfit Z U w bv kv iv av pe e0 ht hUs hZ hpe hpf hpU hk m1 ⟨z, y⟩
      · exact renamed_b d hdd binds k i args ih hfit Z U w bv kv iv av pe e0 ht hUs hZ hpe hpf hpU hk m0 m1
  · exact renamed_a d hdd binds k i args ih hfit Z U w bv kv iv av pe e0 ht hUs hZ hpe hpf hpU hk
end Go.Proofs.Ytcblpjheoclkeaa

namespace Go.Proofs.Ytcblpjheoclkeaa

section
variable {P : Program} {ops : Array Oper} {Q : Exit → Act → World → Prop} {md : Region.Mode} {S : World → Prop}

theorem wpN_pick (rs : List Nat) {n : Nat} {listed : Array Bool} {a : Act} {w : World} (hr : Region.ready md ops listed = rs) (hne : rs ≠ [])
    (h : ∀ i ∈ rs, wpOp P ops Q i (fun a' w' => (asksS ops i = true → S w') ∧ wpN P md ops Q S n (listed.setIfInBounds i true) a' w') a w) : wpN P md ops Q S (n + 1) listed a w :=
  ⟨fun h0 => absurd (hr.symm.trans h0) hne, fun i hi => wpOp_mono (fun _ _ hh => ⟨fun ha _ => hh.1 ha, hh.2⟩) (h i (by rw [hr] at hi; exact hi))⟩

theorem pick_two {p : Nat → Prop} {i j : Nat} (hi : p i) (hj : p j) : ∀ x ∈ [i, j], p x := by
  intro x hx
  simp only [List.mem_cons, List.not_mem_nil, or_false] at hx
  rcases hx with rfl | rfl
  · exact hi
  · exact hj
end
end Go.Proofs.Ytcblpjheoclkeaa

namespace Go.Proofs.Ytcblpjheoclkeaa
open Go.RowKit
set_option maxRecDepth 100000 in
set_option maxHeartbeats 2000000 in
theorem rename_k {F : Nat → Prop} {w : World} {b k i a : Value} {t : Tm} (d : Int) (hR : RenOw d t) (ht : IsTm F w b k i a t) (hsz : t.full ≤ 80000) (hfit : t.Fit) :
    Calls Try.prog 8 #[.agg #[b, k, i, a], .int .i64 d] w fun e w' => ∃ b' k' i' a', e = .returned (.tuple #[.agg #[b', k', i', a'], .int .i64 (Rn.errs d t 0)]) ∧ IsTm (fun q => w.heap.size ≤ q) w' b' k' i' a' (if Rn.errs d t 0 = 0 then Rn.ren d t else Tm.zero) ∧ Below w.heap.size w w' := by
  have Hcp : Hid (∀ w' : World, Below w.heap.size w w' → Calls Try.prog 43 #[.agg #[b, k, i, a]] w' (OwnTm t w')) := fun w' hb => copy_ow (ht.bel hb) hsz hfit
  have HR := Lib.hid hR
  obtain ⟨pa, pc, qa, qc, rfl, rfl, rfl, rfl⟩ := ht.shape
  clear ht hR
  obtain ⟨x1, hx1⟩ : ∃ x, t.binds.length = x := ⟨_, rfl⟩
  obtain ⟨x2, hx2⟩ : ∃ x, t.args.length = x := ⟨_, rfl⟩
  obtain ⟨x3, hx3⟩ : ∃ x, t.kind = x := ⟨_, rfl⟩
  obtain ⟨x4, hx4⟩ : ∃ x, t.index = x := ⟨_, rfl⟩
  rw [hx1, hx2, hx3, hx4] at Hcp ⊢
  have Hx1 := Lib.hid hx1; have Hx2 := Lib.hid hx2; have Hx3 := Lib.hid hx3; have Hx4 := Lib.hid hx4
  clear hx1 hx2 hx3 hx4
  obtain ⟨E, hEE⟩ : ∃ E, Rn.errs d t 0 = E := ⟨_, rfl⟩
  obtain ⟨T, hTT⟩ : ∃ T, Rn.ren d t = T := ⟨_, rfl⟩
  rw [hEE, hTT]
  have HEE := Lib.hid hEE; have HTT := Lib.hid hTT
  clear hEE hTT
  go_enter Try.func8, Try.ntmps8
  go_wp2_with fail
  obtain ⟨w3, hw3⟩ : ∃ w3, ((w.alloc (.cells #[.slice pa x1 pc, .int .i64 x3, .int .i64 x4, .slice qa x2 qc] 34)).alloc (.cells #[.slice none 0 0, .int .i64 0, .int .i64 0, .slice none 0 0] 34)).alloc (.cells #[.int .i64 0] 35) = w3 := ⟨_, rfl⟩
  have B3 : Below w.heap.size w w3 := by rw [← hw3]; exact (((Below.refl _ _).alloc (Nat.le_refl _) _).alloc (by simp) _).alloc (by simp; omega) _
  have y1 : Blk w3 (w.heap.size + 1) #[.slice none 0 0, .int .i64 0, .int .i64 0, .slice none 0 0] 34 := by rw [← hw3]; exact (Blk.new _ _ _ (by simp)).alloc _
  have y2 : Blk w3 (w.heap.size + 1 + 1) #[.int .i64 0] 35 := by rw [← hw3]; exact Blk.new _ _ _ (by simp)
  have hs3 : w3.heap.size = w.heap.size + 1 + 1 + 1 := by rw [← hw3]; simp
  go_wp2_with fail
  try rw [hw3]
  clear hw3
  refine (Hcp.out w3 B3).mono ?_
  rintro e w4 ⟨b', k', i', a', Z, rfl, hT, hFr, hb4⟩
  rw [hs3] at hT hFr
  have z1 := y1.below hb4
  have z2 := y2.below hb4
  have B4 := B3.trans (hb4.mono B3.size)
  have hRR := Lib.hid (HR.out Z _ w4 _ _ _ _ (w.heap.size + 1 + 1) 0 hT (fun q h => h.2) (fun q hq => ⟨(hFr q hq).1.2, (hFr q hq).2⟩) (z2.cell rfl) (z2.free 0) (fun h => by have := h.1; omega))
  clear hT hFr hb4
  go_wp2_with fail
  refine hRR.out.mono ?_
  rintro e w5 ⟨i2, rfl, hO, hE, _, hOff⟩
  rw [HTT.out] at hO
  rw [HEE.out] at hE
  have v1 := hOff.blk z1 (fun h => by rcases h with h | h <;> omega)
  have B5 : Below w.heap.size w w5 := B4.trans (hOff.toBelow (n := w.heap.size) B4.size fun q h => by rcases h with h | h <;> omega)
  obtain ⟨pa', pc', qa', qc', rfl, rfl, hi2, rfl⟩ := (hO.tm (F := fun _ => True) fun _ _ => trivial).shape
  cases hi2
  have hlt1 := v1.lt
  have hlt2 := Keep.lt hE
  have HO := Lib.hid (hO.tm (F := fun q => w.heap.size + 1 + 1 < q) fun q h => by omega)
  clear hO hRR z1 z2 hOff B4
  obtain ⟨u1, hu1⟩ : ∃ x, T.binds.length = x := ⟨_, rfl⟩
  obtain ⟨u2, hu2⟩ : ∃ x, T.args.length = x := ⟨_, rfl⟩
  obtain ⟨u3, hu3⟩ : ∃ x, T.kind = x := ⟨_, rfl⟩
  obtain ⟨u4, hu4⟩ : ∃ x, T.index = x := ⟨_, rfl⟩
  rw [hu1, hu2, hu3, hu4] at HO ⊢
  clear hu1 hu2 hu3 hu4 y1 y2
  have r0 : w5.cell? ⟨w.heap.size + 1, 0, none⟩ = some (.slice none 0 0) := v1.cell rfl
  have r1 : w5.cell? ⟨w.heap.size + 1, 1, none⟩ = some (.int .i64 0) := v1.cell rfl
  have r2 : w5.cell? ⟨w.heap.size + 1, 2, none⟩ = some (.int .i64 0) := v1.cell rfl
  have r3 : w5.cell? ⟨w.heap.size + 1, 3, none⟩ = some (.slice none 0 0) := v1.cell rfl
  have f0 := v1.free 0
  have f1 := v1.free 1
  have f2 := v1.free 2
  have f3 := v1.free 3
  by_cases he : E = 0
  · subst he
    go_wp2_with fail
    refine bodyPost_ret (v := .tuple #[.agg #[.slice pa' u1 pc', .int .i64 u3, .int .i64 u4, .slice qa' u2 qc'], .int .i64 0]) (by simp [results, Try.results8, go_sem, r0, r1, r2, r3, hlt1]) rfl ?_
    refine ⟨_, _, _, _, rfl, ?_, ((((B5.setCell (by simp <;> omega) _).setCell (by simp <;> omega) _).setCell (by simp <;> omega) _).setCell (by simp <;> omega) _).alloc (by have := B5.size; simp; omega) _⟩
    exact (((((HO.out.keep ((Keep.refl _ _).setCell ⟨w.heap.size + 1, 0, none⟩ _ (by simp <;> omega))).keep ((Keep.refl _ _).setCell ⟨w.heap.size + 1, 1, none⟩ _ (by simp <;> omega))).keep ((Keep.refl _ _).setCell ⟨w.heap.size + 1, 2, none⟩ _ (by simp <;> omega))).keep ((Keep.refl _ _).setCell ⟨w.heap.size + 1, 3, none⟩ _ (by simp <;> omega))).keep ((Keep.refl _ _).alloc _)).weaken fun q _ h => by omega
  · have hb : (E != 0) = true := by simpa using he
    have HE0 : Hid (¬ E = 0) := he
    go_wp2_with fail
    obtain ⟨w8, hw8⟩ : ∃ w8, w5.alloc (.cells #[.slice pa' u1 pc', .int .i64 u3, .int .i64 u4, .slice qa' u2 qc'] 34) = w8 := ⟨_, rfl⟩
    have B8' : Below w.heap.size w w8 := by rw [← hw8]; exact B5.alloc B5.size _
    have zr := (v1.alloc (.cells #[.slice pa' u1 pc', .int .i64 u3, .int .i64 u4, .slice qa' u2 qc'] 34)).drew
    have ce0 : (w5.alloc (.cells #[.slice pa' u1 pc', .int .i64 u3, .int .i64 u4, .slice qa' u2 qc'] 34)).cell? ⟨w.heap.size + 1 + 1, 0, none⟩ = some (.int .i64 E) := (((Below.refl _ _).alloc (Nat.le_refl _) _).cell (p := ⟨w.heap.size + 1 + 1, 0, none⟩) hlt2).trans hE
    rw [hw8] at zr ce0
    rw [hw8]
    clear hw8 v1 hE r0 r1 r2 r3 f0 f1 f2 f3
    have B8 := B8'.drew
    clear B8'
    refine wp_region_noPanic (wp_region_need (S := fun w' => True) (by kernel_rfl) ?_)
    obtain ⟨w9, hw9⟩ : ∃ w9, w8.drew = w9 := ⟨_, rfl⟩
    have ce : w8.drew.cell? ⟨w.heap.size + 1 + 1, 0, none⟩ = some (.int .i64 E) := ce0
    rw [hw9] at B8 zr ce ⊢
    clear hw9 ce0
    have r0 : w9.cell? ⟨w.heap.size + 1, 0, none⟩ = some (.slice none 0 0) := zr.cell rfl
    have r1 : w9.cell? ⟨w.heap.size + 1, 1, none⟩ = some (.int .i64 0) := zr.cell rfl
    have r2 : w9.cell? ⟨w.heap.size + 1, 2, none⟩ = some (.int .i64 0) := zr.cell rfl
    have r3 : w9.cell? ⟨w.heap.size + 1, 3, none⟩ = some (.slice none 0 0) := zr.cell rfl
    have f0 := zr.free 0
    have f1 := zr.free 1
    have f2 := zr.free 2
    have f3 := zr.free 3
    have z := ((((zr.set 0 (.slice none 0 0)).set 1 (.int .i64 0)).set 2 (.int .i64 0)).set 3 (.slice none 0 0))
    have z0 := z.cell (i := 0) (v := .slice none 0 0) rfl
    have z1 := z.cell (i := 1) (v := .int .i64 0) rfl
    have z2 := z.cell (i := 2) (v := .int .i64 0) rfl
    have z3 := z.cell (i := 3) (v := .slice none 0 0) rfl
    have hne : ∀ o, (⟨w.heap.size + 1, o, none⟩ : Addr) ≠ ⟨w.heap.size + 1 + 1, 0, none⟩ := fun o e => by injection e with e; omega
    have hS : True := trivial
    refine wpN_take (i := 0) (v := ?v1) rfl (by kernel_rfl) (fun _ _ _ h => h) hS (Or.inl ⟨by rfl, ?hy1⟩) ?hr1
    case hy1 => (intro wS hSw; (try dsimp only at hSw); go_simp; (try with_reducible rfl))
    try simp only [Act.put, List.setIfInBounds_toArray, List.set_cons_zero, List.set_cons_succ, List.getElem_toArray, List.getElem_cons_zero, List.getElem_cons_succ]
    refine wpN_pick [1, 2] (by kernel_rfl) (by simp) (pick_two ?_ ?_)
    · refine wpOp_step (i := 1) rfl (fun K hK => ?_)
      have hK := Lib.hid hK
      try simp only [Act.put, List.setIfInBounds_toArray, List.set_cons_zero, List.set_cons_succ, List.getElem_toArray, List.getElem_cons_zero, List.getElem_cons_succ]
      go_simp
      refine hK.out _ _ ⟨fun _ => trivial, ?_⟩
      try simp only [Act.put, List.setIfInBounds_toArray, List.set_cons_zero, List.set_cons_succ, List.getElem_toArray, List.getElem_cons_zero, List.getElem_cons_succ]
      · skip
        refine wpN_step (i := 2) (by kernel_rfl) rfl (fun K hK => ?_)
        go_simp
        refine hK.out _ _ (fun h => absurd h (by decide)) ?_
        clear hK K
        try simp only [Act.put, List.setIfInBounds_toArray, List.set_cons_zero, List.set_cons_succ, List.getElem_toArray, List.getElem_cons_zero, List.getElem_cons_succ]
        refine wpN_step (i := 3) (by kernel_rfl) rfl (fun K hK => ?_)
        go_simp
        refine hK.out _ _ (fun h => absurd h (by decide)) ?_
        clear hK K
        try simp only [Act.put, List.setIfInBounds_toArray, List.set_cons_zero, List.set_cons_succ, List.getElem_toArray, List.getElem_cons_zero, List.getElem_cons_succ]
        refine wpN_done (by kernel_rfl) ?_
        refine NoPanic.normal ?_
        go_wp2_with fail
        refine bodyPost_ret (v := .tuple #[.agg #[.slice none 0 0, .int .i64 0, .int .i64 0, .slice none 0 0], .int .i64 E]) (by simp [results, Try.results8, go_sem, z0, z1, z2, z3]) rfl ?_
        try rw [if_neg HE0.out]
        exact ⟨_, _, _, _, rfl, isTm_zero _ _, (((B8.setCell (by simp <;> omega) _).setCell (by simp <;> omega) _).setCell (by simp <;> omega) _).setCell (by simp <;> omega) _⟩
    · refine wpOp_step (i := 2) rfl (fun K hK => ?_)
      have hK := Lib.hid hK
      try simp only [Act.put, List.setIfInBounds_toArray, List.set_cons_zero, List.set_cons_succ, List.getElem_toArray, List.getElem_cons_zero, List.getElem_cons_succ]
      go_simp
      refine hK.out _ _ ⟨fun _ => trivial, ?_⟩
      try simp only [Act.put, List.setIfInBounds_toArray, List.set_cons_zero, List.set_cons_succ, List.getElem_toArray, List.getElem_cons_zero, List.getElem_cons_succ]
      · skip
        refine wpN_step (i := 1) (by kernel_rfl) rfl (fun K hK => ?_)
        go_simp
        refine hK.out _ _ (fun _ => trivial) ?_
        clear hK K
        try simp only [Act.put, List.setIfInBounds_toArray, List.set_cons_zero, List.set_cons_succ, List.getElem_toArray, List.getElem_cons_zero, List.getElem_cons_succ]
        refine wpN_step (i := 3) (by kernel_rfl) rfl (fun K hK => ?_)
        go_simp
        refine hK.out _ _ (fun h => absurd h (by decide)) ?_
        clear hK K
        try simp only [Act.put, List.setIfInBounds_toArray, List.set_cons_zero, List.set_cons_succ, List.getElem_toArray, List.getElem_cons_zero, List.getElem_cons_succ]
        refine wpN_done (by kernel_rfl) ?_
        refine NoPanic.normal ?_
        go_wp2_with fail
        refine bodyPost_ret (v := .tuple #[.agg #[.slice none 0 0, .int .i64 0, .int .i64 0, .slice none 0 0], .int .i64 E]) (by simp [results, Try.results8, go_sem, z0, z1, z2, z3]) rfl ?_
        try rw [if_neg HE0.out]
        exact ⟨_, _, _, _, rfl, isTm_zero _ _, (((B8.setCell (by simp <;> omega) _).setCell (by simp <;> omega) _).setCell (by simp <;> omega) _).setCell (by simp <;> omega) _⟩
end Go.Proofs.Ytcblpjheoclkeaa

namespace Go.Proofs.Ytcblpjheoclkeaa
open Go.RowKit
def TLI_34 : TI := ⟨4, true, [Value.slice none 0 0, Value.int IntKind.i64 0, Value.int IntKind.i64 0, Value.slice none 0 0], [(0, 1, false), (1, 2, true), (3, 1, false)], none, 64, 6, none, false⟩
theorem TLI_34_ok : TypOk Try.prog 34 TLI_34 := ⟨by kernel_rfl, by kernel_rfl, by kernel_rfl, by kernel_rfl, by kernel_rfl⟩
def TLI_32 : TI := ⟨1, false, [Value.slice none 0 0], [], some 34, 24, 5, none, false⟩
theorem TLI_32_ok : TypOk Try.prog 32 TLI_32 := ⟨by kernel_rfl, by kernel_rfl, by kernel_rfl, by kernel_rfl, by kernel_rfl⟩
def TLI_3 : TI := ⟨1, false, [Value.int IntKind.i64 0], [], none, 8, 2, none, false⟩
theorem TLI_3_ok : TypOk Try.prog 3 TLI_3 := ⟨by kernel_rfl, by kernel_rfl, by kernel_rfl, by kernel_rfl, by kernel_rfl⟩
def TLI_30 : TI := ⟨1, false, [Value.slice none 0 0], [], some 83, 24, 5, none, false⟩
theorem TLI_30_ok : TypOk Try.prog 30 TLI_30 := ⟨by kernel_rfl, by kernel_rfl, by kernel_rfl, by kernel_rfl, by kernel_rfl⟩
def TLI_280 : TI := ⟨1, false, [Value.slice none 0 0], [], some 32, 24, 5, none, false⟩
theorem TLI_280_ok : TypOk Try.prog 280 TLI_280 := ⟨by kernel_rfl, by kernel_rfl, by kernel_rfl, by kernel_rfl, by kernel_rfl⟩
def TLI_220 : TI := ⟨10, true, [Value.slice none 0 0, Value.int IntKind.i64 0, Value.int IntKind.i64 0, Value.slice none 0 0, Value.slice none 0 0, Value.int IntKind.i64 0, Value.int IntKind.i64 0, Value.slice none 0 0, Value.slice none 0 0, Value.slice none 0 0], [(0, 9, true), (9, 1, false)], none, 176, 6, none, false⟩
theorem TLI_220_ok : TypOk Try.prog 220 TLI_220 := ⟨by kernel_rfl, by kernel_rfl, by kernel_rfl, by kernel_rfl, by kernel_rfl⟩
def TLI_83 : TI := ⟨2, true, [Value.slice none 0 0, Value.int IntKind.i64 0], [(0, 1, false), (1, 1, false)], none, 32, 6, none, false⟩
theorem TLI_83_ok : TypOk Try.prog 83 TLI_83 := ⟨by kernel_rfl, by kernel_rfl, by kernel_rfl, by kernel_rfl, by kernel_rfl⟩
def TLI_31 : TI := ⟨2, true, [Value.int IntKind.i64 0, Value.int IntKind.i64 0], [(0, 1, false), (1, 1, false)], none, 16, 6, none, true⟩
theorem TLI_31_ok : TypOk Try.prog 31 TLI_31 := ⟨by kernel_rfl, by kernel_rfl, by kernel_rfl, by kernel_rfl, by kernel_rfl⟩
def TLI_140 : TI := ⟨1, false, [Value.nilFunc], [], none, 8, 8, none, false⟩
theorem TLI_140_ok : TypOk Try.prog 140 TLI_140 := ⟨by kernel_rfl, by kernel_rfl, by kernel_rfl, by kernel_rfl, by kernel_rfl⟩
def TLI : List (Nat × TI) := [(34, TLI_34), (32, TLI_32), (3, TLI_3), (30, TLI_30), (280, TLI_280), (220, TLI_220), (83, TLI_83), (31, TLI_31), (140, TLI_140)]
theorem TLI_ok : TabOk Try.prog TLI := ((((((((((TabOk.nil _).cons TLI_140_ok).cons TLI_31_ok).cons TLI_83_ok).cons TLI_220_ok).cons TLI_280_ok).cons TLI_30_ok).cons TLI_3_ok).cons TLI_32_ok).cons TLI_34_ok)

/-! slices.Concat of terms -/
def eTmss (ls : List (List Tm)) : List (List D) := ls.map fun l => [.sl 4 (eTms l) none]
theorem eTmss_len (l : List (List Tm)) : (eTmss l).length = l.length := List.length_map ..
theorem eTmss_getD (l : List (List Tm)) (i : Nat) (h : i < l.length) : (eTmss l).getD i [] = [.sl 4 (eTms l[i]) none] := by
  rw [eTmss, List.getD_eq_getElem?_getD, List.getElem?_map, List.getElem?_eq_getElem h]; rfl
@[simp] theorem eTmss_ok (f g : Nat → Bool) (l : List (List Tm)) : D.okss f g (eTmss l) = true := D.okss_map _ l fun l _ => by simp [D.oks, D.ok, eTms_ok]
set_option maxRecDepth 100000 in
set_option maxHeartbeats 400000 in
theorem growT_at (n : Nat) (m : Int) (w : World) (hnm : m = n) (hn : n ≤ 1000000) :
    Calls Try.prog 179 #[.slice none 0 0, .int .i64 m] w fun e w' => ∃ v, e = .returned v ∧ Below w.heap.size w w' ∧ (v = .slice none 0 0 ∨ (v.ownBlock = some w.heap.size ∧ ∃ g, v = .slice (some ⟨w.heap.size, 0, none⟩) 0 g ∧ w'.ownsRow w.heap.size 34 4 v 0 [])) := by
  subst hnm
  obtain ⟨i0, hi0, hz0, hz1, hz2⟩ := info_parts infoT
  by_cases h0 : n = 0
  · subst h0
    go_enter Try.func179, Try.ntmps179
    go_wp2_with fail
    go_ret
    exact ⟨_, rfl, Below.refl _ _, .inl rfl⟩
  · have hr : ∀ ty, (Builtin.append_ #[32, 3] ty #[.slice none 0 0, .int .i64 (n : Int)]).run Try.prog w = _ := fun ty =>
      Lib.run_append_grow_zeros w 32 3 ty 34 i0 (.agg #[.slice none 0 0, .int .i64 0, .int .i64 0, .slice none 0 0]) .i64 .i64 Try.underlying32 Try.underlying3 hi0 hz0 none 0 0 [] (run_firstCells_none _ _ _ _ _) n (by omega) (by rw [hz1]; decide) (by omega) (by omega) (by rw [hz2]; omega) (by rw [hz2]; exact growslice_fits (by omega) (by omega))
    have hr' : ∃ g, n ≤ g ∧ g ≤ maxLen ∧ ∀ ty, (Builtin.append_ #[32, 3] ty #[.slice none 0 0, .int .i64 (n : Int)]).run Try.prog w = .ok (.slice (some ⟨w.heap.size, 0, none⟩) n g) (w.drew.alloc (.cells (Builtin.zeroCells (#[.slice none 0 0, .int .i64 0, .int .i64 0, .slice none 0 0]) n ++ Builtin.zeroCells (#[.slice none 0 0, .int .i64 0, .int .i64 0, .slice none 0 0]) (g - n)) 34)) := by
      refine ⟨grownCap w n 0 34, grownCap_ge _ _ _ _, grownCap_le_maxLen _ _ _ _ (by unfold maxLen; omega), fun ty => ?_⟩
      have := hr ty
      simpa [Value.cells] using this
    obtain ⟨g, hg1, hg2, hg⟩ := hr'
    have hg2' := hg2
    clear hg2
    clear hr
    have hn0 : 0 < (n : Int) := by omega
    have Hg := Lib.hid hg; clear hg
    go_enter Try.func179, Try.ntmps179
    go_wp2_with (at_builtin; refine wpList_append_eq rfl _ _ _ _ _ rfl (Hg.out _) ?_)
    go_ret
    refine ⟨_, rfl, (Below.refl _ _).drew.alloc (Nat.le_refl _) _, .inr ⟨rfl, g, rfl, rfl, .inr ⟨w.heap.size, g, _, rfl, Nat.le_refl _, heap_alloc_new w.drew _, Nat.zero_le _, hg2', ?_, rfl⟩⟩⟩
    first | (simp [size_zeroCells]; done) | (simp [size_zeroCells]; omega)
theorem growT_d (n : Int) (h0 : 0 ≤ n) (h1 : n ≤ 1000000) (nm : Nat) : CallN Try.prog 179 [.v (.slice none 0 0), .v (.int .i64 n)] [] nm [(.r nm, .rw 34 4 0)] (.sl 4 [] (some nm)) := by
  refine ⟨by kernel_rfl, fun cx Fr m Im w a σ vs hn hs hv _ => ?_⟩
  match vs, hv with
  | [x, y], hv =>
    have := rel_v.1 hv.1; subst this
    have := rel_v.1 hv.2.1; subst this
    refine (growT_at n.toNat n w (by omega) (by omega)).mono ?_
    rintro e w' ⟨v, rfl, hb, hv⟩
    rw [dropT_nil]
    rcases hv with rfl | ⟨ho, g, rfl, hr⟩
    · have hg : (m.setR nm ⟨.slice none 0 0, 0, 34, 4⟩).row nm = some ⟨.slice none 0 0, 0, 34, 4⟩ := by simp [Mp.setR]
      exact ⟨_, _, Im, rfl, (hs.newRow hn 34 4).below0 hb, rel_nil hg⟩
    · obtain ⟨s1, s2⟩ := hs.rowMade hn (.slice (some ⟨w.heap.size, 0, none⟩) 0 g) 34 4 hb ⟨hr.1, hr.2.imp id fun ⟨g, cap, cur, q1, q2, q3⟩ => ⟨g, cap, cur, q1, Nat.zero_le _, q3⟩⟩ ho
      refine ⟨_, _, Im, rfl, s1, ?_⟩
      exact .sl _ _ 0 0 4 (fun _ _ => undef) [] (some nm) ⟨Nat.zero_le _, Nat.zero_le _⟩ (fun h => absurd h (by simp)) (fun i _ h => absurd h (by simp)) (fun i h => absurd h (by simp)) (fun i _ h => absurd h (by simp)) (fun i h => absurd h (by simp)) fun r e => by
        cases e; exact ⟨_, by simp [Mp.setR]; rfl, Nat.le_refl _, fun _ => rfl⟩
def lensT : List (List Tm) → Nat
  | [] => 0
  | l :: r => l.length + lensT r
theorem lensT_take (ls : List (List Tm)) (j : Nat) (h : j < ls.length) : lensT (ls.take (j + 1)) = lensT (ls.take j) + ls[j].length := by
  induction ls generalizing j with
  | nil => simp at h
  | cons l r ih =>
    cases j with
    | zero => simp [lensT]
    | succ j => simp only [List.take_succ_cons, lensT, List.getElem_cons_succ]; rw [ih j (by simpa using h)]; omega
theorem lensT_flat (ls : List (List Tm)) : ls.flatten.length = lensT ls := by
  induction ls with
  | nil => rfl
  | cons l r ih => simp [lensT, ih]
theorem lensT_le (ls : List (List Tm)) (j : Nat) : lensT (ls.take j) ≤ lensT ls := by
  induction ls generalizing j with
  | nil => simp [lensT]
  | cons l r ih =>
    cases j with
    | zero => simp [lensT]
    | succ j => simp only [List.take_succ_cons, lensT]; have := ih j; omega
theorem flatT_take (ls : List (List Tm)) (j : Nat) (h : j < ls.length) : (ls.take (j + 1)).flatten = (ls.take j).flatten ++ ls[j] := by
  rw [List.take_add_one, List.getElem?_eq_getElem h, List.flatten_append]; simp
set_option maxHeartbeats 1000000 in
theorem concatT_d (ls : List (List Tm)) (hl : lensT ls ≤ 900000) (hn : ls.length ≤ 1000) : PureC Try.prog 155 [.sl 1 (eTmss ls) none] (.sl 4 (eTms ls.flatten) none) := by
 refine calldw 0 36 [ResultVar.tmp 2] TLI_ok Try.func155 rfl Try.ntmps155 rfl fun cx hnt hn0 => ?_
 ·skip
  refine dw_seq ?_; refine dwk [] TLI_ok hnt fun K hK => ?_; refine hK _ _ ?_; clear hK K; refine dw_seq ?_; refine dwk [] TLI_ok hnt fun K hK => ?_; refine hK _ _ ?_; clear hK K; refine dw_seq ?_; refine dw_seq ?_; refine dwk [(10, .v (.int .i64 (ls.length)))] TLI_ok hnt fun K hK => ?_; refine And.intro (dintE (by rw [eTmss_len])) ?_; refine hK _ _ ?_; clear hK K; refine dw_block ?_
  refine dw_loop (ι := Nat) (fun j => [(.t 0, .sl 1 (eTmss ls) none), (.t 9, .sl 1 (eTmss ls) none), (.t 10, .v (.int .i64 ls.length)), (.t 11, .v (.int .i64 (j : Int))), (.t 3, .v (.int .i64 (lensT (ls.take j) : Nat)))]) 0 (fun j => ls.length - j) (0) ((VS.toK (by omega) (by repeat first | exact trivial | refine And.intro (And.intro (by first | rfl | simp [D.ok, D.oks, D.okss, D.okm, upto, keyOk, lensT]) (by first | exact Or.inl rfl | exact Or.inr ⟨_, rfl, (by repeat first | exact VLe.refl _ | exact VLe.nil _ | exact VLe.untag _ _ _ | refine VLe.ag ?_ | refine VLe.tu ?_ | refine VLeL.cons ?_ ?_ | exact VLeL.nil), trivial⟩ | simp [get, Key.eq, lensT])) ?_))) fun j => ?_
  by_cases hlt : j < ls.length
  ·have h1 := lensT_take ls j hlt
   have h2 := lensT_le ls (j + 1)
   refine dw_seq ?_; refine dwk [(12, .v (.bool true))] TLI_ok hnt fun K hK => ?_; refine And.intro auT ?_; refine hK _ _ ?_; clear hK K; refine dw_seq ?_; refine dw_cond (t := true) rfl ?_; rw [if_pos rfl]; refine dw_skip ?_; refine dw_seq ?_; refine dw_block ?_; refine dw_seq ?_; refine dwk [(13, .q [.sl 4 (eTms ls[j]) none])] TLI_ok hnt fun K hK => ?_; refine And.intro (⟨by omega, by rw [eTmss_len]; omega⟩) ?_
   refine And.intro (VLe.of_eq (by rw [Int.toNat_natCast, eTmss_getD ls j hlt])) ?_; refine hK _ _ ?_; clear hK K; refine dw_seq ?_; refine dwk [(18, .v (.int .i64 (↑(lensT (ls.take (j + 1))))))] TLI_ok hnt fun K hK => ?_; refine And.intro (dintE (by rw [eTms_len, IntWalk.i64_in _ (by omega)]; omega)) ?_; refine hK _ _ ?_; clear hK K; refine dw_seq ?_; refine dwk [(20, .v (.bool false))] TLI_ok hnt fun K hK => ?_
   refine And.intro auF ?_; refine hK _ _ ?_; clear hK K; refine dw_cond (t := false) rfl ?_; rw [if_neg (by simp)]; refine dw_skip ?_; refine dwk [(22, .v (.int .i64 (↑(j + 1))))] TLI_ok hnt fun K hK => ?_; refine And.intro auI ?_; refine hK _ _ ?_; clear hK K
   refine ⟨j + 1, by first | omega | (dsimp only; omega), VS.toA⟩
  ·have h3 : ls.take j = ls := List.take_of_length_le (by omega)
   have hg := growT_d (lensT (ls.take j) : Nat) (by omega) (by rw [h3]; omega)
   rw [h3] at hg ⊢
   refine dw_seq ?_; refine dwk [(12, .v (.bool false))] TLI_ok hnt fun K hK => ?_; refine And.intro auF ?_; refine hK _ _ ?_; clear hK K; refine dw_seq ?_; refine dw_cond (t := false) rfl ?_; rw [if_neg (by simp)]; refine dw_exit ?_; refine dw_seq ?_; refine dwk [] TLI_ok hnt fun K hK => ?_; refine dcn (hg _) ?_; refine hK _ _ ?_; clear hK K; refine dw_seq ?_; refine dw_seq ?_; refine dwk [(26, .v (.int .i64 (ls.length)))] TLI_ok hnt fun K hK => ?_
   refine And.intro (dintE (by rw [eTmss_len])) ?_; refine hK _ _ ?_; clear hK K; refine dw_block ?_
   refine dw_loop (ι := Nat) (fun j => [(.t 25, .sl 1 (eTmss ls) none), (.t 26, .v (.int .i64 ls.length)), (.t 27, .v (.int .i64 (j : Int))), (.t 6, .sl 4 (eTms (ls.take j).flatten) (some 2)), (.r 2, .rw 34 4 (ls.take j).flatten.length)]) 3 (fun j => ls.length - j) (0) (VS.toA) fun i => ?_
   by_cases hli : i < ls.length
   ·have h4 := lensT_take ls i hli
    have h5 := lensT_le ls (i + 1)
    have h6 := flatT_take ls i hli
    have h7 := lensT_flat (ls.take i)
    refine dw_seq ?_; refine dwk [(28, .v (.bool true))] TLI_ok hnt fun K hK => ?_; refine And.intro auT ?_; refine hK _ _ ?_; clear hK K; refine dw_seq ?_; refine dw_cond (t := true) rfl ?_; rw [if_pos rfl]; refine dw_skip ?_; refine dw_seq ?_; refine dw_block ?_; refine dw_seq ?_; refine dwk [(29, .q [.sl 4 (eTms ls[i]) none])] TLI_ok hnt fun K hK => ?_; refine And.intro (⟨by omega, by rw [eTmss_len]; omega⟩) ?_
    refine And.intro (VLe.of_eq (by rw [Int.toNat_natCast, eTmss_getD ls i hli])) ?_; refine hK _ _ ?_; clear hK K; refine dwk [(33, .sl 4 (eTms (ls.take (i + 1)).flatten) (some 2))] TLI_ok hnt fun K hK => ?_; refine And.intro (⟨by rw [eTms_len], by rw [eTms_len, eTms_len, h7]; omega⟩) ?_; refine And.intro (VLe.of_eq (by rw [h6, eTms_append])) ?_; refine hK _ _ ?_; clear hK K; refine dwk [(34, .v (.int .i64 (↑(i + 1))))] TLI_ok hnt fun K hK => ?_
    refine And.intro auI ?_; refine hK _ _ ?_; clear hK K
    have h8 : (eTms (ls.take i).flatten ++ eTms ls[i]).length = (ls.take (i + 1)).flatten.length := by rw [h6, ← eTms_append, eTms_len]
    refine ⟨i + 1, by first | omega | (dsimp only; omega), (by try simp only [List.length_append, List.length_take, List.length_cons, List.length_nil, Nat.zero_add, h8]; exact VS.toA)⟩
   ·have h9 : ls.take i = ls := List.take_of_length_le (by omega)
    rw [h9]
    refine dw_seq ?_; refine dwk [(28, .v (.bool false))] TLI_ok hnt fun K hK => ?_; refine And.intro auF ?_; refine hK _ _ ?_; clear hK K; refine dw_seq ?_; refine dw_cond (t := false) rfl ?_; rw [if_neg (by simp)]; refine dw_exit ?_; refine dw_seq ?_; refine dwk [] TLI_ok hnt fun K hK => ?_; refine hK _ _ ?_; clear hK K; refine dw_ret ?_
    exact reta rfl

/-! variables -/
namespace Li
def vars (B : List Ty) (n : Int) : List Tm := B.mapIdx fun i b => Ty.Eta b 0 (n + B.length - 1 - i)
theorem vars_len (B : List Ty) (n : Int) : (vars B n).length = B.length := List.length_mapIdx ..
theorem vars_get (B : List Ty) (n : Int) (j : Nat) (h : j < B.length) : (vars B n)[j]'(by rw [vars_len]; exact h) = Ty.Eta B[j] 0 (n + B.length - 1 - j) := by
  unfold vars; rw [List.getElem_mapIdx]
mutual
def lif (B : List Ty) : Tm → Int → Tm
  | .mk b k i a, n => .mk b k i ((if k = 2 then vars B (n + b.length) else []) ++ lifs B a (n + b.length))
def lifs (B : List Ty) : List Tm → Int → List Tm
  | [], _ => []
  | t :: l, n => lif B t n :: lifs B l n
end
theorem lif_eq (B b : List Ty) (k i : Int) (a : List Tm) (n : Int) : lif B (.mk b k i a) n = .mk b k i ((if k = 2 then vars B (n + b.length) else []) ++ lifs B a (n + b.length)) := by rw [lif]
theorem lifs_map (B : List Ty) (l : List Tm) (n : Int) : lifs B l n = l.map (lif B · n) := by
  induction l with
  | nil => rfl
  | cons t l ih => rw [lifs, ih]; rfl
theorem lifs_len (B : List Ty) (l : List Tm) (n : Int) : (lifs B l n).length = l.length := by rw [lifs_map, List.length_map]
theorem lifs_snoc (B : List Ty) (l : List Tm) (n : Int) (j : Nat) (h : j < l.length) : eTms ((lifs B l n).take j) ++ [eTm (lif B l[j] n)] = eTms ((lifs B l n).take (j + 1)) := by
  have h2 : j < (lifs B l n).length := by rw [lifs_len]; exact h
  have := eTms_snoc _ _ h2
  rw [← eTm_eq] at this
  rw [← this]
  congr 2
  simp only [lifs_map, List.getElem_map]
end Li
set_option maxHeartbeats 1000000 in
theorem lvars_d (L R : Tm) (M B : List Ty) (n : Int) (hn : 0 ≤ n ∧ n ≤ 1000000) (hl : B.length ≤ 1000) (hB : ∀ b ∈ B, b.size ≤ 1000) : PureC Try.prog 156 [.ag [.sl 2 (eTys L.binds) none, .v (.int .i64 L.kind), .v (.int .i64 L.index), .sl 4 (eTms L.args) none, .sl 2 (eTys R.binds) none, .v (.int .i64 R.kind), .v (.int .i64 R.index), .sl 4 (eTms R.args) none, .sl 2 (eTys M) none, .sl 2 (eTys B) none], .v (.int .i64 n)] (.sl 4 (eTms (Li.vars B n)) none) := by
 refine calldw 0 34 [ResultVar.tmp 4] TLI_ok Try.func156 rfl Try.ntmps156 rfl fun cx hnt hn0 => ?_
 ·skip
  refine dw_seq ?_; refine dwk [] TLI_ok hnt fun K hK => ?_; refine hK _ _ ?_; clear hK K
  refine dw_cut (τ := [(.t 1, .v (.int .i64 n)), (.t 2, .p 0 0), (.t 5, .v (.slice none 0 0)), (.c 0 0, .sl 2 (eTys L.binds) none), (.c 0 1, .v (.int .i64 L.kind)), (.c 0 2, .v (.int .i64 L.index)), (.c 0 3, .sl 4 (eTms L.args) none), (.c 0 4, .sl 2 (eTys R.binds) none), (.c 0 5, .v (.int .i64 R.kind)), (.c 0 6, .v (.int .i64 R.index)), (.c 0 7, .sl 4 (eTms R.args) none), (.c 0 8, .sl 2 (eTys M) none), (.c 0 9, .sl 2 (eTys B) none)]) (N1 := 1) ?_ ?_
  ·skip
   refine dwk [] TLI_ok hnt fun K hK => ?_; refine hK _ _ ?_; clear hK K
   exact cut_ok VS.toA
  ·refine DW.vs (VS.rowT (x := 5) (by rw [hnt]; decide) 34 4 rfl) ?_
   refine dw_seq ?_; refine dwk [(11, .v (.int .i64 (↑B.length)))] TLI_ok hnt fun K hK => ?_; refine And.intro (dintE (by rw [eTys_len])) ?_; refine hK _ _ ?_; clear hK K; refine dw_seq ?_; refine dw_seq ?_; refine dwk [(14, .v (.int .i64 (↑B.length)))] TLI_ok hnt fun K hK => ?_; refine And.intro (dintE (by rw [eTys_len])) ?_; refine hK _ _ ?_; clear hK K; refine dw_block ?_
   refine dw_loop (ι := { j : Nat // j ≤ B.length }) (fun j => [(.t 1, .v (.int .i64 n)), (.t 6, .v (.int .i64 ↑B.length)), (.t 13, .sl 2 (eTys B) none), (.t 14, .v (.int .i64 ↑B.length)), (.t 15, .v (.int .i64 ↑j.1)), (.t 5, .sl 4 (eTms ((Li.vars B n).take j.1)) (some 1)), (.r 1, .rw 34 4 j.1)]) 2 (fun j => B.length - j.1) (⟨0, Nat.zero_le _⟩) (VS.toA) fun j => ?_
   obtain ⟨j, hj⟩ := j
   dsimp only
   by_cases hlt : j < B.length
   ·have hc := teta_d B[j] 0 (n + B.length - 1 - j) (hB _ (List.getElem_mem hlt))
    rw [← Li.vars_get B n j hlt, eTm_eq, eTy_eq] at hc
    have hl0 := Li.vars_len B n
    have hsn := eTms_snoc (Li.vars B n) j (by omega)
    have hl1 : (eTms ((Li.vars B n).take j)).length = j := by rw [eTms_len, List.length_take]; omega
    have hl2 : (eTms ((Li.vars B n).take (j + 1))).length = j + 1 := by rw [eTms_len, List.length_take]; omega
    refine dw_seq ?_; refine dwk [(16, .v (.bool true))] TLI_ok hnt fun K hK => ?_; refine And.intro auT ?_; refine hK _ _ ?_; clear hK K; refine dw_seq ?_; refine dw_cond (t := true) rfl ?_; rw [if_pos rfl]; refine dw_skip ?_; refine dw_seq ?_; refine dw_block ?_; refine dw_seq ?_; refine dwk [(18, .q [.sl 2 (eTys B[j].args) none, .v (.int .i64 B[j].base)])] TLI_ok hnt fun K hK => ?_; refine And.intro (elo (eTys_len B)) ?_
    refine And.intro (elv (eTys_getD B j) (eTy_eq _)) ?_; refine hK _ _ ?_; clear hK K; refine dwk [(26, .v (.int .i64 ((n + B.length - 1 - j))))] TLI_ok hnt fun K hK => ?_; refine And.intro (dintE (by rw [IntWalk.i64_in (n + B.length) (by omega), IntWalk.i64_in (n + B.length - 1) (by omega), IntWalk.i64_in _ (by omega)])) ?_; refine dcl (hc) ?_; refine And.intro (⟨by omega, by rw [hl1]; simp; omega⟩) ?_
    refine hK _ _ ?_; clear hK K
    rw [hsn, hl2]
    refine dwk [(32, .v (.int .i64 (↑(j + 1))))] TLI_ok hnt fun K hK => ?_; refine And.intro auI ?_; refine hK _ _ ?_; clear hK K
    refine ⟨⟨j + 1, hlt⟩, by first | omega | (dsimp only; omega), VS.toA⟩
   ·rw [List.take_of_length_le (by rw [Li.vars_len]; omega)]
    refine dw_seq ?_; refine dwk [(16, .v (.bool false))] TLI_ok hnt fun K hK => ?_; refine And.intro auF ?_; refine hK _ _ ?_; clear hK K; refine dw_seq ?_; refine dw_cond (t := false) rfl ?_; rw [if_neg (by simp)]; refine dw_exit ?_; refine dw_seq ?_; refine dwk [] TLI_ok hnt fun K hK => ?_; refine hK _ _ ?_; clear hK K; refine dw_ret ?_
    exact reta rfl
theorem lturn_d (L R : Tm) (M B : List Ty) (t : Tm) (n : Int) (hn : 0 ≤ n ∧ n ≤ 1000000) (hl : B.length ≤ 900) (hB : ∀ b ∈ B, b.size ≤ 1000) (ht : t.args.length ≤ 800000) : CallC Try.prog 154 [.ag (eTm t), .v (.int .i64 n), .p 0 0] [(.c 0 0, .sl 2 (eTys L.binds) none), (.c 0 1, .v (.int .i64 L.kind)), (.c 0 2, .v (.int .i64 L.index)), (.c 0 3, .sl 4 (eTms L.args) none), (.c 0 4, .sl 2 (eTys R.binds) none), (.c 0 5, .v (.int .i64 R.kind)), (.c 0 6, .v (.int .i64 R.index)), (.c 0 7, .sl 4 (eTms R.args) none), (.c 0 8, .sl 2 (eTys M) none), (.c 0 9, .sl 2 (eTys B) none)] [(.c 0 0, .sl 2 (eTys L.binds) none), (.c 0 1, .v (.int .i64 L.kind)), (.c 0 2, .v (.int .i64 L.index)), (.c 0 3, .sl 4 (eTms L.args) none), (.c 0 4, .sl 2 (eTys R.binds) none), (.c 0 5, .v (.int .i64 R.kind)), (.c 0 6, .v (.int .i64 R.index)), (.c 0 7, .sl 4 (eTms R.args) none), (.c 0 8, .sl 2 (eTys M) none), (.c 0 9, .sl 2 (eTys B) none)] (.ag (eTm (.mk t.binds t.kind t.index (Li.vars B n ++ t.args)))) := by
 have hv := lvars_d L R M B n hn (by omega) hB
 have hcat := concatT_d [Li.vars B n, t.args] (by simp [lensT, Li.vars_len]; omega) (by simp)
 simp only [List.flatten_cons, List.flatten_nil, List.append_nil] at hcat
 rw [eTm_eq, eTm_eq]
 simp only [bindsT, kindT, indexT, argsTm]
 refine calldw 1 15 [ResultVar.cell 5 34] TLI_ok Try.func154 rfl Try.ntmps154 rfl fun cx hnt hn0 => ?_
 ·skip
  refine dw_seq ?_; refine dwk [] TLI_ok hnt fun K hK => ?_; refine hK _ _ ?_; clear hK K; refine dw_seq ?_; refine dwkD [(11, .sl 1 (eTmss [Li.vars B n, t.args]) none)] TLI_ok hnt fun K hK => ?_; refine dcl (hv) ?_; refine And.intro (VLe.untag _ _ _) ?_; refine dcl (hcat) ?_; refine hK _ _ (by kernel_rfl) ?_; clear hK K; refine dw_seq ?_; refine dwk [] TLI_ok hnt fun K hK => ?_; refine hK _ _ ?_; clear hK K
  refine dw_ret ?_
  exact reta rfl
theorem leach_d (L R : Tm) (M B : List Ty) (hl : B.length ≤ 900) (hB : ∀ b ∈ B, b.size ≤ 1000) : ∀ (t : Tm) (n : Int), 0 ≤ n → n + t.full ≤ 700000 → CallC Try.prog 153 [.ag (eTm t), .v (.int .i64 n), .fn 154 [.p 0 0]] [(.c 0 0, .sl 2 (eTys L.binds) none), (.c 0 1, .v (.int .i64 L.kind)), (.c 0 2, .v (.int .i64 L.index)), (.c 0 3, .sl 4 (eTms L.args) none), (.c 0 4, .sl 2 (eTys R.binds) none), (.c 0 5, .v (.int .i64 R.kind)), (.c 0 6, .v (.int .i64 R.index)), (.c 0 7, .sl 4 (eTms R.args) none), (.c 0 8, .sl 2 (eTys M) none), (.c 0 9, .sl 2 (eTys B) none)] [(.c 0 0, .sl 2 (eTys L.binds) none), (.c 0 1, .v (.int .i64 L.kind)), (.c 0 2, .v (.int .i64 L.index)), (.c 0 3, .sl 4 (eTms L.args) none), (.c 0 4, .sl 2 (eTys R.binds) none), (.c 0 5, .v (.int .i64 R.kind)), (.c 0 6, .v (.int .i64 R.index)), (.c 0 7, .sl 4 (eTms R.args) none), (.c 0 8, .sl 2 (eTys M) none), (.c 0 9, .sl 2 (eTys B) none)] (.ag (eTm (Li.lif B t n))) := by
 intro t
 induction t using Tm.ind with
 | h b k i a ih =>
 intro n h0 hz
 rw [Tm.full_eq] at hz
 have hbl := Ty.le_sizes b
 have hal := cFulls_len a
 have hfl := pflex_d (.mk b k i a)
 obtain ⟨n', hn⟩ : ∃ n' : Int, n' = n + b.length := ⟨_, rfl⟩
 have htu := lturn_d L R M B (.mk b k i (Li.lifs B a n')) n' (by omega) hl hB (by simp only [argsTm, Li.lifs_len]; omega)
 rw [Li.lif_eq, ← hn]
 obtain ⟨v, hv⟩ : ∃ v, Li.vars B n' = v := ⟨_, rfl⟩
 have hl0 := Li.lifs_len B a n'
 have hsn := Li.lifs_snoc B a n'
 obtain ⟨r, hr⟩ : ∃ r, Li.lifs B a n' = r := ⟨_, rfl⟩
 rw [hr] at htu hsn hl0 ⊢
 rw [eTm_eq, eTm_eq] at htu
 rw [eTm_eq] at hfl
 rw [eTm_eq, eTm_eq]
 simp only [bindsT, kindT, indexT, argsTm] at htu hfl ⊢
 rw [hv] at htu ⊢
 have hfl : ∀ c : Bool, decide (k = 2) = c → PureC Try.prog 112 [.ag [.sl 2 (eTys b) none, .v (.int .i64 k), .v (.int .i64 i), .sl 4 (eTms a) none]] (.v (.bool c)) := fun c h => h ▸ hfl
 clear hv hr
 refine calldw 1 44 [ResultVar.cell 6 34] TLI_ok Try.func153 rfl Try.ntmps153 rfl fun cx hnt hn0 => ?_
 ·skip
  refine dw_seq ?_; refine dwk [] TLI_ok hnt fun K hK => ?_; refine hK _ _ ?_; clear hK K; refine dw_seq ?_; refine dwk [(14, .v (.int .i64 (n')))] TLI_ok hnt fun K hK => ?_; refine And.intro (dintE (by rw [eTys_len, IntWalk.i64_in _ (by omega)]; omega)) ?_; refine hK _ _ ?_; clear hK K; refine dw_seq ?_; refine dwk [] TLI_ok hnt fun K hK => ?_; refine hK _ _ ?_; clear hK K
  refine DW.vs (VS.row (k := 14) (off := 3) 34 4 rfl) ?_
  refine dw_seq ?_; refine dw_seq ?_; refine dwk [(22, .v (.int .i64 (↑a.length)))] TLI_ok hnt fun K hK => ?_; refine And.intro (dintE (by rw [eTms_len])) ?_; refine hK _ _ ?_; clear hK K; refine dw_block ?_
  refine dw_loop (ι := { j : Nat // j ≤ a.length }) (fun j => [(.t 1, .v (.int .i64 n')), (.t 2, .fn 154 [.p 0 0]), (.t 3, .p 1 0), (.t 6, .p 2 0), (.t 7, .p 14 0), (.t 21, .sl 4 (eTms a) none), (.t 22, .v (.int .i64 ↑a.length)), (.t 23, .v (.int .i64 ↑j.1)), (.c 1 0, .sl 2 (eTys b) none), (.c 1 1, .v (.int .i64 k)), (.c 1 2, .v (.int .i64 i)), (.c 1 3, .sl 4 (eTms a) none), (.c 2 0, .v (.slice none 0 0)), (.c 2 1, .v (.int .i64 0)), (.c 2 2, .v (.int .i64 0)), (.c 2 3, .v (.slice none 0 0)), (.c 14 0, .sl 2 (eTys b) none), (.c 14 1, .v (.int .i64 k)), (.c 14 2, .v (.int .i64 i)), (.c 14 3, .sl 4 (eTms (r.take j.1)) (some 16)), (.r 16, .rw 34 4 j.1), (.c 0 0, .sl 2 (eTys L.binds) none), (.c 0 1, .v (.int .i64 L.kind)), (.c 0 2, .v (.int .i64 L.index)), (.c 0 3, .sl 4 (eTms L.args) none), (.c 0 4, .sl 2 (eTys R.binds) none), (.c 0 5, .v (.int .i64 R.kind)), (.c 0 6, .v (.int .i64 R.index)), (.c 0 7, .sl 4 (eTms R.args) none), (.c 0 8, .sl 2 (eTys M) none), (.c 0 9, .sl 2 (eTys B) none)]) 17 (fun j => a.length - j.1) (⟨0, Nat.zero_le _⟩) (VS.toA) fun j => ?_
  obtain ⟨j, hj⟩ := j
  dsimp only
  by_cases hlt : j < a.length
  ·have hmem := List.getElem_mem hlt
   have hsz := Tm.full_mem hmem
   have hc := ih _ hmem n' (by omega) (by omega)
   have hs2 := hsn j hlt
   rw [eTm_eq, eTm_eq] at hc
   rw [eTm_eq] at hs2
   have hl1 : (eTms (r.take j)).length = j := by rw [eTms_len, List.length_take]; omega
   have hl2 : (eTms (r.take (j + 1))).length = j + 1 := by rw [eTms_len, List.length_take]; omega
   refine dw_seq ?_; refine dwk [(24, .v (.bool true))] TLI_ok hnt fun K hK => ?_; refine And.intro auT ?_; refine hK _ _ ?_; clear hK K; refine dw_seq ?_; refine dw_cond (t := true) rfl ?_; rw [if_pos rfl]; refine dw_skip ?_; refine dw_seq ?_; refine dw_block ?_; refine dw_seq ?_; refine dwk [(25, .q [.sl 2 (eTys a[j].binds) none, .v (.int .i64 a[j].kind), .v (.int .i64 a[j].index), .sl 4 (eTms a[j].args) none])] TLI_ok hnt fun K hK => ?_
   refine And.intro (elo (eTms_len a)) ?_; refine And.intro (elv (eTms_getD a j) (eTm_eq _)) ?_; refine hK _ _ ?_; clear hK K; refine dwkD [] TLI_ok hnt fun K hK => ?_; refine dcl (hc) ?_; refine And.intro (⟨by omega, by rw [hl1]; simp; omega⟩) ?_; refine hK _ _ (by kernel_rfl) ?_; clear hK K
   rw [hs2, hl2]
   refine dwk [(36, .v (.int .i64 (↑(j + 1))))] TLI_ok hnt fun K hK => ?_; refine And.intro auI ?_; refine hK _ _ ?_; clear hK K
   refine ⟨⟨j + 1, hlt⟩, by first | omega | (dsimp only; omega), VS.toA⟩
  ·rw [List.take_of_length_le (by omega)]
   refine dw_seq ?_; refine dwk [(24, .v (.bool false))] TLI_ok hnt fun K hK => ?_; refine And.intro auF ?_; refine hK _ _ ?_; clear hK K; refine dw_seq ?_; refine dw_cond (t := false) rfl ?_; rw [if_neg (by simp)]
   by_cases hk : k = 2
   ·have hfl := hfl _ (decide_eq_true hk)
    rw [if_pos hk]; refine dw_exit ?_; refine dw_seq ?_; refine dw_seq ?_; refine dwk [] TLI_ok hnt fun K hK => ?_; refine dcl (hfl) ?_; refine hK _ _ ?_; clear hK K; refine dw_cond (t := true) rfl ?_; rw [if_pos rfl]; refine dw_seq ?_; refine dwk [(40, .ag [.sl 2 (eTys b) none, .v (.int .i64 k), .v (.int .i64 i), .sl 4 (eTms r) none])] TLI_ok hnt fun K hK => ?_; refine And.intro (auV) ?_; refine dcl (htu) ?_
    refine hK _ _ ?_; clear hK K; refine dw_ret ?_
    exact reta rfl
   ·have hfl := hfl _ (decide_eq_false hk)
    rw [if_neg hk]; refine dw_exit ?_; refine dw_seq ?_; refine dw_seq ?_; refine dwk [] TLI_ok hnt fun K hK => ?_; refine dcl (hfl) ?_; refine hK _ _ ?_; clear hK K; refine dw_cond (t := false) rfl ?_; rw [if_neg (by simp)]; refine dw_skip ?_; refine dw_seq ?_; refine dwk [] TLI_ok hnt fun K hK => ?_; refine hK _ _ ?_; clear hK K; refine dw_ret ?_
    exact reta rfl
theorem lterm_d (L R : Tm) (M B : List Ty) (t : Tm) (hl : B.length ≤ 900) (hB : ∀ b ∈ B, b.size ≤ 1000) (hz : t.full ≤ 700000) : PureC Try.prog 124 [.ag [.sl 2 (eTys L.binds) none, .v (.int .i64 L.kind), .v (.int .i64 L.index), .sl 4 (eTms L.args) none, .sl 2 (eTys R.binds) none, .v (.int .i64 R.kind), .v (.int .i64 R.index), .sl 4 (eTms R.args) none, .sl 2 (eTys M) none, .sl 2 (eTys B) none], .ag (eTm t)] (.ag (eTm (Li.lif B t 0))) := by
 have he := leach_d L R M B hl hB t 0 (by omega) (by omega)
 rw [eTm_eq, eTm_eq] at he ⊢
 refine calldw 0 8 [ResultVar.cell 4 34] TLI_ok Try.func124 rfl Try.ntmps124 rfl fun cx hnt hn0 => ?_
 ·skip
  refine dw_seq ?_; refine dwk [] TLI_ok hnt fun K hK => ?_; refine hK _ _ ?_; clear hK K; refine dw_seq ?_; refine dwk [] TLI_ok hnt fun K hK => ?_; refine dcl (he) ?_; refine hK _ _ ?_; clear hK K; refine dw_ret ?_
  exact reta rfl
end Go.Proofs.Ytcblpjheoclkeaa

namespace Go.Proofs.Ytcblpjheoclkeaa
open Go.RowKit
namespace Pn
end Pn
end Go.Proofs.Ytcblpjheoclkeaa

namespace Go.Proofs.Ytcblpjheoclkeaa
open Go.RowKit
variable {β : Type} {Ok : Obj → Prop} {B : Nat} {I I' : β → World → Prop}

end Go.Proofs.Ytcblpjheoclkeaa

namespace Go.Proofs.Ytcblpjheoclkeaa
open Go.RowKit

def rpInt : Rp Int where
  n := 1
  R _ _ x v := x = [.int .i64 v]
  len := by rintro F w x a rfl; rfl
  one := by rintro F w x a rfl u hu; simp at hu; subst hu; rfl
  keep := fun h _ => h
  weaken := fun h _ => h

theorem infoI : (Try.prog.info? 3).map (fun i => (i.zero, i.size, i.bytes)) = some (some (.int .i64 0), 1, 8) := by kernel_rfl

def FreshInts (l : List Int) (w : World) (e : Ending) (w' : World) : Prop := ∃ a c, e = .returned (.slice a l.length c) ∧ IsSl rpInt (fun q => w.heap.size ≤ q) w' (.slice a l.length c) l ∧ Below w.heap.size w w'

end Go.Proofs.Ytcblpjheoclkeaa

namespace Go.Proofs.Ytcblpjheoclkeaa
open Go.RowKit

namespace Tm
mutual
def heads : Tm → Int → List (Int × Int)
  | .mk b k i a, n => (if k ≠ 0 then [(k, i)] else if n + (b.length : Int) ≤ i then [(0, i - (n + (b.length : Int)))] else []) ++ headss a (n + (b.length : Int))
def headss : List Tm → Int → List (Int × Int)
  | [], _ => []
  | t :: l, n => heads t n ++ headss l n
end
theorem heads_eq (b : List Ty) (k i : Int) (a : List Tm) (n m : Int) (hm : n + (b.length : Int) = m) : heads (.mk b k i a) n = (if k ≠ 0 then [(k, i)] else if m ≤ i then [(0, i - m)] else []) ++ headss a m := by subst hm; rw [heads]
theorem headss_append (l l' : List Tm) (n : Int) : headss (l ++ l') n = headss l n ++ headss l' n := by
  induction l with
  | nil => simp [headss]
  | cons t l ih => simp [headss, ih]
theorem headss_take (l : List Tm) (n : Int) (j : Nat) (h : j < l.length) : headss (l.take (j + 1)) n = headss (l.take j) n ++ heads l[j] n := by
  rw [List.take_succ_eq_append_getElem h, headss_append]; simp [headss]
theorem headss_len_of {l : List Tm} (h : ∀ t ∈ l, ∀ n, (t.heads n).length ≤ t.full) : ∀ n, (headss l n).length ≤ fulls l := by
  intro n
  induction l with
  | nil => simp [headss, fulls]
  | cons t l ih =>
    have h1 := h t (by simp) n
    have h2 := ih fun u hu => h u (by simp [hu])
    simp only [headss, fulls, List.length_append]; omega
theorem heads_len (t : Tm) : ∀ n, (t.heads n).length ≤ t.full := by
  induction t using Tm.ind with
  | h b k i a ih =>
    intro n
    have h := headss_len_of ih (n + b.length)
    rw [heads_eq _ _ _ _ _ _ rfl, full_eq, List.length_append]
    have : (if k ≠ 0 then [(k, i)] else if n + (b.length : Int) ≤ i then [(0, i - (n + (b.length : Int)))] else []).length ≤ 1 := by
      split
      · simp
      · split <;> simp
    omega
theorem headss_len (l : List Tm) (n : Int) : (headss l n).length ≤ fulls l := headss_len_of (fun t _ n => heads_len t n) n
end Tm

end Go.Proofs.Ytcblpjheoclkeaa

namespace Go.Proofs.Ytcblpjheoclkeaa
open Go.RowKit

end Go.Proofs.Ytcblpjheoclkeaa

namespace Go.Proofs.Ytcblpjheoclkeaa
open Go.RowKit Go.Shelf
attribute [local go_sem] Oper.semAt_some

def hdOf (p : Nat × Nat × Tm) : Option (Int × Int) := if p.2.2.kind ≠ 0 then some (p.2.2.kind, p.2.2.index) else if (p.1 : Int) ≤ p.2.2.index then some (0, IntKind.i64.wrap (p.2.2.index - p.1)) else none
theorem heads_pres_of {l : List Tm} (h : ∀ t ∈ l, ∀ (s d : Nat), t.Fit → t.heads s = (t.pre s d).filterMap hdOf) : ∀ (s d : Nat), (∀ t ∈ l, t.Fit) → Tm.headss l s = (Tm.pres l s d).filterMap hdOf := by
  induction l with
  | nil => intro s d _; simp [Tm.pres, Tm.headss]
  | cons t l ih =>
    intro s d hf
    rw [Tm.pres, Tm.headss, List.filterMap_append, h t (by simp) s d (hf t (by simp)), ih (fun u hu => h u (by simp [hu])) s d (fun u hu => hf u (by simp [hu]))]
theorem heads_pre (t : Tm) : ∀ (s d : Nat), t.Fit → t.heads s = (t.pre s d).filterMap hdOf := by
  induction t using Tm.ind with
  | h b k i a ih =>
    intro s d hf
    obtain ⟨hi0, hi1, hfa⟩ := Tm.fit_iff.1 hf
    rw [Tm.pre_eq, Tm.heads_eq _ _ _ _ _ ((s + b.length : Nat) : Int) (by simp), List.filterMap_cons, heads_pres_of ih _ _ hfa]
    have e : hdOf (s + b.length, d, .mk b k i a) = if k ≠ 0 then some (k, i) else if ((s + b.length : Nat) : Int) ≤ i then some (0, IntKind.i64.wrap (i - ((s + b.length : Nat) : Int))) else none := rfl
    rw [e]
    by_cases hk : k = 0
    · have hk' : ¬ (k ≠ 0) := by simpa using hk
      by_cases h : ((s + b.length : Nat) : Int) ≤ i
      · have hw : IntKind.i64.wrap (i - ((s + b.length : Nat) : Int)) = i - ((s + b.length : Nat) : Int) := IntWalk.i64_in _ (by omega)
        simp only [if_neg hk', if_pos h, hw]; rfl
      · simp only [if_neg hk', if_neg h]; rfl
    · simp only [if_pos hk]; rfl

end Go.Proofs.Ytcblpjheoclkeaa

namespace Go.Proofs.Ytcblpjheoclkeaa
open Go.RowKit

def sortU (zs : List Int) : List Int := Lib.compact (zs.mergeSort fun x y => decide (x ≤ y))

theorem keeps_zero (d : Array Int) : Lib.keeps d 0 = true := by simp [Lib.keeps]
theorem upTo_rises (d : Array Int) : ∀ m, m ≤ d.size → (∀ i j, i ≤ j → j < d.size → d[i]! ≤ d[j]!) → (Lib.compactUpTo d m).Pairwise (· < ·) ∧ (∀ x ∈ Lib.compactUpTo d m, ∃ j, j < m ∧ d[j]! = x) ∧ (∀ j, j < m → d[j]! ∈ Lib.compactUpTo d m) := by
  intro m
  induction m with
  | zero => intro _ _; simp [Lib.compactUpTo]
  | succ m ih =>
    intro hm hs
    obtain ⟨h1, h2, h3⟩ := ih (by omega) hs
    rw [Lib.compactUpTo_succ]
    by_cases hk : Lib.keeps d m = true
    · rw [if_pos hk]
      refine ⟨?_, ?_, ?_⟩
      · rw [List.pairwise_append]
        refine ⟨h1, by simp, fun a ha b hb => ?_⟩
        obtain ⟨j, hj, rfl⟩ := h2 a ha
        simp at hb; subst hb
        have hle := hs j (m - 1) (by omega) (by omega)
        have hle2 := hs (m - 1) m (by omega) (by omega)
        have hne : d[m - 1]! ≠ d[m]! := by
          cases m with
          | zero => omega
          | succ k =>
            have : d[k + 1]! ≠ d[k]! := by simpa [Lib.keeps] using hk
            exact fun e => this e.symm
        omega
      · intro x hx
        rcases List.mem_append.1 hx with hx | hx
        · obtain ⟨j, hj, e⟩ := h2 x hx; exact ⟨j, by omega, e⟩
        · simp at hx; exact ⟨m, by omega, hx.symm⟩
      · intro j hj
        rw [List.mem_append]
        by_cases hjm : j = m
        · subst hjm; right; simp
        · left; exact h3 j (by omega)
    · rw [if_neg hk, List.append_nil]
      refine ⟨h1, fun x hx => by obtain ⟨j, hj, e⟩ := h2 x hx; exact ⟨j, by omega, e⟩, fun j hj => ?_⟩
      by_cases hjm : j = m
      · subst hjm
        cases j with
        | zero => exact absurd (keeps_zero d) hk
        | succ k =>
          have : d[k + 1]! = d[k]! := by simpa [Lib.keeps] using hk
          rw [this]; exact h3 k (by omega)
      · exact h3 j (by omega)

theorem sortU_spec (zs : List Int) : (sortU zs).Pairwise (· < ·) ∧ ∀ x, x ∈ sortU zs ↔ x ∈ zs := by
  obtain ⟨ss, hss⟩ : ∃ ss, (zs.mergeSort fun x y => decide (x ≤ y)) = ss := ⟨_, rfl⟩
  have hp : ss.Perm zs := by rw [← hss]; exact List.mergeSort_perm _ _
  have hs : ss.Pairwise (fun x y => x ≤ y) := by
    have := List.pairwise_mergeSort (le := fun x y : Int => decide (x ≤ y)) (fun a b c h1 h2 => by simp at *; omega) (fun a b => by simp; omega) zs
    rw [hss] at this
    simpa using this
  have hs' : ∀ i j, i ≤ j → j < ss.toArray.size → ss.toArray[i]! ≤ ss.toArray[j]! := by
    intro i j hij hj
    have hj' : j < ss.length := by simpa using hj
    have hi' : i < ss.length := by omega
    simp only [List.getElem!_toArray, getElem!_pos ss i hi', getElem!_pos ss j hj']
    by_cases e : i = j
    · subst e; exact Int.le_refl _
    · exact List.pairwise_iff_getElem.1 hs i j hi' hj' (by omega)
  obtain ⟨h1, h2, h3⟩ := upTo_rises ss.toArray ss.length (by simp) hs'
  unfold sortU
  rw [hss]
  refine ⟨h1, fun x => ?_⟩
  rw [← hp.mem_iff]
  constructor
  · intro hx
    obtain ⟨j, hj, e⟩ := h2 x hx
    rw [← e]
    simp only [List.getElem!_toArray, getElem!_pos ss j hj]
    exact List.getElem_mem hj
  · intro hx
    obtain ⟨j, hj, e⟩ := List.getElem_of_mem hx
    have := h3 j hj
    simp only [List.getElem!_toArray, getElem!_pos ss j hj, e] at this
    exact this
theorem rises_eq : ∀ {l r : List Int}, l.Pairwise (· < ·) → r.Pairwise (· < ·) → (∀ x, x ∈ l ↔ x ∈ r) → l = r
  | [], [], _, _, _ => rfl
  | [], b :: r, _, _, h => absurd ((h b).2 (by simp)) (by simp)
  | a :: l, [], _, _, h => absurd ((h a).1 (by simp)) (by simp)
  | a :: l, b :: r, h1, h2, h => by
    rw [List.pairwise_cons] at h1 h2
    have hab : a = b := by
      have ha := (h a).1 (by simp)
      have hb := (h b).2 (by simp)
      rcases List.mem_cons.1 ha with e | ha
      · exact e
      rcases List.mem_cons.1 hb with e | hb
      · exact e.symm
      have := h2.1 a ha; have := h1.1 b hb; omega
    subst hab
    rw [rises_eq h1.2 h2.2 fun x => ?_]
    constructor
    · intro hx
      rcases List.mem_cons.1 ((h x).1 (by simp [hx])) with e | hx'
      · have := h1.1 x hx; omega
      · exact hx'
    · intro hx
      rcases List.mem_cons.1 ((h x).2 (by simp [hx])) with e | hx'
      · have := h2.1 x hx; omega
      · exact hx'
theorem sortU_twice (zs : List Int) : sortU (zs ++ zs) = sortU zs :=
  rises_eq (sortU_spec _).1 (sortU_spec _).1 fun x => by rw [(sortU_spec _).2, (sortU_spec _).2]; simp

theorem sort_own {base : Nat} {w : World} {v : Value} {zs : List Int} (h : w.ownsRow base 3 1 v zs.length (zs.map (Value.int .i64))) (hl : zs.length ≤ 1000000) :
    Calls Try.prog 67 #[v] w fun e w' => e = .returned (.tuple #[]) ∧ w'.ownsRow base 3 1 v zs.length ((zs.mergeSort fun x y => decide (x ≤ y)).map (Value.int .i64)) ∧ w.grownBy w' v.ownBlock := by
  by_cases hv : v = .slice none 0 0
  · subst hv
    have h0 : zs = [] := by
      rcases h.2 with ⟨_, e⟩ | ⟨_, _, _, e, _⟩
      · exact List.eq_nil_of_length_eq_zero e
      · cases e
    subst h0
    refine (Try.slices_Sort_int_none none 0 w).mono ?_
    rintro e w' ⟨rfl, rfl⟩
    exact ⟨rfl, by simpa using h, ⟨rfl, rfl, rfl, Nat.le_refl _, fun _ _ _ => rfl⟩⟩
  · obtain ⟨g, cap, rfl, hb, hlt, hn, hm, _, hH⟩ := Lib.holds_of_ownsRow h hv
    refine (Try.slices_Sort_int g 0 cap zs w hH hlt (by omega)).mono ?_
    rintro e w' ⟨rfl, n, os, rfl⟩
    refine ⟨rfl, ?_, grownBy_sortedI _⟩
    rcases h.2 with ⟨e, _⟩ | ⟨g', cap', cur, e, _, hg, _, _, hc, _⟩
    · cases e
    · cases e
      exact ownsRow_sortedI (ss := zs) (by simp) hb hg hn hm hc

theorem compact_own {base : Nat} {w : World} {v : Value} {zs : List Int} (h : w.ownsRow base 3 1 v zs.length (zs.map (Value.int .i64))) (hl : zs.length ≤ 1000000) :
    Calls Try.prog 68 #[v] w fun e w' => ∃ v', e = .returned v' ∧ w'.ownsRow base 3 1 v' (Lib.compact zs).length ((Lib.compact zs).map (Value.int .i64)) ∧ w.grownBy w' v.ownBlock := by
  by_cases hv : v = .slice none 0 0
  · subst hv
    have h0 : zs = [] := by
      rcases h.2 with ⟨_, e⟩ | ⟨_, _, _, e, _⟩
      · exact List.eq_nil_of_length_eq_zero e
      · cases e
    subst h0
    refine (Try.slices_Compact_int_empty none 0 w).mono ?_
    rintro e w' ⟨rfl, rfl⟩
    exact ⟨_, rfl, h, ⟨rfl, rfl, rfl, Nat.le_refl _, fun _ _ _ => rfl⟩⟩
  · obtain ⟨g, cap, rfl, hb, hlt, hn, hm, _, hH⟩ := Lib.holds_of_ownsRow h hv
    refine (Try.slices_Compact_int g 0 cap zs w hH (by omega) hn).mono ?_
    rintro e w' ⟨rfl, q, rfl⟩
    have hcl := Lib.compact_length_le zs
    refine ⟨_, rfl, ?_, ?_⟩
    · have := Lib.ownsRow_putRow (q := q) (k := (Lib.compact zs).length) (ys := Lib.compact zs ++ List.replicate (zs.length - (Lib.compact zs).length) 0) h (by simp; omega) hcl
      simpa using this
    · have := grownBy_sortedI (w := w) (g := g) (n := q) (os := #[]) (Lib.compact zs ++ List.replicate (zs.length - (Lib.compact zs).length) 0).toArray
      simpa [Value.ownBlock] using this

theorem own_ints {base : Nat} {w : World} {v : Value} {l : List Int} (h : w.ownsRow base 3 1 v l.length (l.map (Value.int .i64))) : ∃ a c, v = .slice a l.length c ∧ IsSl rpInt (fun q => base ≤ q) w v l := by
  have hA : Acc rpInt 3 base (fun _ => False) w v l := by
    refine ⟨l.map (fun z => [.int .i64 z]), by simp, ?_, fun i hi => ⟨[.int .i64 l[i]], by simp [List.getElem?_eq_getElem hi], rfl⟩⟩
    have : (l.map (fun z => [Value.int .i64 z])).flatten = l.map (Value.int .i64) := by
      clear h
      induction l with
      | nil => rfl
      | cons a l ih => simp only [List.map_cons, List.flatten_cons, ih]; rfl
    rw [this]; exact h
  obtain ⟨a, c, hv⟩ := hA.len_shape
  exact ⟨a, c, hv, hA.sl (fun _ _ h => h.elim) (fun _ h => h)⟩
end Go.Proofs.Ytcblpjheoclkeaa

namespace Go.Proofs.Ytcblpjheoclkeaa
open Go.RowKit

theorem leaves_marks {F : Fence} {n : Nat} {P : Program} {fn : Func} {tmps : Array Value} {R : Ending → World → Prop} (B : Nat) : ∀ (Ds : List Nat) (w : World), Ds.Nodup → B ≤ w.heap.size → (∀ D ∈ Ds, B ≤ D ∧ w.heap[D]? = some (.deferred (some []))) →
    (∀ w', Keep (fun _ => True) w w' → Below B w w' → LeavesIn F n P fn tmps R [] .returning w') → LeavesInM F n P fn tmps R (Ds.map fun D => { target := .collected D, args := #[] }) .returning w
  | [], w, _, _, _, hk => hk w (Keep.refl _ _) (Below.refl _ _)
  | D :: Ds, w, hd, hB, hD, hk => by
    rw [List.nodup_cons] at hd
    have h1 := hD D (by simp)
    have hlt : D < w.heap.size := (Array.getElem?_eq_some_iff.1 h1.2).1
    refine ⟨by simp, .inl ⟨D, _, rfl, run_takeDeferred h1.2, ?_⟩⟩
    have hbel : Below B w (w.putObj D (.deferred none)) := (Below.refl _ _).grown (grownBy_putObj' w D (.deferred none)) hB (fun r e => by cases e; exact h1.1)
    have hkp : Keep (fun _ => True) w (w.putObj D (.deferred none)) := fun o v k _ hv => cell_kept hv (grownBy_putObj' _ D (.deferred none)) (fun r e => by cases e; exact ⟨_, h1.2, rfl⟩)
    refine leaves_marks B Ds _ hd.2 (by simpa using hB) (fun D' hD' => ⟨(hD D' (by simp [hD'])).1, ?_⟩) fun w' hk' hb' => hk w' (hkp.trans hk') (hbel.trans hb')
    have hne : D' ≠ D := fun e => hd.1 (e ▸ hD')
    exact (World.putObj_heap_other hne).trans (hD D' (by simp [hD'])).2

theorem keepsOthers_grown {W W' : World} {row : Option Nat} (hg : W.grownBy W' row) (hr : ∀ r, row = some r → ∃ o : Obj, W.heap[r]? = some o ∧ o.isCells = true) : KeepsOthers W W' :=
  ⟨hg.size, fun k o ho hc => (hg.block k (Array.getElem?_eq_some_iff.1 ho).1 (fun e => by
    obtain ⟨o', ho', hc'⟩ := hr k e.symm
    rw [ho] at ho'; cases ho'; rw [hc] at hc'; cases hc')).trans ho⟩

theorem own_row {w : World} {base : Nat} {e : TypeId} {size : Nat} {v : Value} {n : Nat} {xs : List Value} (h : w.ownsRow base e size v n xs) : ∀ r, v.ownBlock = some r → base ≤ r ∧ ∃ cs, w.heap[r]? = some (.cells cs e (0, 0)) := by
  intro r hr
  rcases h.2 with ⟨rfl, _⟩ | ⟨g, cap, cur, rfl, hb, hg, _⟩
  · cases hr
  · cases hr; exact ⟨hb, _, hg⟩
theorem own_kept {w w' : World} {base : Nat} {e : TypeId} {size : Nat} {v : Value} {n : Nat} {xs : List Value} {row : Option Nat} (h : w.ownsRow base e size v n xs) (hg : w.grownBy w' row)
    (hr : ∀ r, row = some r → ∃ o : Obj, w.heap[r]? = some o ∧ ∀ cs, o ≠ .cells cs e (0, 0)) : w'.ownsRow base e size v n xs := by
  refine h.kept hg ?_
  cases hv : v.ownBlock with
  | none => exact .inl rfl
  | some g =>
    refine .inr fun e' => ?_
    obtain ⟨_, cs, hc⟩ := own_row h g hv
    obtain ⟨o, ho, hne⟩ := hr g e'.symm
    rw [hc] at ho; cases ho; exact hne cs rfl

structure OutAt (w : World) (Ds : List Nat) (vv : Value) (zs : List Int) (W : World) : Prop where
  box : Blk W w.heap.size #[vv] 43
  own : W.ownsRow (w.heap.size + 1) 3 1 vv zs.length (zs.map (Value.int .i64))
  nod : Ds.Nodup
  marks : ∀ D ∈ Ds, w.heap.size + 1 ≤ D ∧ W.heap[D]? = some (.deferred (some []))
  below : Below w.heap.size w W
def OutG (B k : Nat) (t : TypeId) : Prop := k < B ∨ (B < k ∧ t ≠ 3)
namespace OutAt
variable {w W W' : World} {Ds : List Nat} {vv : Value} {zs : List Int}
theorem lt (h : OutAt w Ds vv zs W) : ∀ D ∈ Ds, D < W.heap.size := fun D hD => (Array.getElem?_eq_some_iff.1 (h.marks D hD).2).1
theorem blw (h : OutAt w Ds vv zs W) (hb : Below W.heap.size W W') : OutAt w Ds vv zs W' :=
  ⟨h.box.below hb, ownsRow_below h.own hb, h.nod, fun D hD => ⟨(h.marks D hD).1, (hb.block D (h.lt D hD)).trans (h.marks D hD).2⟩, h.below.trans (hb.mono h.below.size)⟩
theorem alloc (h : OutAt w Ds vv zs W) (o : Obj) : OutAt w Ds vv zs (W.alloc o) := h.blw ((Below.refl _ _).alloc (Nat.le_refl _) _)
theorem grown {B : Nat} {row : Option Nat} (h : OutAt w Ds vv zs W) (hlt : ∀ D ∈ Ds, D < B) (hwB : w.heap.size < B) (hg : W.grownBy W' row)
    (hr : ∀ r, row = some r → B ≤ r ∧ ∃ o : Obj, W.heap[r]? = some o ∧ ∀ cs, o ≠ .cells cs 3 (0, 0)) : OutAt w Ds vv zs W' :=
  ⟨h.box.grown hg (fun e => by have := (hr _ e).1; omega), own_kept h.own hg (fun r e => (hr r e).2), h.nod,
    fun D hD => ⟨(h.marks D hD).1, (hg.block D (h.lt D hD) (fun e => by have := (hr _ e.symm).1; have := hlt D hD; omega)).trans (h.marks D hD).2⟩,
    h.below.grown hg h.below.size (fun r e => by have := (hr r e).1; omega)⟩
theorem mark (h : OutAt w Ds vv zs W) {D : Nat} (hD : W.heap[D]? = some (.deferred (some []))) (hn : ∀ D' ∈ Ds, D' < D) (hw : w.heap.size + 1 ≤ D) : OutAt w (D :: Ds) vv zs W :=
  ⟨h.box, h.own, List.nodup_cons.2 ⟨fun hm => by have := hn D hm; omega, h.nod⟩, fun D' h' => by
    rcases List.mem_cons.1 h' with rfl | h'
    · exact ⟨hw, hD⟩
    · exact h.marks D' h', h.below⟩
theorem push (h : OutAt w Ds vv zs W) (x : Int) {w3 : World} {v' : Value} (hg : (W.alloc (.cells #[.int .i64 x] 3)).grownBy w3 vv.ownBlock)
    (hown : w3.ownsRow (w.heap.size + 1) 3 1 v' (zs.length + 1) (zs.map (Value.int .i64) ++ [.int .i64 x])) :
    OutAt w Ds v' (zs ++ [x]) (w3.setCell ⟨w.heap.size, 0, none⟩ v') ∧ KeepsOthers W (w3.setCell ⟨w.heap.size, 0, none⟩ v') ∧ KeepC (OutG w.heap.size) W (w3.setCell ⟨w.heap.size, 0, none⟩ v') := by
  have ho1 := h.own.alloc (.cells #[.int .i64 x] 3)
  have h1 := h.alloc (.cells #[.int .i64 x] 3)
  have hrow := own_row ho1
  have hk3 : KeepsOthers (W.alloc (.cells #[.int .i64 x] 3)) w3 := keepsOthers_grown hg (fun r e => by
    obtain ⟨_, cs, hc⟩ := hrow r e; exact ⟨_, hc, rfl⟩)
  have hbox3 : Blk w3 w.heap.size #[vv] 43 := h1.box.grown hg (fun e => by have := (hrow _ e).1; omega)
  have hbel3 : Below w.heap.size w w3 := h1.below.grown hg h1.below.size (fun r e => by have := (hrow r e).1; omega)
  have hkc : KeepC (OutG w.heap.size) (W.alloc (.cells #[.int .i64 x] 3)) w3 := ⟨hg.size, fun k cs t fr hk hc => (hg.block k (Array.getElem?_eq_some_iff.1 hc).1 (fun e => by
    obtain ⟨hle, cs', hc'⟩ := hrow k e.symm
    rw [hc] at hc'; cases hc'
    rcases hk with hk | hk
    · omega
    · exact hk.2 rfl)).trans hc⟩
  refine ⟨⟨hbox3.set 0 _, ?_, h.nod, fun D hD => ⟨(h1.marks D hD).1, ?_⟩, hbel3.setCell (by simp) _⟩, (((KeepsOthers.alloc W _).trans hk3).trans (KeepsOthers.setCell _ _ _)), ?_⟩
  · have := ownsRow_setCell_below hown (a := ⟨w.heap.size, 0, none⟩) (by simp) v'
    simpa using this
  · exact (KeepsOthers.setCell w3 _ v').same D _ (hk3.same D _ (h1.marks D hD).2 rfl) rfl
  · exact (((KeepC.refl _ W).alloc _).trans hkc).setCell _ _ (fun t ht => by rcases ht with h | h <;> simp at h)
theorem push_box (h : OutAt w Ds vv zs W) {x : Int} {w3 : World} (hg : (W.alloc (.cells #[.int .i64 x] 3)).grownBy w3 vv.ownBlock) : Blk w3 w.heap.size #[vv] 43 :=
  (h.alloc (.cells #[.int .i64 x] 3)).box.grown hg (fun e => by have := (own_row (h.own.alloc (.cells #[.int .i64 x] 3)) _ e).1; omega)
theorem turned (h : OutAt w Ds vv zs W) {ys : List Int} {W' : World} (hg : W.grownBy W' vv.ownBlock) {v' : Value} (hown : W'.ownsRow (w.heap.size + 1) 3 1 v' ys.length (ys.map (Value.int .i64))) :
    (Blk W' w.heap.size #[vv] 43 ∧ ∀ D ∈ Ds, w.heap.size + 1 ≤ D ∧ W'.heap[D]? = some (.deferred (some []))) ∧ Below w.heap.size w W' := by
  have hrow := own_row h.own
  refine ⟨⟨h.box.grown hg (fun e => by have := (hrow _ e).1; omega), fun D hD => ⟨(h.marks D hD).1, ?_⟩⟩, h.below.grown hg h.below.size (fun r e => by have := (hrow r e).1; omega)⟩
  refine (hg.block D (h.lt D hD) (fun e => ?_)).trans (h.marks D hD).2
  obtain ⟨_, cs, hc⟩ := hrow D e.symm
  rw [(h.marks D hD).2] at hc; cases hc
theorem sorted (h : OutAt w Ds vv zs W) {ys : List Int} {W' : World} (hg : W.grownBy W' vv.ownBlock) (hown : W'.ownsRow (w.heap.size + 1) 3 1 vv ys.length (ys.map (Value.int .i64))) : OutAt w Ds vv ys W' :=
  let q := h.turned hg hown
  ⟨q.1.1, hown, h.nod, q.1.2, q.2⟩
theorem leave (h : OutAt w Ds vv zs W) {ys : List Int} {W' : World} (hg : W.grownBy W' vv.ownBlock) {v' : Value} (hown : W'.ownsRow (w.heap.size + 1) 3 1 v' ys.length (ys.map (Value.int .i64)))
    {F : Fence} {n : Nat} {P : Program} {fn : Func} {tmps : Array Value} (hr : ∀ w3 : World, (results fn tmps).run P w3 = .ok v' w3) :
    LeavesInM F n P fn tmps (FreshInts ys w) (Ds.map fun D => { target := .collected D, args := #[] }) .returning W' := by
  obtain ⟨⟨hb, hm⟩, hbel⟩ := h.turned hg hown
  refine leaves_marks (w.heap.size + 1) Ds W' h.nod (by have := hb.lt; omega) hm (fun w3 hk hb3 => ?_)
  obtain ⟨a, c, hv, hs⟩ := own_ints hown
  subst hv
  exact ⟨_, hr w3, a, c, rfl, (hs.keep (fun k o u _ hu => hk k o u trivial hu)).weaken (by decide) (fun q _ hq => by omega), hbel.trans (hb3.mono (by omega))⟩
end OutAt
end Go.Proofs.Ytcblpjheoclkeaa

