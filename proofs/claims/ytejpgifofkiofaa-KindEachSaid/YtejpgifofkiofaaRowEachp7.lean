/-
  The law KindParts, stepped through. The law KindTexts, stepped through, where every name has at most 1048576 bytes. The verifier's all: copies of at most twenty types. The document's Arrow and Rest.
-/
import Derived.Test.YtejpgifofkiofaaRowEachp6
set_option linter.unusedVariables false
set_option linter.unusedSimpArgs false
namespace Go.Proofs.Ytejpgifofkiofaa
open Go.RowKit

theorem of_retB {p : Prop} {w : World} {e : Ending} {w' : World} (h : RetB p w e w') : ∃ r : Bool, Hid (r = true ↔ p) ∧ e = .returned (.bool r) ∧ Below w.heap.size w w' := h

set_option maxRecDepth 100000 in
set_option maxHeartbeats 4000000 in
theorem kindParts_walk {w : World} {s b : Value} {t : Ty} (ht : IsTy (fun _ => True) w s b t) (bases : Int) :
    Calls Try.prog 5 #[.agg #[s, b], .int .i64 bases] w fun e w' => e = .returned (.bool true) ∧ Below w.heap.size w w' := by
  obtain ⟨a, c, rfl, rfl⟩ := ht.shape
  have Ht := Lib.hid ht; clear ht
  obtain ⟨l2, hl2⟩ : ∃ l2, t.args.length = l2 := ⟨_, rfl⟩
  obtain ⟨b2, hb2⟩ : ∃ b2, t.base = b2 := ⟨_, rfl⟩
  rw [hl2, hb2] at Ht ⊢
  have Hl2 := Lib.hid hl2
  have Hb2 := Lib.hid hb2
  clear hl2 hb2
  go_enter Try.func5, Try.ntmps5
  go_wp2_with fail
  have B1 := (Below.refl w.heap.size w).alloc (Nat.le_refl _) (.cells #[.slice a l2 c, .int .i64 b2] 26)
  have B2 := B1.alloc (by simp) (.cells #[.slice a l2 c, .int .i64 b2] 26)
  have x2 := (Blk.new w #[.slice a l2 c, .int .i64 b2] 26 rfl).alloc (.cells #[.slice a l2 c, .int .i64 b2] 26)
  have H2 := Lib.hid (Ht.out.bel B2)
  refine (few04 (isSl_one (Blk.new _ _ _ (by simp)) H2.out) (by simp)).mono ?_
  rintro e w3 ⟨r, hr, rfl, hb3⟩
  have B3 := B2.trans (hb3.mono (by simp; omega))
  have x3 := x2.below (hb3.mono (by simp))
  have H3 := Lib.hid (H2.out.bel hb3)
  cases r
  · clear hr
    go_wp2_with fail
    refine (known04 w3).mono ?_
    rintro e w4 ⟨rfl, hb4⟩
    go_wp2_with fail
    go_ret
    exact ⟨rfl, B3.trans (hb4.mono B3.size)⟩
  have Hr := Lib.hid (show t.size ≤ 100 ∧ t.depth ≤ 70 by have := yes_of hr; simpa using this)
  clear hr hb3
  have c0 : w3.cell? ⟨w.heap.size, 0, none⟩ = some (.slice a l2 c) := x3.cell rfl
  have c1 : w3.cell? ⟨w.heap.size, 1, none⟩ = some (.int .i64 b2) := x3.cell rfl
  go_wp2_with fail
  refine (to_any H3.out w3 (by have := Hr.out; omega) (Keep.refl _ _)).mono ?_
  intro e w4 h
  obtain ⟨s4, b4, rfl, h4, hb4⟩ := h
  obtain ⟨a4, c4, rfl, rfl⟩ := h4.shape
  rw [Hl2.out, Hb2.out] at h4 ⊢
  have y4 := Lib.hid (h4.weaken (F' := fun _ => True) fun _ _ _ => trivial); clear h4
  have H4 := Lib.hid (H3.out.bel hb4)
  have B4 := B3.trans (hb4.mono B3.size)
  have x4 := x3.below hb4
  clear hb4 B3 x3 c0 c1 B1 B2 x2
  go_wp2_with fail
  obtain ⟨w5, hw5⟩ : ∃ w5, w4.alloc (.cells #[.slice a4 l2 c4, .int .i64 b2] 40) = w5 := ⟨_, rfl⟩
  have z5 : Blk w5 w4.heap.size #[.slice a4 l2 c4, .int .i64 b2] 40 := by rw [← hw5]; exact Blk.new _ _ _ rfl
  have x5 : Blk w5 w.heap.size #[.slice a l2 c, .int .i64 b2] 26 := by rw [← hw5]; exact x4.alloc _
  have b5 : Below w4.heap.size w4 w5 := by rw [← hw5]; exact (Below.refl _ _).alloc (Nat.le_refl _) _
  have B5 : Below w.heap.size w w5 := by rw [← hw5]; exact B4.alloc B4.size _
  have H5 := Lib.hid (H4.out.bel b5)
  have y5 := Lib.hid (y4.out.bel b5)
  obtain ⟨bx, hbx⟩ : ∃ bx, w4.heap.size = bx := ⟨_, rfl⟩
  rw [hw5]
  rw [hbx] at z5 ⊢
  have Hlt := Lib.hid (show w.heap.size ≤ bx by rw [← hbx]; exact B4.size)
  clear hw5 hbx b5 B4 x4 H4 y4 H3 H2 Ht
  have l5 := z5.lt
  refine wp_region_noPanic (wp_region_need (S := fun w' => w'.cell? ⟨w.heap.size, 0, none⟩ = some (.slice a l2 c) ∧ w'.cell? ⟨w.heap.size, 1, none⟩ = some (.int .i64 b2) ∧ w'.cell? ⟨bx, 0, none⟩ = some (.slice a4 l2 c4) ∧ w'.cell? ⟨bx, 1, none⟩ = some (.int .i64 b2)) (by kernel_rfl) ?_)
  have hS : (w5.drew).cell? ⟨w.heap.size, 0, none⟩ = some (.slice a l2 c) ∧ (w5.drew).cell? ⟨w.heap.size, 1, none⟩ = some (.int .i64 b2) ∧ (w5.drew).cell? ⟨bx, 0, none⟩ = some (.slice a4 l2 c4) ∧ (w5.drew).cell? ⟨bx, 1, none⟩ = some (.int .i64 b2) := ⟨x5.drew.cell rfl, x5.drew.cell rfl, z5.drew.cell rfl, z5.drew.cell rfl⟩
  refine wpN_step (i := 0) (by kernel_rfl) rfl (fun K hK => ?_)
  go_simp
  refine (known04 _).mono ?_
  rintro e w6 ⟨rfl, hb6⟩
  have x6 := x5.drew.below hb6
  have z6 := z5.drew.below hb6
  have b6 : Below w5.heap.size w5 w6 := ((Below.refl _ _).drew).trans hb6
  have B6 := B5.trans (b6.mono B5.size)
  have H6 := Lib.hid (H5.out.bel b6)
  have y6 := Lib.hid (y5.out.bel b6)
  clear hb6 b6 H5 y5 B5 x5 z5
  have hS : (w6).cell? ⟨w.heap.size, 0, none⟩ = some (.slice a l2 c) ∧ (w6).cell? ⟨w.heap.size, 1, none⟩ = some (.int .i64 b2) ∧ (w6).cell? ⟨bx, 0, none⟩ = some (.slice a4 l2 c4) ∧ (w6).cell? ⟨bx, 1, none⟩ = some (.int .i64 b2) := ⟨x6.cell rfl, x6.cell rfl, z6.cell rfl, z6.cell rfl⟩
  refine hK.out _ _ (fun _ => hS) ?_
  clear hK K
  try simp only [Act.put, List.setIfInBounds_toArray, List.set_cons_zero, List.set_cons_succ]
  refine wpN_take (i := 1) (v := ?v1) rfl (by kernel_rfl) (fun _ _ _ h => h) hS (Or.inl ⟨by rfl, ?hy1⟩) ?hr1
  case hy1 => (intro wS hSw; (try dsimp only at hSw); go_simp; (try with_reducible rfl))
  try simp only [Act.put, List.setIfInBounds_toArray, List.set_cons_zero, List.set_cons_succ]
  refine wpN_take (i := 2) (v := ?v2) rfl (by kernel_rfl) (fun _ _ _ h => h) hS (Or.inl ⟨by rfl, ?hy2⟩) ?hr2
  case hy2 => (intro wS hSw; (try dsimp only at hSw); go_simp; (try with_reducible rfl))
  try simp only [Act.put, List.setIfInBounds_toArray, List.set_cons_zero, List.set_cons_succ]
  refine wpN_take (i := 3) (v := ?v3) rfl (by kernel_rfl) (fun _ _ _ h => h) hS (Or.inl ⟨by rfl, ?hy3⟩) ?hr3
  case hy3 => (intro wS hSw; (try dsimp only at hSw); go_simp; (try with_reducible rfl))
  try simp only [Act.put, List.setIfInBounds_toArray, List.set_cons_zero, List.set_cons_succ]
  refine wpN_take (i := 5) (v := ?v4) rfl (by kernel_rfl) (fun _ _ _ h => h) hS (Or.inl ⟨by rfl, ?hy4⟩) ?hr4
  case hy4 => (intro wS hSw; (try dsimp only at hSw); go_simp; (try with_reducible rfl))
  try simp only [Act.put, List.setIfInBounds_toArray, List.set_cons_zero, List.set_cons_succ]
  refine wpN_take (i := 6) (v := ?v5) rfl (by kernel_rfl) (fun _ _ _ h => h) hS (Or.inl ⟨by rfl, ?hy5⟩) ?hr5
  case hy5 => (intro wS hSw; (try dsimp only at hSw); go_simp; (try with_reducible rfl))
  try simp only [Act.put, List.setIfInBounds_toArray, List.set_cons_zero, List.set_cons_succ]
  refine wpN_step (i := 4) (by kernel_rfl) rfl (fun K hK => ?_)
  go_simp
  refine (right_k y6.out bases (by have := Hr.out; omega)).mono ?_
  intro e w7 h
  obtain ⟨r1, Hr1, rfl, hb7⟩ := of_retB h
  clear h
  have x7 := x6.below hb7
  have z7 := z6.below hb7
  have B7 := B6.trans (hb7.mono B6.size)
  have H7 := Lib.hid (H6.out.bel hb7)
  have y7 := Lib.hid (y6.out.bel hb7)
  clear hb7 H6 y6 B6 x6 z6
  have hS : (w7).cell? ⟨w.heap.size, 0, none⟩ = some (.slice a l2 c) ∧ (w7).cell? ⟨w.heap.size, 1, none⟩ = some (.int .i64 b2) ∧ (w7).cell? ⟨bx, 0, none⟩ = some (.slice a4 l2 c4) ∧ (w7).cell? ⟨bx, 1, none⟩ = some (.int .i64 b2) := ⟨x7.cell rfl, x7.cell rfl, z7.cell rfl, z7.cell rfl⟩
  refine hK.out _ _ (fun _ => hS) ?_
  clear hK K
  try simp only [Act.put, List.setIfInBounds_toArray, List.set_cons_zero, List.set_cons_succ]
  refine wpN_step (i := 7) (by kernel_rfl) rfl (fun K hK => ?_)
  go_simp
  refine (right_r H7.out bases).mono ?_
  intro e w8 h
  obtain ⟨r2, Hr2, rfl, hb8⟩ := of_retB h
  clear h
  have hrr : r2 = r1 := Bool.eq_iff_iff.2 (Hr2.out.trans Hr1.out.symm)
  rw [hrr]
  clear Hr1 Hr2 hrr
  have x8 := x7.below hb8
  have z8 := z7.below hb8
  have B8 := B7.trans (hb8.mono B7.size)
  have H8 := Lib.hid (H7.out.bel hb8)
  have y8 := Lib.hid (y7.out.bel hb8)
  clear hb8 H7 y7 B7 x7 z7
  have hS : (w8).cell? ⟨w.heap.size, 0, none⟩ = some (.slice a l2 c) ∧ (w8).cell? ⟨w.heap.size, 1, none⟩ = some (.int .i64 b2) ∧ (w8).cell? ⟨bx, 0, none⟩ = some (.slice a4 l2 c4) ∧ (w8).cell? ⟨bx, 1, none⟩ = some (.int .i64 b2) := ⟨x8.cell rfl, x8.cell rfl, z8.cell rfl, z8.cell rfl⟩
  refine hK.out _ _ (fun _ => hS) ?_
  clear hK K
  try simp only [Act.put, List.setIfInBounds_toArray, List.set_cons_zero, List.set_cons_succ]
  refine wpN_take (i := 8) (v := ?v6) rfl (by kernel_rfl) (fun _ _ _ h => h) hS (Or.inl ⟨by rfl, ?hy6⟩) ?hr6
  case hy6 => (intro wS hSw; (try dsimp only at hSw); go_simp; (try with_reducible rfl))
  try simp only [Act.put, List.setIfInBounds_toArray, List.set_cons_zero, List.set_cons_succ]
  refine wpN_take (i := 9) (v := ?v7) rfl (by kernel_rfl) (fun _ _ _ h => h) hS (Or.inl ⟨by rfl, ?hy7⟩) ?hr7
  case hy7 => (intro wS hSw; (try dsimp only at hSw); go_simp; (try with_reducible rfl))
  try simp only [Act.put, List.setIfInBounds_toArray, List.set_cons_zero, List.set_cons_succ]
  refine wpN_take (i := 10) (v := ?v8) rfl (by kernel_rfl) (fun _ _ _ h => h) hS (Or.inl ⟨by rfl, ?hy8⟩) ?hr8
  case hy8 => (intro wS hSw; (try dsimp only at hSw); go_simp; (try with_reducible rfl))
  try simp only [Act.put, List.setIfInBounds_toArray, List.set_cons_zero, List.set_cons_succ]
  refine wpN_take (i := 11) (v := ?v9) rfl (by kernel_rfl) (fun _ _ _ h => h) hS (Or.inl ⟨by rfl, ?hy9⟩) ?hr9
  case hy9 => (intro wS hSw; (try dsimp only at hSw); go_simp; (try with_reducible rfl))
  try simp only [Act.put, List.setIfInBounds_toArray, List.set_cons_zero, List.set_cons_succ]
  refine wpN_take (i := 13) (v := ?v10) rfl (by kernel_rfl) (fun _ _ _ h => h) hS (Or.inl ⟨by rfl, ?hy10⟩) ?hr10
  case hy10 => (intro wS hSw; (try dsimp only at hSw); go_simp; (try with_reducible rfl))
  try simp only [Act.put, List.setIfInBounds_toArray, List.set_cons_zero, List.set_cons_succ]
  refine wpN_step (i := 12) (by kernel_rfl) rfl (fun K hK => ?_)
  go_simp
  refine (size_k y8.out (by have := Hr.out; omega)).mono ?_
  rintro e w9 ⟨rfl, hb9⟩
  have x9 := x8.below hb9
  have z9 := z8.below hb9
  have B9 := B8.trans (hb9.mono B8.size)
  have H9 := Lib.hid (H8.out.bel hb9)
  have y9 := Lib.hid (y8.out.bel hb9)
  clear hb9 H8 y8 B8 x8 z8
  have hS : (w9).cell? ⟨w.heap.size, 0, none⟩ = some (.slice a l2 c) ∧ (w9).cell? ⟨w.heap.size, 1, none⟩ = some (.int .i64 b2) ∧ (w9).cell? ⟨bx, 0, none⟩ = some (.slice a4 l2 c4) ∧ (w9).cell? ⟨bx, 1, none⟩ = some (.int .i64 b2) := ⟨x9.cell rfl, x9.cell rfl, z9.cell rfl, z9.cell rfl⟩
  refine hK.out _ _ (fun _ => hS) ?_
  clear hK K
  try simp only [Act.put, List.setIfInBounds_toArray, List.set_cons_zero, List.set_cons_succ]
  refine wpN_step (i := 14) (by kernel_rfl) rfl (fun K hK => ?_)
  go_simp
  refine (size_r H9.out w9 (by have := Hr.out; omega) (Keep.refl _ _)).mono ?_
  rintro e w10 ⟨rfl, hb10⟩
  have x10 := x9.below hb10
  have z10 := z9.below hb10
  have B10 := B9.trans (hb10.mono B9.size)
  have H10 := Lib.hid (H9.out.bel hb10)
  have y10 := Lib.hid (y9.out.bel hb10)
  clear hb10 H9 y9 B9 x9 z9
  have hS : (w10).cell? ⟨w.heap.size, 0, none⟩ = some (.slice a l2 c) ∧ (w10).cell? ⟨w.heap.size, 1, none⟩ = some (.int .i64 b2) ∧ (w10).cell? ⟨bx, 0, none⟩ = some (.slice a4 l2 c4) ∧ (w10).cell? ⟨bx, 1, none⟩ = some (.int .i64 b2) := ⟨x10.cell rfl, x10.cell rfl, z10.cell rfl, z10.cell rfl⟩
  refine hK.out _ _ (fun _ => hS) ?_
  clear hK K
  try simp only [Act.put, List.setIfInBounds_toArray, List.set_cons_zero, List.set_cons_succ]
  refine wpN_take (i := 15) (v := ?v11) rfl (by kernel_rfl) (fun _ _ _ h => h) hS (Or.inl ⟨by rfl, ?hy11⟩) ?hr11
  case hy11 => (intro wS hSw; (try dsimp only at hSw); go_simp; (try with_reducible rfl))
  try simp only [Act.put, List.setIfInBounds_toArray, List.set_cons_zero, List.set_cons_succ]
  refine wpN_take (i := 16) (v := ?v12) rfl (by kernel_rfl) (fun _ _ _ h => h) hS (Or.inl ⟨by rfl, ?hy12⟩) ?hr12
  case hy12 => (intro wS hSw; (try dsimp only at hSw); go_simp; (try with_reducible rfl))
  try simp only [Act.put, List.setIfInBounds_toArray, List.set_cons_zero, List.set_cons_succ]
  refine wpN_take (i := 17) (v := ?v13) rfl (by kernel_rfl) (fun _ _ _ h => h) hS (Or.inl ⟨by rfl, ?hy13⟩) ?hr13
  case hy13 => (intro wS hSw; (try dsimp only at hSw); go_simp; (try with_reducible rfl))
  try simp only [Act.put, List.setIfInBounds_toArray, List.set_cons_zero, List.set_cons_succ]
  refine wpN_take (i := 18) (v := ?v14) rfl (by kernel_rfl) (fun _ _ _ h => h) hS (Or.inl ⟨by rfl, ?hy14⟩) ?hr14
  case hy14 => (intro wS hSw; (try dsimp only at hSw); go_simp; (try with_reducible rfl))
  try simp only [Act.put, List.setIfInBounds_toArray, List.set_cons_zero, List.set_cons_succ]
  refine wpN_take (i := 20) (v := ?v15) rfl (by kernel_rfl) (fun _ _ _ h => h) hS (Or.inl ⟨by rfl, ?hy15⟩) ?hr15
  case hy15 => (intro wS hSw; (try dsimp only at hSw); go_simp; (try with_reducible rfl))
  try simp only [Act.put, List.setIfInBounds_toArray, List.set_cons_zero, List.set_cons_succ]
  refine wpN_step (i := 19) (by kernel_rfl) rfl (fun K hK => ?_)
  go_simp
  refine (order_k y10.out w10 (by have := Hr.out; omega) (Keep.refl _ _)).mono ?_
  rintro e w11 ⟨rfl, hb11⟩
  have x11 := x10.below hb11
  have z11 := z10.below hb11
  have B11 := B10.trans (hb11.mono B10.size)
  have H11 := Lib.hid (H10.out.bel hb11)
  have y11 := Lib.hid (y10.out.bel hb11)
  clear hb11 H10 y10 B10 x10 z10
  have hS : (w11).cell? ⟨w.heap.size, 0, none⟩ = some (.slice a l2 c) ∧ (w11).cell? ⟨w.heap.size, 1, none⟩ = some (.int .i64 b2) ∧ (w11).cell? ⟨bx, 0, none⟩ = some (.slice a4 l2 c4) ∧ (w11).cell? ⟨bx, 1, none⟩ = some (.int .i64 b2) := ⟨x11.cell rfl, x11.cell rfl, z11.cell rfl, z11.cell rfl⟩
  refine hK.out _ _ (fun _ => hS) ?_
  clear hK K
  try simp only [Act.put, List.setIfInBounds_toArray, List.set_cons_zero, List.set_cons_succ]
  refine wpN_step (i := 21) (by kernel_rfl) rfl (fun K hK => ?_)
  go_simp
  refine (order_r H11.out w11 (by have := Hr.out; omega) (Keep.refl _ _)).mono ?_
  rintro e w12 ⟨rfl, hb12⟩
  have x12 := x11.below hb12
  have z12 := z11.below hb12
  have B12 := B11.trans (hb12.mono B11.size)
  have H12 := Lib.hid (H11.out.bel hb12)
  have y12 := Lib.hid (y11.out.bel hb12)
  clear hb12 H11 y11 B11 x11 z11
  have hS : (w12).cell? ⟨w.heap.size, 0, none⟩ = some (.slice a l2 c) ∧ (w12).cell? ⟨w.heap.size, 1, none⟩ = some (.int .i64 b2) ∧ (w12).cell? ⟨bx, 0, none⟩ = some (.slice a4 l2 c4) ∧ (w12).cell? ⟨bx, 1, none⟩ = some (.int .i64 b2) := ⟨x12.cell rfl, x12.cell rfl, z12.cell rfl, z12.cell rfl⟩
  refine hK.out _ _ (fun _ => hS) ?_
  clear hK K
  try simp only [Act.put, List.setIfInBounds_toArray, List.set_cons_zero, List.set_cons_succ]
  refine wpN_take (i := 22) (v := ?v16) rfl (by kernel_rfl) (fun _ _ _ h => h) hS (Or.inl ⟨by rfl, ?hy16⟩) ?hr16
  case hy16 => (intro wS hSw; (try dsimp only at hSw); go_simp; (try with_reducible rfl))
  try simp only [Act.put, List.setIfInBounds_toArray, List.set_cons_zero, List.set_cons_succ]
  refine wpN_take (i := 23) (v := ?v17) rfl (by kernel_rfl) (fun _ _ _ h => h) hS (Or.inl ⟨by rfl, ?hy17⟩) ?hr17
  case hy17 => (intro wS hSw; (try dsimp only at hSw); go_simp; (try with_reducible rfl))
  try simp only [Act.put, List.setIfInBounds_toArray, List.set_cons_zero, List.set_cons_succ]
  refine wpN_take (i := 24) (v := ?v18) rfl (by kernel_rfl) (fun _ _ _ h => h) hS (Or.inl ⟨by rfl, ?hy18⟩) ?hr18
  case hy18 => (intro wS hSw; (try dsimp only at hSw); go_simp; (try with_reducible rfl))
  try simp only [Act.put, List.setIfInBounds_toArray, List.set_cons_zero, List.set_cons_succ]
  refine wpN_take (i := 25) (v := ?v19) rfl (by kernel_rfl) (fun _ _ _ h => h) hS (Or.inl ⟨by rfl, ?hy19⟩) ?hr19
  case hy19 => (intro wS hSw; (try dsimp only at hSw); go_simp; (try with_reducible rfl))
  try simp only [Act.put, List.setIfInBounds_toArray, List.set_cons_zero, List.set_cons_succ]
  refine wpN_take (i := 27) (v := ?v20) rfl (by kernel_rfl) (fun _ _ _ h => h) hS (Or.inl ⟨by rfl, ?hy20⟩) ?hr20
  case hy20 => (intro wS hSw; (try dsimp only at hSw); go_simp; (try with_reducible rfl))
  try simp only [Act.put, List.setIfInBounds_toArray, List.set_cons_zero, List.set_cons_succ]
  refine wpN_step (i := 26) (by kernel_rfl) rfl (fun K hK => ?_)
  go_simp
  refine (depth_k y12.out (by have := Hr.out; omega)).mono ?_
  rintro e w13 ⟨rfl, hb13⟩
  have x13 := x12.below hb13
  have z13 := z12.below hb13
  have B13 := B12.trans (hb13.mono B12.size)
  have H13 := Lib.hid (H12.out.bel hb13)
  have y13 := Lib.hid (y12.out.bel hb13)
  clear hb13 H12 y12 B12 x12 z12
  have hS : (w13).cell? ⟨w.heap.size, 0, none⟩ = some (.slice a l2 c) ∧ (w13).cell? ⟨w.heap.size, 1, none⟩ = some (.int .i64 b2) ∧ (w13).cell? ⟨bx, 0, none⟩ = some (.slice a4 l2 c4) ∧ (w13).cell? ⟨bx, 1, none⟩ = some (.int .i64 b2) := ⟨x13.cell rfl, x13.cell rfl, z13.cell rfl, z13.cell rfl⟩
  refine hK.out _ _ (fun _ => hS) ?_
  clear hK K
  try simp only [Act.put, List.setIfInBounds_toArray, List.set_cons_zero, List.set_cons_succ]
  refine wpN_step (i := 28) (by kernel_rfl) rfl (fun K hK => ?_)
  go_simp
  refine (depth_r H13.out w13 (by have := Hr.out; omega) (Keep.refl _ _)).mono ?_
  rintro e w14 ⟨rfl, hb14⟩
  have x14 := x13.below hb14
  have z14 := z13.below hb14
  have B14 := B13.trans (hb14.mono B13.size)
  have H14 := Lib.hid (H13.out.bel hb14)
  have y14 := Lib.hid (y13.out.bel hb14)
  clear hb14 H13 y13 B13 x13 z13
  have hS : (w14).cell? ⟨w.heap.size, 0, none⟩ = some (.slice a l2 c) ∧ (w14).cell? ⟨w.heap.size, 1, none⟩ = some (.int .i64 b2) ∧ (w14).cell? ⟨bx, 0, none⟩ = some (.slice a4 l2 c4) ∧ (w14).cell? ⟨bx, 1, none⟩ = some (.int .i64 b2) := ⟨x14.cell rfl, x14.cell rfl, z14.cell rfl, z14.cell rfl⟩
  refine hK.out _ _ (fun _ => hS) ?_
  clear hK K
  try simp only [Act.put, List.setIfInBounds_toArray, List.set_cons_zero, List.set_cons_succ]
  refine wpN_take (i := 29) (v := ?v21) rfl (by kernel_rfl) (fun _ _ _ h => h) hS (Or.inl ⟨by rfl, ?hy21⟩) ?hr21
  case hy21 => (intro wS hSw; (try dsimp only at hSw); go_simp; (try with_reducible rfl))
  try simp only [Act.put, List.setIfInBounds_toArray, List.set_cons_zero, List.set_cons_succ]
  refine wpN_take (i := 30) (v := ?v22) rfl (by kernel_rfl) (fun _ _ _ h => h) hS (Or.inl ⟨by rfl, ?hy22⟩) ?hr22
  case hy22 => (intro wS hSw; (try dsimp only at hSw); go_simp; (try with_reducible rfl))
  try simp only [Act.put, List.setIfInBounds_toArray, List.set_cons_zero, List.set_cons_succ]
  refine wpN_take (i := 31) (v := ?v23) rfl (by kernel_rfl) (fun _ _ _ h => h) hS (Or.inl ⟨by rfl, ?hy23⟩) ?hr23
  case hy23 => (intro wS hSw; (try dsimp only at hSw); go_simp; (try with_reducible rfl))
  try simp only [Act.put, List.setIfInBounds_toArray, List.set_cons_zero, List.set_cons_succ]
  refine wpN_take (i := 32) (v := ?v24) rfl (by kernel_rfl) (fun _ _ _ h => h) hS (Or.inl ⟨by rfl, ?hy24⟩) ?hr24
  case hy24 => (intro wS hSw; (try dsimp only at hSw); go_simp; (try with_reducible rfl))
  try simp only [Act.put, List.setIfInBounds_toArray, List.set_cons_zero, List.set_cons_succ]
  refine wpN_take (i := 34) (v := ?v25) rfl (by kernel_rfl) (fun _ _ _ h => h) hS (Or.inl ⟨by rfl, ?hy25⟩) ?hr25
  case hy25 => (intro wS hSw; (try dsimp only at hSw); go_simp; (try with_reducible rfl))
  try simp only [Act.put, List.setIfInBounds_toArray, List.set_cons_zero, List.set_cons_succ]
  refine wpN_step (i := 33) (by kernel_rfl) rfl (fun K hK => ?_)
  go_simp
  refine (of_any y14.out w14 (by have := Hr.out; omega) (Keep.refl _ _)).mono ?_
  intro e w15 h
  obtain ⟨s15, b15, rfl, h15, hb15⟩ := h
  obtain ⟨a15, c15, rfl, rfl⟩ := h15.shape
  rw [Hl2.out, Hb2.out] at h15 ⊢
  have y15 := Lib.hid (h15.weaken (F' := fun _ => True) fun _ _ _ => trivial); clear h15
  have x15 := x14.below hb15
  have z15 := z14.below hb15
  have B15 := B14.trans (hb15.mono B14.size)
  have H15 := Lib.hid (H14.out.bel hb15)
  clear hb15 H14 y14 B14 x14 z14
  have hS : (w15).cell? ⟨w.heap.size, 0, none⟩ = some (.slice a l2 c) ∧ (w15).cell? ⟨w.heap.size, 1, none⟩ = some (.int .i64 b2) ∧ (w15).cell? ⟨bx, 0, none⟩ = some (.slice a4 l2 c4) ∧ (w15).cell? ⟨bx, 1, none⟩ = some (.int .i64 b2) := ⟨x15.cell rfl, x15.cell rfl, z15.cell rfl, z15.cell rfl⟩
  refine hK.out _ _ (fun _ => hS) ?_
  clear hK K
  try simp only [Act.put, List.setIfInBounds_toArray, List.set_cons_zero, List.set_cons_succ]
  refine wpN_step (i := 35) (by kernel_rfl) rfl (fun K hK => ?_)
  go_simp
  refine (same_r y15.out H15.out w15 (Keep.refl _ _) (Keep.refl _ _)).mono ?_
  intro e w16 h
  obtain ⟨r, Hq, rfl, hb16⟩ := of_retB h
  clear h
  obtain rfl : r = true := Hq.out.2 rfl
  have x16 := x15.below hb16
  have z16 := z15.below hb16
  have B16 := B15.trans (hb16.mono B15.size)
  clear hb16 H15 y15 B15 x15 z15 Hq
  have hS : (w16).cell? ⟨w.heap.size, 0, none⟩ = some (.slice a l2 c) ∧ (w16).cell? ⟨w.heap.size, 1, none⟩ = some (.int .i64 b2) ∧ (w16).cell? ⟨bx, 0, none⟩ = some (.slice a4 l2 c4) ∧ (w16).cell? ⟨bx, 1, none⟩ = some (.int .i64 b2) := ⟨x16.cell rfl, x16.cell rfl, z16.cell rfl, z16.cell rfl⟩
  refine hK.out _ _ (fun _ => hS) ?_
  clear hK K
  try simp only [Act.put, List.setIfInBounds_toArray, List.set_cons_zero, List.set_cons_succ]
  refine wpN_take (i := 36) (v := ?v26) rfl (by kernel_rfl) (fun _ _ _ h => h) hS (Or.inl ⟨by rfl, ?hy26⟩) ?hr26
  case hy26 => (intro wS hSw; (try dsimp only at hSw); go_simp; (try with_reducible rfl))
  try simp only [Act.put, List.setIfInBounds_toArray, List.set_cons_zero, List.set_cons_succ]
  refine wpN_step (i := 37) (by kernel_rfl) rfl (fun K hK => ?_)
  go_simp
  refine hK.out _ _ (fun h => absurd h (by decide)) ?_
  clear hK K
  try simp only [Act.put, List.setIfInBounds_toArray, List.set_cons_zero, List.set_cons_succ]
  refine wpN_done (by kernel_rfl) ?_
  refine NoPanic.normal ?_
  go_wp2_with fail
  go_ret
  exact ⟨rfl, B16⟩
end Go.Proofs.Ytejpgifofkiofaa

namespace Go.Proofs.Ytejpgifofkiofaa
open Go.RowKit

theorem IsSl.take {α : Type} {r : Rp α} {F : Nat → Prop} {w : World} {a : Option Addr} {n c : Nat} {l : List α} (h : IsSl r F w (.slice a n c) l) (k : Nat) (hk : k ≤ n) : IsSl r F w (.slice a k c) (l.take k) := by
  obtain ⟨a', c', bl, off, X, hv, hl, ha, h1, h2⟩ := h
  simp only [Value.slice.injEq] at hv
  obtain ⟨rfl, rfl, rfl⟩ := hv
  have hk' : (l.take k).length = k := by simp; omega
  refine ⟨a, c, bl, off, X, by rw [hk'], by omega, fun h => ha (by omega), fun i j u hi hu => h1 i j u (by omega) hu, fun i hi => ?_⟩
  have := h2 i (by omega)
  simpa using this

theorem bytes_eq {s s' : ByteArray} (h : s.data.toList = s'.data.toList) : s = s' := by
  cases s; cases s'; simp at h; simpa using Array.toList_inj.1 (by simpa using h)

set_option maxRecDepth 100000 in
set_option maxHeartbeats 4000000 in
theorem kindTexts_walk {w : World} {s b : Value} {na : Option Addr} {nn nc : Nat} {t : Ty} {names : List ByteArray} (ht : IsTy (fun _ => True) w s b t) (hn : IsSl rpStr (fun _ => True) w (.slice na nn nc) names) (hcap : nn ≤ nc) (hM : ∀ s ∈ names, s.size ≤ 1048576) :
    Calls Try.prog 6 #[.agg #[s, b], .slice na nn nc] w fun e w' => e = .returned (.bool true) ∧ Below w.heap.size w w' := by
  obtain ⟨a, c, rfl, rfl⟩ := ht.shape
  have Ht := Lib.hid ht; clear ht
  have hnn : names.length = nn := by obtain ⟨_, _, h⟩ := isSl_shape hn; simp only [Value.slice.injEq] at h; exact h.2.1.symm
  have Hnm := Lib.hid (show names.length ≤ maxLen by obtain ⟨_, _, _, _, _, _, h, _⟩ := hn; exact h.1)
  rw [hnn] at Hnm
  obtain ⟨k, hk⟩ : ∃ k, min nn 20 = k := ⟨_, rfl⟩
  have Hn := Lib.hid (hn.take k (by omega))
  have Hk := Lib.hid (show (names.take k).length = k by simp; omega)
  have HM := Lib.hid (show ∀ s ∈ names.take k, s.size ≤ 1048576 from fun s hs => hM s (List.mem_of_mem_take hs))
  have Hcap := Lib.hid (show (min (nn : Int) 20).toNat = k by omega)
  clear hM hn hnn hk
  obtain ⟨l2, hl2⟩ : ∃ l2, t.args.length = l2 := ⟨_, rfl⟩
  obtain ⟨b2, hb2⟩ : ∃ b2, t.base = b2 := ⟨_, rfl⟩
  rw [hl2, hb2] at Ht ⊢
  have Hl2 := Lib.hid hl2
  have Hb2 := Lib.hid hb2
  clear hl2 hb2
  go_enter Try.func6, Try.ntmps6
  go_wp2_with fail
  rw [Hcap.out]
  have B1 := (Below.refl w.heap.size w).alloc (Nat.le_refl _) (.cells #[.slice a l2 c, .int .i64 b2] 26)
  have B2 := B1.alloc (by simp) (.cells #[.slice a l2 c, .int .i64 b2] 26)
  have x2 := (Blk.new w #[.slice a l2 c, .int .i64 b2] 26 rfl).alloc (.cells #[.slice a l2 c, .int .i64 b2] 26)
  have H2 := Lib.hid (Ht.out.bel B2)
  refine (few04 (isSl_one (Blk.new _ _ _ (by simp)) H2.out) (by simp)).mono ?_
  rintro e w3 ⟨r, hr, rfl, hb3⟩
  have B3 := B2.trans (hb3.mono (by simp; omega))
  have x3 := x2.below (hb3.mono (by simp))
  have H3 := Lib.hid (H2.out.bel hb3)
  cases r
  · clear hr
    go_wp2_with fail
    refine (known04 w3).mono ?_
    rintro e w4 ⟨rfl, hb4⟩
    go_wp2_with fail
    go_ret
    exact ⟨rfl, B3.trans (hb4.mono B3.size)⟩
  have Hr := Lib.hid (show t.size ≤ 100 ∧ t.depth ≤ 70 by have := yes_of hr; simpa using this)
  clear hr hb3
  have c0 : w3.cell? ⟨w.heap.size, 0, none⟩ = some (.slice a l2 c) := x3.cell rfl
  have c1 : w3.cell? ⟨w.heap.size, 1, none⟩ = some (.int .i64 b2) := x3.cell rfl
  go_wp2_with fail
  refine (to_any H3.out w3 (by have := Hr.out; omega) (Keep.refl _ _)).mono ?_
  intro e w4 h
  obtain ⟨s4, b4, rfl, h4, hb4⟩ := h
  obtain ⟨a4, c4, rfl, rfl⟩ := h4.shape
  rw [Hl2.out, Hb2.out] at h4 ⊢
  have y4 := Lib.hid (h4.weaken (F' := fun _ => True) fun _ _ _ => trivial); clear h4
  have H4 := Lib.hid (H3.out.bel hb4)
  have B4 := B3.trans (hb4.mono B3.size)
  have x4 := x3.below hb4
  have N4 := Lib.hid (Hn.out.keep ((Keep.refl _ _).below B4))
  clear hb4 B3 x3 c0 c1 B1 B2 x2 H3 H2 Ht Hn
  go_wp2_with fail
  refine (Text_k y4.out N4.out HM.out (by have := Hr.out; omega)).mono ?_
  intro e w5 h
  have hb5 : Below w4.heap.size w4 w5 := by rcases h with ⟨_, _, _, _, h⟩ | ⟨_, _, h⟩ <;> exact h
  have B5 := B4.trans (hb5.mono B4.size)
  have x5 := x4.below hb5
  have H5 := Lib.hid (H4.out.bel hb5)
  have N5 := Lib.hid (N4.out.keep ((Keep.refl _ _).below hb5))
  clear x4 H4 B4 N4 y4
  have c0 : w5.cell? ⟨w.heap.size, 0, none⟩ = some (.slice a l2 c) := x5.cell rfl
  have c1 : w5.cell? ⟨w.heap.size, 1, none⟩ = some (.int .i64 b2) := x5.cell rfl
  rcases h with ⟨hr, s5, rfl, hs5, _⟩ | ⟨hr, rfl, _⟩
  · have Hs := Lib.hid hs5; clear hs5
    have Hq := Lib.hid hr; clear hr
    go_wp2_with fail
    refine (right_r H5.out k).mono ?_
    intro e w6 h
    obtain ⟨r, Hq2, rfl, hb6⟩ := of_retB h
    clear h
    obtain rfl : r = true := Hq2.out.2 (by have := Hq.out; rwa [Hk.out] at this)
    have B6 := B5.trans (hb6.mono B5.size)
    have x6 := x5.below hb6
    have H6 := Lib.hid (H5.out.bel hb6)
    have N6 := Lib.hid (N5.out.keep ((Keep.refl _ _).below hb6))
    clear x5 H5 B5 N5 c0 c1 hb6 hb5 Hq2
    go_wp2_with fail
    refine (known04 w6).mono ?_
    rintro e w7 ⟨rfl, hb7⟩
    have B7 := B6.trans (hb7.mono B6.size)
    have x7 := x6.below hb7
    have H7 := Lib.hid (H6.out.bel hb7)
    have N7 := Lib.hid (N6.out.keep ((Keep.refl _ _).below hb7))
    clear x6 H6 B6 N6 hb7
    have c0 : w7.cell? ⟨w.heap.size, 0, none⟩ = some (.slice a l2 c) := x7.cell rfl
    have c1 : w7.cell? ⟨w.heap.size, 1, none⟩ = some (.int .i64 b2) := x7.cell rfl
    go_wp2_with fail
    refine (text_r H7.out N7.out HM.out w7 (by have := Hr.out; omega) Hq.out.2.2 (Keep.refl _ _) (Keep.refl _ _)).mono ?_
    rintro e w8 ⟨s8, rfl, hs8, hb8⟩
    obtain rfl : s5 = s8 := bytes_eq (Hs.out.trans hs8.symm)
    clear hs8
    go_wp2_with fail
    go_ret
    exact ⟨rfl, B7.trans (hb8.mono B7.size)⟩
  · have Hq := Lib.hid hr; clear hr
    go_wp2_with fail
    refine (right_r H5.out k).mono ?_
    intro e w6 h
    obtain ⟨r, Hq2, rfl, hb6⟩ := of_retB h
    clear h
    obtain rfl : r = false := Bool.eq_false_iff.2 fun h => Hq.out (by have := Hq2.out.1 h; rwa [Hk.out])
    have B6 := B5.trans (hb6.mono B5.size)
    clear x5 H5 B5 N5 c0 c1 hb6 hb5 Hq2
    go_wp2_with fail
    refine (known04 w6).mono ?_
    rintro e w7 ⟨rfl, hb7⟩
    have B7 := B6.trans (hb7.mono B6.size)
    go_wp2_with fail
    go_ret
    exact ⟨rfl, B7⟩
end Go.Proofs.Ytejpgifofkiofaa

namespace Go.Proofs.Ytejpgifofkiofaa
open Go.RowKit

def FreshSl (l : List Ty) (w : World) (e : Ending) (w' : World) : Prop := ∃ a c, e = .returned (.slice a l.length c) ∧ IsSl rpTy (fun _ => True) w' (.slice a l.length c) l ∧ Below w.heap.size w w'

set_option maxRecDepth 100000 in
set_option maxHeartbeats 1600000 in
theorem all_any {F : Nat → Prop} {w : World} {v : Value} {l : List Ty} (h : IsSl rpTy F w v l) (hl : l.length ≤ 20) (hsz : ∀ t ∈ l, t.size ≤ 1000) :
    Calls Try.prog 44 #[v] w (FreshSl l w) := by
  obtain ⟨a, c, bl, off, X, rfl, hm, ha, h1, h2⟩ := h
  have H2 : Hid (∀ i (h : i < l.length), ∃ A N C B, X i = [.slice A N C, .int .i64 B] ∧ IsTy F w (.slice A N C) (.int .i64 B) l[i]) := fun i hi => by
    obtain ⟨s, b, hx, ht⟩ := h2 i hi
    obtain ⟨a', c', rfl, rfl⟩ := ht.shape
    exact ⟨_, _, _, _, hx, ht⟩
  have H1 := Lib.hid h1; clear h1 h2 hm
  have Hsz := Lib.hid hsz; clear hsz
  obtain ⟨i0, hi0, hz0, hz1, hz2⟩ := info_parts infoK
  go_enter Try.func44, Try.ntmps44
  go_wp2_with fail
  go_loopw [3, 4] (fun v i wr => ∃ (k : Nat) (a' : Option Addr) (c' : Nat), i = .int .i64 k ∧ v = .slice a' k c' ∧ k ≤ l.length ∧ Below w.heap.size w wr ∧
      Acc rpTy 40 w.heap.size (fun q => w.heap.size ≤ q) wr v (l.take k)) (fun _ i _ => l.length - (intOf i).toNat)
  case atStart => exact ⟨0, none, 0, rfl, rfl, by omega, Below.refl _ _, Acc.nil _ _ _ _ _⟩
  case round =>
    obtain ⟨k, a', c', rfl, rfl, hk, hb, hacc⟩ := hrel
    have Hacc := Lib.hid hacc; clear hacc
    by_cases hlt : k < l.length
    · obtain ⟨rfl, hF⟩ := ha (by omega)
      obtain ⟨A, N, C, B, hx, ht⟩ := H2.out k hlt
      have e1 : wr.cell? ⟨bl, off + k * 2, none⟩ = some (.slice A N C) := ((Keep.refl F w).below hb) _ _ _ hF (H1.out k 0 _ hlt (by rw [hx]; rfl))
      have e2 : wr.cell? ⟨bl, off + k * 2 + 1, none⟩ = some (.int .i64 B) := ((Keep.refl F w).below hb) _ _ _ hF (H1.out k 1 _ hlt (by rw [hx]; rfl))
      have Ht := Lib.hid ht; clear ht hx
      have hlt20 : (k : Int) < 20 := by omega
      have hltl : (k : Int) < (l.length : Int) := by omega
      have hk0 : (0 : Int) ≤ (k : Int) := by omega
      have Hl : Hid ((l.take k).length = k) := by show _ = _; simp; omega
      go_wp2_with fail
      refine (to_any (Ht.out.bel hb) wr (by have := Hsz.out _ (List.getElem_mem hlt); omega) (Keep.refl _ _)).mono ?_
      rintro e w1 ⟨s', b', rfl, hr1, hb1⟩
      obtain ⟨a1, c1, rfl, rfl⟩ := hr1.shape
      have A1 := Lib.hid (Hacc.out.below hb1)
      have hB1 := hb.trans (hb1.mono hb.size)
      have Hr1 := Lib.hid hr1; clear hr1
      have Hb1 := Lib.hid hb1; clear hb1
      have hsz1 := hB1.size
      go_wp2_with (at_builtin; refine wpList_push rpTy (by decide) rfl _ _ _ rfl w.heap.size 40 i0 _ 32 Try.underlying33 hi0 hz0 hz1 hz2 rfl (by decide) (fun q => w.heap.size ≤ q) (.slice a' k c') (l.take k) rfl (A1.out.alloc _) (by rw [Hl.out]; omega) w1.heap.size _ [.slice a1 l[k].args.length c1, .int .i64 l[k].base] l[k] rfl (heap_alloc_new _ _) ⟨_, _, rfl, (Hr1.out.weaken (fun q _ hq => ⟨Nat.le_trans hb.size hq, fun e => by have := (Hacc.out.base_le q e).2; exact absurd this (Nat.not_lt.2 hq)⟩)).keep ((Keep.refl _ _).alloc _)⟩ (by simp; omega) ?_; intro g cap w2 hacc2 hgrow hat hlt2)
      go_roundw
      case rel =>
        refine ⟨k + 1, _, _, by go_num, rfl, by omega, (hB1.alloc hsz1 _).grown hgrow (by simp; omega) (fun q hq => (A1.out.base_le q hq).1), ?_⟩
        rw [Hl.out, ← List.take_succ_eq_append_getElem hlt] at hacc2
        exact hacc2
      case measure => simp [intOf]; omega
    · have hk' : k = l.length := by omega
      subst hk'
      go_wp2_with fail
      go_ret
      have h := Hacc.out
      rw [List.take_of_length_le (by omega)] at h
      exact ⟨_, _, rfl, h.sl (fun _ _ _ => trivial) (fun _ _ => trivial), hb⟩
end Go.Proofs.Ytejpgifofkiofaa

namespace Go.Proofs.Ytejpgifofkiofaa
open Go.RowKit

def AnyTy (F : Nat → Prop) (t : Ty) (w : World) (e : Ending) (w' : World) : Prop := ∃ a c, e = .returned (.agg #[.slice a t.args.length c, .int .i64 t.base]) ∧ IsTy (fun q => F q ∨ w.heap.size ≤ q) w' (.slice a t.args.length c) (.int .i64 t.base) t ∧ Below w.heap.size w w'

theorem sl_cells {F : Nat → Prop} {w : World} {a : Option Addr} {n c : Nat} {l : List Ty} (h : IsSl rpTy F w (.slice a n c) l) : n = l.length ∧ (l.length ≤ maxLen ∧ l.length ≤ c) ∧ ∃ (bl off : Nat) (A : Nat → Option Addr) (N C : Nat → Nat) (B : Nat → Int),
    (0 < l.length → a = some ⟨bl, off, none⟩ ∧ F bl) ∧ (∀ i, i < l.length → w.cell? ⟨bl, off + i * 2, none⟩ = some (.slice (A i) (N i) (C i))) ∧ (∀ i, i < l.length → w.cell? ⟨bl, off + i * 2 + 1, none⟩ = some (.int .i64 (B i))) ∧
    ∀ i (h : i < l.length), IsTy F w (.slice (A i) (N i) (C i)) (.int .i64 (B i)) l[i] := by
  have ht := isTy_mk h 0
  cases ht with
  | mk a n c b args bl off A N C B hn hm ha h1 h2 h3 =>
  subst hn
  exact ⟨rfl, hm, bl, off, A, N, C, B, ha, h1, h2, h3⟩

set_option maxRecDepth 100000 in
set_option maxHeartbeats 1600000 in
theorem arrow_r {F : Nat → Prop} {w : World} {s b v : Value} {t : Ty} {l : List Ty} (ht : IsTy F w s b t) (h : IsSl rpTy F w v l) (hl : l.length + t.args.length ≤ 100000) :
    Calls Try.prog 49 #[.agg #[s, b], v] w (AnyTy F (.mk (l ++ t.args) t.base) w) := by
  obtain ⟨_, hsl⟩ := ht.inv
  obtain ⟨a2, c2, rfl, rfl⟩ := ht.shape
  obtain ⟨a1, c1, rfl⟩ := isSl_shape h
  clear ht
  obtain ⟨_, _, bl, off, A, N, C, B, ha, hc1, hc2, hc3⟩ := sl_cells h
  obtain ⟨_, _, bl', off', A', N', C', B', ha', hc1', hc2', hc3'⟩ := sl_cells hsl
  clear h hsl
  obtain ⟨l2, hl2⟩ : ∃ l2, t.args = l2 := ⟨_, rfl⟩
  obtain ⟨b2, hb2⟩ : ∃ b2, t.base = b2 := ⟨_, rfl⟩
  simp only [hl2] at *
  rw [hb2]
  clear hl2 hb2
  have Hc1 := Lib.hid hc1; have Hc2 := Lib.hid hc2; have Hc3 := Lib.hid hc3
  have Hc1' := Lib.hid hc1'; have Hc2' := Lib.hid hc2'; have Hc3' := Lib.hid hc3'
  clear hc1 hc2 hc3 hc1' hc2' hc3'
  obtain ⟨i0, hi0, hz0, hz1, hz2⟩ := info_parts infoR
  go_enter Try.func49, Try.ntmps49
  go_wp2_with fail
  go_loopw [6] (fun i wr => ∃ (k : Nat) (v : Value), i = .int .i64 k ∧ k ≤ l.length ∧
      Below w.heap.size w wr ∧ Blk wr w.heap.size #[.slice a2 l2.length c2, .int .i64 b2] 26 ∧ Blk wr (w.heap.size + 1) #[.slice none 0 0, .int .i64 0] 26 ∧ Blk wr (w.heap.size + 2) #[v, .int .i64 b2] 26 ∧
      Acc rpTy 26 (w.heap.size + 3) (fun q => F q ∧ q < w.heap.size) wr v (l.take k)) (fun i _ => l.length - (intOf i).toNat)
  case atStart => 
    exact ⟨0, _, rfl, by omega, (((Below.refl _ _).alloc (Nat.le_refl _) _).alloc (by simp) _).alloc (by simp; omega) _, ((Blk.new _ _ _ rfl).alloc _).alloc _, (Blk.new _ _ _ (by simp)).alloc _, Blk.new _ _ _ (by simp), Acc.nil _ _ _ _ _⟩
  case round =>
    obtain ⟨k, v, rfl, hk, hb, hbox, hres, hout, hacc⟩ := hrel
    have c0 : wr.cell? ⟨w.heap.size, 0, none⟩ = some (.slice a2 l2.length c2) := hbox.cell rfl
    have d0 : wr.cell? ⟨w.heap.size + 2, 0, none⟩ = some v := hout.cell rfl
    have hsz := hout.lt
    have Hacc := Lib.hid hacc; clear hacc
    by_cases hlt : k < l.length
    · obtain ⟨rfl, hF⟩ := ha (by omega)
      have hblt := Keep.lt (Hc1.out k hlt)
      have e1 : wr.cell? ⟨bl, off + k * 2, none⟩ = some (.slice (A k) (N k) (C k)) := ((Keep.refl F w).below hb) _ _ _ hF (Hc1.out k hlt)
      have e2 : wr.cell? ⟨bl, off + k * 2 + 1, none⟩ = some (.int .i64 (B k)) := ((Keep.refl F w).below hb) _ _ _ hF (Hc2.out k hlt)
      have hlt0 : (0 : Int) ≤ (k : Int) := Int.natCast_nonneg _
      have hlt1 : (k : Int) < (l.length : Int) := by omega
      have Hl : Hid ((l.take k).length = k) := by show _ = _; simp; omega
      have Hne : Hid (∀ q, q < w.heap.size + 3 → v.ownBlock ≠ some q) := fun q hq e => by have := (Hacc.out.base_le q e).1; omega
      have Hbl : Hid (v.ownBlock ≠ some bl) := Hne.out _ (by omega)
      go_wp2_with fail
      refine wp_region_noPanic (wp_region_need (S := fun w' => w'.cell? ⟨w.heap.size + 2, 0, none⟩ = some v ∧ w'.cell? ⟨bl, off + k * 2, none⟩ = some (.slice (A k) (N k) (C k)) ∧ w'.cell? ⟨bl, off + k * 2 + 1, none⟩ = some (.int .i64 (B k))) (by kernel_rfl) ?_)
      have hS : (wr.drew).cell? ⟨w.heap.size + 2, 0, none⟩ = some v ∧ (wr.drew).cell? ⟨bl, off + k * 2, none⟩ = some (.slice (A k) (N k) (C k)) ∧ (wr.drew).cell? ⟨bl, off + k * 2 + 1, none⟩ = some (.int .i64 (B k)) := ⟨d0, e1, e2⟩
      refine wpN_take (i := 0) (v := ?v1) rfl (by kernel_rfl) (fun _ _ _ h => h) hS (Or.inl ⟨by rfl, ?hy1⟩) ?hr1
      case hy1 => (intro wS hSw; (try dsimp only at hSw); go_simp; (try with_reducible rfl))
      try simp only [Act.put, List.setIfInBounds_toArray, List.set_cons_zero, List.set_cons_succ]
      refine wpN_take (i := 1) (v := ?v2) rfl (by kernel_rfl) (fun _ _ _ h => h) hS (Or.inl ⟨by rfl, ?hy2⟩) ?hr2
      case hy2 => (intro wS hSw; (try dsimp only at hSw); go_simp; (try with_reducible rfl))
      try simp only [Act.put, List.setIfInBounds_toArray, List.set_cons_zero, List.set_cons_succ]
      refine wpN_take (i := 2) (v := ?v3) rfl (by kernel_rfl) (fun _ _ _ h => h) hS (Or.inl ⟨by rfl, ?hy3⟩) ?hr3
      case hy3 => (intro wS hSw; (try dsimp only at hSw); go_simp; (try with_reducible rfl))
      try simp only [Act.put, List.setIfInBounds_toArray, List.set_cons_zero, List.set_cons_succ]
      refine wpN_take (i := 3) (v := ?v4) rfl (by kernel_rfl) (fun _ _ _ h => h) hS (Or.inl ⟨by rfl, ?hy4⟩) ?hr4
      case hy4 => (intro wS hSw; (try dsimp only at hSw); go_simp; (try with_reducible rfl))
      try simp only [Act.put, List.setIfInBounds_toArray, List.set_cons_zero, List.set_cons_succ]
      refine wpN_take (i := 4) (v := ?v5) rfl (by kernel_rfl) (fun _ _ _ h => h) hS (Or.inl ⟨by rfl, ?hy5⟩) ?hr5
      case hy5 => (intro wS hSw; (try dsimp only at hSw); go_simp; (try with_reducible rfl))
      try simp only [Act.put, List.setIfInBounds_toArray, List.set_cons_zero, List.set_cons_succ]
      refine wpN_take (i := 5) (v := ?v6) rfl (by kernel_rfl) (fun _ _ _ h => h) hS (Or.inl ⟨by rfl, ?hy6⟩) ?hr6
      case hy6 => (intro wS hSw; (try dsimp only at hSw); go_simp; (try with_reducible rfl))
      try simp only [Act.put, List.setIfInBounds_toArray, List.set_cons_zero, List.set_cons_succ]
      refine wpN_step (i := 6) (by kernel_rfl) rfl (fun K hK => ?_)
      go_simp
      have hS : (wr.drew.alloc (.cells #[.slice (A k) (N k) (C k), .int .i64 (B k)] 26)).cell? ⟨w.heap.size + 2, 0, none⟩ = some v ∧ (wr.drew.alloc (.cells #[.slice (A k) (N k) (C k), .int .i64 (B k)] 26)).cell? ⟨bl, off + k * 2, none⟩ = some (.slice (A k) (N k) (C k)) ∧ (wr.drew.alloc (.cells #[.slice (A k) (N k) (C k), .int .i64 (B k)] 26)).cell? ⟨bl, off + k * 2 + 1, none⟩ = some (.int .i64 (B k)) := ⟨(hout.drew.alloc _).cell rfl, ((Keep.refl (fun _ => True) wr).drew.alloc _) _ _ _ trivial e1, ((Keep.refl (fun _ => True) wr).drew.alloc _) _ _ _ trivial e2⟩
      refine hK.out _ _ (fun _ => hS) ?_
      clear hK K
      try simp only [Act.put, List.setIfInBounds_toArray, List.set_cons_zero, List.set_cons_succ]
      refine wpN_step (i := 7) (by kernel_rfl) rfl (fun K hK => ?_)
      refine step_push rpTy (by decide) (by rfl) _ _ _ (by rfl) (w.heap.size + 3) 26 i0 _ 32 Try.underlying24 hi0 hz0 hz1 hz2 rfl (by decide)
             (fun q => F q ∧ q < w.heap.size) v (l.take k) (by rfl) ((Hacc.out.drew).alloc _) (by rw [Hl.out]; omega)
             wr.heap.size _ [.slice (A k) (N k) (C k), .int .i64 (B k)] l[k] (by rfl) (heap_alloc_new _ _) ⟨_, _, rfl, ((Hc3.out k hlt).weaken (fun q hq hf => ⟨⟨hf, hq⟩, Hne.out _ (by omega)⟩)).keep (((Keep.refl _ _).below hb).drew.alloc _)⟩ (by simp; omega) ?_
      intro gg cap w2 hacc2 hgrow hat hlt2
      have hK2 : Keep (fun q => v.ownBlock ≠ some q) wr w2 := ((Keep.refl _ _).drew.alloc _).grown hgrow (fun _ hr hf => hf hr)
      have o2 := (hout.drew.alloc _).grown hgrow (Hne.out _ (by omega))
      have o1 := (hres.drew.alloc _).grown hgrow (Hne.out _ (by omega))
      have o0 := (hbox.drew.alloc _).grown hgrow (Hne.out _ (by omega))
      have hb2 : Below w.heap.size w w2 := (hb.drew.alloc (by simp; omega) _).grown hgrow (by simp; omega) (fun q hq => by have := (Hacc.out.base_le q hq).1; omega)
      have hS : (w2).cell? ⟨w.heap.size + 2, 0, none⟩ = some v ∧ (w2).cell? ⟨bl, off + k * 2, none⟩ = some (.slice (A k) (N k) (C k)) ∧ (w2).cell? ⟨bl, off + k * 2 + 1, none⟩ = some (.int .i64 (B k)) := ⟨o2.cell (i := 0) rfl, hK2 _ _ _ Hbl.out e1, hK2 _ _ _ Hbl.out e2⟩
      have p2 := o2.free 0
      have Hacc2 := Lib.hid hacc2; clear hacc2
      refine hK.out _ _ (fun _ => hS) ?_
      clear hK K
      try simp only [Act.put, List.setIfInBounds_toArray, List.set_cons_zero, List.set_cons_succ]
      refine wpN_take (i := 8) (v := ?v7) rfl (by kernel_rfl) (fun _ _ _ h => h) hS (Or.inl ⟨by rfl, ?hy7⟩) ?hr7
      case hy7 => (intro wS hSw; (try dsimp only at hSw); go_simp; (try with_reducible rfl))
      try simp only [Act.put, List.setIfInBounds_toArray, List.set_cons_zero, List.set_cons_succ]
      refine wpN_step (i := 9) (by kernel_rfl) rfl (fun K hK => ?_)
      go_simp
      refine hK.out _ _ (fun h => absurd h (by decide)) ?_
      clear hK K
      try simp only [Act.put, List.setIfInBounds_toArray, List.set_cons_zero, List.set_cons_succ]
      refine wpN_done (by kernel_rfl) ?_
      refine NoPanic.normal ?_
      go_wp2_with fail
      refine ⟨⟨k + 1, _, by go_num, by omega, hb2.setCell (by simp; omega) _, o0.far _ _ (by simp; omega), o1.far _ _ (by simp), o2.set 0 _, ?_⟩, by simp [intOf]; omega⟩
      have h := Hacc2.out
      rw [Hl.out, ← List.take_succ_eq_append_getElem hlt] at h
      exact h.setCell _ _ (by simp; omega) (by simp)
    · have hk' : k = l.length := by omega
      subst hk'
      have hacc := Hacc.out
      rw [List.take_of_length_le (by omega)] at hacc
      have Hacc := Lib.hid hacc; clear hacc
      clear ha
      go_wp2_with fail
      go_loopw [7] (fun i wr => ∃ (k : Nat) (v : Value), i = .int .i64 k ∧ k ≤ l2.length ∧
          Below w.heap.size w wr ∧ Blk wr w.heap.size #[.slice a2 l2.length c2, .int .i64 b2] 26 ∧ Blk wr (w.heap.size + 1) #[.slice none 0 0, .int .i64 0] 26 ∧ Blk wr (w.heap.size + 2) #[v, .int .i64 b2] 26 ∧
          Acc rpTy 26 (w.heap.size + 3) (fun q => F q ∧ q < w.heap.size) wr v (l ++ l2.take k)) (fun i _ => l2.length - (intOf i).toNat)
      case atStart => exact ⟨0, v, rfl, by omega, hb, hbox, hres, hout, by simpa using Hacc.out⟩
      case round =>
        clear hb hbox hres hout Hacc d0 c0 hsz hlt
        obtain ⟨k, v, rfl, hk, hb, hbox, hres, hout, hacc⟩ := hrel
        have c0 : wr.cell? ⟨w.heap.size, 0, none⟩ = some (.slice a2 l2.length c2) := hbox.cell rfl
        have d0 : wr.cell? ⟨w.heap.size + 2, 0, none⟩ = some v := hout.cell rfl
        have hsz := hout.lt
        have Hacc := Lib.hid hacc; clear hacc
        by_cases hlt : k < l2.length
        · obtain ⟨rfl, hF⟩ := ha' (by omega)
          have hblt := Keep.lt (Hc1'.out k hlt)
          have e1 : wr.cell? ⟨bl', off' + k * 2, none⟩ = some (.slice (A' k) (N' k) (C' k)) := ((Keep.refl F w).below hb) _ _ _ hF (Hc1'.out k hlt)
          have e2 : wr.cell? ⟨bl', off' + k * 2 + 1, none⟩ = some (.int .i64 (B' k)) := ((Keep.refl F w).below hb) _ _ _ hF (Hc2'.out k hlt)
          have hlt0 : (0 : Int) ≤ (k : Int) := Int.natCast_nonneg _
          have hlt1 : (k : Int) < (l2.length : Int) := by omega
          have Hl : Hid ((l ++ l2.take k).length = l.length + k) := by show _ = _; simp; omega
          have Hne : Hid (∀ q, q < w.heap.size + 3 → v.ownBlock ≠ some q) := fun q hq e => by have := (Hacc.out.base_le q e).1; omega
          have Hbl : Hid (v.ownBlock ≠ some bl') := Hne.out _ (by omega)
          go_wp2_with fail
          refine wp_region_noPanic (wp_region_need (S := fun w' => w'.cell? ⟨w.heap.size, 0, none⟩ = some (.slice (some ⟨bl', off', none⟩) l2.length c2) ∧ w'.cell? ⟨w.heap.size + 2, 0, none⟩ = some v ∧ w'.cell? ⟨bl', off' + k * 2, none⟩ = some (.slice (A' k) (N' k) (C' k)) ∧ w'.cell? ⟨bl', off' + k * 2 + 1, none⟩ = some (.int .i64 (B' k))) (by kernel_rfl) ?_)
          have hS : (wr.drew).cell? ⟨w.heap.size, 0, none⟩ = some (.slice (some ⟨bl', off', none⟩) l2.length c2) ∧ (wr.drew).cell? ⟨w.heap.size + 2, 0, none⟩ = some v ∧ (wr.drew).cell? ⟨bl', off' + k * 2, none⟩ = some (.slice (A' k) (N' k) (C' k)) ∧ (wr.drew).cell? ⟨bl', off' + k * 2 + 1, none⟩ = some (.int .i64 (B' k)) := ⟨c0, d0, e1, e2⟩
          refine wpN_take (i := 0) (v := ?v8) rfl (by kernel_rfl) (fun _ _ _ h => h) hS (Or.inl ⟨by rfl, ?hy8⟩) ?hr8
          case hy8 => (intro wS hSw; (try dsimp only at hSw); go_simp; (try with_reducible rfl))
          try simp only [Act.put, List.setIfInBounds_toArray, List.set_cons_zero, List.set_cons_succ]
          refine wpN_take (i := 1) (v := ?v9) rfl (by kernel_rfl) (fun _ _ _ h => h) hS (Or.inl ⟨by rfl, ?hy9⟩) ?hr9
          case hy9 => (intro wS hSw; (try dsimp only at hSw); go_simp; (try with_reducible rfl))
          try simp only [Act.put, List.setIfInBounds_toArray, List.set_cons_zero, List.set_cons_succ]
          refine wpN_take (i := 2) (v := ?v10) rfl (by kernel_rfl) (fun _ _ _ h => h) hS (Or.inl ⟨by rfl, ?hy10⟩) ?hr10
          case hy10 => (intro wS hSw; (try dsimp only at hSw); go_simp; (try with_reducible rfl))
          try simp only [Act.put, List.setIfInBounds_toArray, List.set_cons_zero, List.set_cons_succ]
          refine wpN_take (i := 3) (v := ?v11) rfl (by kernel_rfl) (fun _ _ _ h => h) hS (Or.inl ⟨by rfl, ?hy11⟩) ?hr11
          case hy11 => (intro wS hSw; (try dsimp only at hSw); go_simp; (try with_reducible rfl))
          try simp only [Act.put, List.setIfInBounds_toArray, List.set_cons_zero, List.set_cons_succ]
          refine wpN_take (i := 4) (v := ?v12) rfl (by kernel_rfl) (fun _ _ _ h => h) hS (Or.inl ⟨by rfl, ?hy12⟩) ?hr12
          case hy12 => (intro wS hSw; (try dsimp only at hSw); go_simp; (try with_reducible rfl))
          try simp only [Act.put, List.setIfInBounds_toArray, List.set_cons_zero, List.set_cons_succ]
          refine wpN_take (i := 5) (v := ?v13) rfl (by kernel_rfl) (fun _ _ _ h => h) hS (Or.inl ⟨by rfl, ?hy13⟩) ?hr13
          case hy13 => (intro wS hSw; (try dsimp only at hSw); go_simp; (try with_reducible rfl))
          try simp only [Act.put, List.setIfInBounds_toArray, List.set_cons_zero, List.set_cons_succ]
          refine wpN_take (i := 6) (v := ?v14) rfl (by kernel_rfl) (fun _ _ _ h => h) hS (Or.inl ⟨by rfl, ?hy14⟩) ?hr14
          case hy14 => (intro wS hSw; (try dsimp only at hSw); go_simp; (try with_reducible rfl))
          try simp only [Act.put, List.setIfInBounds_toArray, List.set_cons_zero, List.set_cons_succ]
          refine wpN_step (i := 7) (by kernel_rfl) rfl (fun K hK => ?_)
          go_simp
          have hS : (wr.drew.alloc (.cells #[.slice (A' k) (N' k) (C' k), .int .i64 (B' k)] 26)).cell? ⟨w.heap.size, 0, none⟩ = some (.slice (some ⟨bl', off', none⟩) l2.length c2) ∧ (wr.drew.alloc (.cells #[.slice (A' k) (N' k) (C' k), .int .i64 (B' k)] 26)).cell? ⟨w.heap.size + 2, 0, none⟩ = some v ∧ (wr.drew.alloc (.cells #[.slice (A' k) (N' k) (C' k), .int .i64 (B' k)] 26)).cell? ⟨bl', off' + k * 2, none⟩ = some (.slice (A' k) (N' k) (C' k)) ∧ (wr.drew.alloc (.cells #[.slice (A' k) (N' k) (C' k), .int .i64 (B' k)] 26)).cell? ⟨bl', off' + k * 2 + 1, none⟩ = some (.int .i64 (B' k)) := ⟨(hbox.drew.alloc _).cell rfl, (hout.drew.alloc _).cell rfl, ((Keep.refl (fun _ => True) wr).drew.alloc _) _ _ _ trivial e1, ((Keep.refl (fun _ => True) wr).drew.alloc _) _ _ _ trivial e2⟩
          refine hK.out _ _ (fun _ => hS) ?_
          clear hK K
          try simp only [Act.put, List.setIfInBounds_toArray, List.set_cons_zero, List.set_cons_succ]
          refine wpN_step (i := 8) (by kernel_rfl) rfl (fun K hK => ?_)
          refine step_push rpTy (by decide) (by rfl) _ _ _ (by rfl) (w.heap.size + 3) 26 i0 _ 32 Try.underlying24 hi0 hz0 hz1 hz2 rfl (by decide)
                 (fun q => F q ∧ q < w.heap.size) v (l ++ l2.take k) (by rfl) ((Hacc.out.drew).alloc _) (by rw [Hl.out]; omega)
                 wr.heap.size _ [.slice (A' k) (N' k) (C' k), .int .i64 (B' k)] l2[k] (by rfl) (heap_alloc_new _ _) ⟨_, _, rfl, ((Hc3'.out k hlt).weaken (fun q hq hf => ⟨⟨hf, hq⟩, Hne.out _ (by omega)⟩)).keep (((Keep.refl _ _).below hb).drew.alloc _)⟩ (by simp; omega) ?_
          intro gg cap w2 hacc2 hgrow hat hlt2
          have hK2 : Keep (fun q => v.ownBlock ≠ some q) wr w2 := ((Keep.refl _ _).drew.alloc _).grown hgrow (fun _ hr hf => hf hr)
          have o2 := (hout.drew.alloc _).grown hgrow (Hne.out _ (by omega))
          have o1 := (hres.drew.alloc _).grown hgrow (Hne.out _ (by omega))
          have o0 := (hbox.drew.alloc _).grown hgrow (Hne.out _ (by omega))
          have hb2 : Below w.heap.size w w2 := (hb.drew.alloc (by simp; omega) _).grown hgrow (by simp; omega) (fun q hq => by have := (Hacc.out.base_le q hq).1; omega)
          have hS : (w2).cell? ⟨w.heap.size, 0, none⟩ = some (.slice (some ⟨bl', off', none⟩) l2.length c2) ∧ (w2).cell? ⟨w.heap.size + 2, 0, none⟩ = some v ∧ (w2).cell? ⟨bl', off' + k * 2, none⟩ = some (.slice (A' k) (N' k) (C' k)) ∧ (w2).cell? ⟨bl', off' + k * 2 + 1, none⟩ = some (.int .i64 (B' k)) := ⟨o0.cell (i := 0) rfl, o2.cell (i := 0) rfl, hK2 _ _ _ Hbl.out e1, hK2 _ _ _ Hbl.out e2⟩
          have p2 := o2.free 0
          have Hacc2 := Lib.hid hacc2; clear hacc2
          refine hK.out _ _ (fun _ => hS) ?_
          clear hK K
          try simp only [Act.put, List.setIfInBounds_toArray, List.set_cons_zero, List.set_cons_succ]
          refine wpN_take (i := 9) (v := ?v15) rfl (by kernel_rfl) (fun _ _ _ h => h) hS (Or.inl ⟨by rfl, ?hy15⟩) ?hr15
          case hy15 => (intro wS hSw; (try dsimp only at hSw); go_simp; (try with_reducible rfl))
          try simp only [Act.put, List.setIfInBounds_toArray, List.set_cons_zero, List.set_cons_succ]
          refine wpN_step (i := 10) (by kernel_rfl) rfl (fun K hK => ?_)
          go_simp
          refine hK.out _ _ (fun h => absurd h (by decide)) ?_
          clear hK K
          try simp only [Act.put, List.setIfInBounds_toArray, List.set_cons_zero, List.set_cons_succ]
          refine wpN_done (by kernel_rfl) ?_
          refine NoPanic.normal ?_
          go_wp2_with fail
          refine ⟨⟨k + 1, _, by go_num, by omega, hb2.setCell (by simp; omega) _, o0.far _ _ (by simp; omega), o1.far _ _ (by simp), o2.set 0 _, ?_⟩, by simp [intOf]; omega⟩
          have h := Hacc2.out
          rw [Hl.out, List.append_assoc, ← List.take_succ_eq_append_getElem hlt] at h
          exact h.setCell _ _ (by simp; omega) (by simp)
        · obtain ⟨va, vc, hv⟩ := Hacc.out.len_shape
          have hk' : k = l2.length := by omega
          subst hk'
          have hacc := Hacc.out
          rw [List.take_of_length_le (by omega)] at hacc hv
          have Hacc := Lib.hid hacc; clear hacc
          obtain ⟨ln, hln⟩ : ∃ ln, (l ++ l2).length = ln := ⟨_, rfl⟩
          rw [hln] at hv
          subst hv
          have Hln := Lib.hid hln; clear hln
          have d1 : wr.cell? ⟨w.heap.size + 2, 1, none⟩ = some (.int .i64 b2) := hout.cell rfl
          have r0 : wr.cell? ⟨w.heap.size + 1, 0, none⟩ = some (.slice none 0 0) := hres.cell rfl
          have r1 : wr.cell? ⟨w.heap.size + 1, 1, none⟩ = some (.int .i64 0) := hres.cell rfl
          have f0 := hres.free 0
          have f1 := hres.free 1
          go_wp2_with fail
          refine bodyPost_ret (v := .agg #[.slice va ln vc, .int .i64 b2]) (by simp [results, Try.results49, go_sem, r0, r1]) rfl ?_
          have h := (Hacc.out.setCell ⟨w.heap.size + 1, 0, none⟩ (.slice va ln vc) (by simp) (by simp)).setCell ⟨w.heap.size + 1, 1, none⟩ (.int .i64 b2) (by simp) (by simp)
          have h := isTy_mk (h.sl (F' := fun q => F q ∨ w.heap.size ≤ q) (fun q _ hq => .inl hq.1) (fun q hq => .inr (by omega))) b2
          refine ⟨va, vc, by simp only [Ty.args, Ty.base, Hln.out], by simpa only [Ty.args, Ty.base, Hln.out] using h, (hb.setCell (by simp) _).setCell (by simp) _⟩
end Go.Proofs.Ytejpgifofkiofaa

