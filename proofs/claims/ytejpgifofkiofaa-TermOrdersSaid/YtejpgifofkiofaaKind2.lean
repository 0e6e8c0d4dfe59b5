/-
  kind.Of, kind.Arrow, kind.Rest: types that are made.
-/
import Derived.Test.YtejpgifofkiofaaKind1
import Derived.Test.YtejpgifofkiofaaConcat
namespace Go.Proofs.Ytejpgifofkiofaa
open Go.RowKit

theorem size_mk_le {l : List Ty} {b : Int} {n : Nat} (h : Ty.sizes l + 1 ≤ n) : (Ty.mk l b).size ≤ n := by rw [Ty.size_eq]; exact h

set_option maxHeartbeats 400000 in
theorem of_k {F : Nat → Prop} {w : World} {v : Value} {l : List Ty} (b : Int) (h : IsSl rpTy F w v l) (hl : Ty.sizes l + 1 ≤ 100000) :
    Calls Try.prog 45 #[.int .i64 b, v] w (FreshTy (.mk l b) w) := by
  have Ht := Lib.hid (isTy_mk h b)
  obtain ⟨a, c, rfl⟩ := isSl_shape h
  clear h
  go_enter Try.func45, Try.ntmps45
  go_wp2_with fail
  refine (copied_k Ht.out _ (size_mk_le hl) ((Keep.refl _ _).alloc _)).mono ?_
  rintro e w1 ⟨s', b', rfl, hr1, hb1⟩
  obtain ⟨a', c', rfl, rfl⟩ := hr1.shape
  have hx := (Blk.new w #[.slice none 0 0, .int .i64 0] 40 rfl).below hb1
  have r0 : w1.cell? ⟨w.heap.size, 0, none⟩ = some (.slice none 0 0) := hx.cell rfl
  have r1 : w1.cell? ⟨w.heap.size, 1, none⟩ = some (.int .i64 0) := hx.cell rfl
  have f0 := hx.free 0
  have f1 := hx.free 1
  go_wp2_with fail
  refine bodyPost_ret (v := .agg #[.slice a' l.length c', .int .i64 b]) (by simp [results, Try.results45, go_sem, r0, r1, Ty.args, Ty.base]) rfl ?_
  have hn : ¬ (w.heap.size + 1 ≤ w.heap.size) := by omega
  refine ⟨_, _, rfl, ((hr1.weaken fun q _ hq => ?_).keep (((Keep.refl _ _).setCell _ _ ?_).setCell _ _ ?_)).weaken (F := fun q => w.heap.size + 1 ≤ q) fun q _ hq => Nat.le_of_succ_le hq, (((((Below.refl _ _).alloc (Nat.le_refl _) _).trans (hb1.mono (by simp))).setCell (by simp) _).setCell (by simp) _)⟩
  · simpa using hq
  · simp
  · simp

set_option maxRecDepth 100000 in
set_option maxHeartbeats 1000000 in
theorem arrow_k {F : Nat → Prop} {w : World} {s b v : Value} {t : Ty} {l : List Ty} (ht : IsTy F w s b t) (h : IsSl rpTy F w v l) (hl : Ty.sizes l + t.size ≤ 100000) :
    Calls Try.prog 46 #[.agg #[s, b], v] w (FreshTy (.mk (l ++ t.args) t.base) w) := by
  obtain ⟨_, hsl⟩ := ht.inv
  obtain ⟨a2, c2, rfl, rfl⟩ := ht.shape
  obtain ⟨a1, c1, rfl⟩ := isSl_shape h
  clear ht
  have H1 := Lib.hid h; clear h
  have H2 := Lib.hid hsl; clear hsl
  have hlen : l.length + t.args.length ≤ 100000 := by
    have := Ty.le_sizes l; have := Ty.le_sizes t.args; cases t; simp [Ty.size, Ty.args] at *; omega
  have Hsz : Hid ((Ty.mk (l ++ t.args) t.base).size ≤ 100000) := by
    show _ ≤ _
    cases t; simp [Ty.size, Ty.args, Ty.sizes_append] at *; omega
  obtain ⟨l2, hl2⟩ : ∃ l2, t.args = l2 := ⟨_, rfl⟩
  obtain ⟨b2, hb2⟩ : ∃ b2, t.base = b2 := ⟨_, rfl⟩
  rw [hl2] at H2 hlen Hsz ⊢
  rw [hb2] at Hsz ⊢
  clear hl2 hb2 hl
  obtain ⟨l3, hl3⟩ : ∃ l3, l ++ l2 = l3 := ⟨_, rfl⟩
  rw [hl3] at Hsz ⊢
  have Hl3 := Lib.hid hl3; clear hl3
  go_enter Try.func46, Try.ntmps46
  go_wp2_with fail
  obtain ⟨wa, hwa⟩ : ∃ wa, (w.alloc (.cells #[.slice a2 l2.length c2, .int .i64 b2] 40)).alloc (.cells #[.slice none 0 0, .int .i64 0] 40) = wa := ⟨_, rfl⟩
  have ba : Below w.heap.size w wa := by rw [← hwa]; exact ((Below.refl _ _).alloc (Nat.le_refl _) _).alloc (by simp) _
  have xa : Blk wa w.heap.size #[.slice a2 l2.length c2, .int .i64 b2] 40 := by rw [← hwa]; exact (Blk.new _ _ _ rfl).alloc _
  have ra : Blk wa (w.heap.size + 1) #[.slice none 0 0, .int .i64 0] 40 := by rw [← hwa]; exact Blk.new _ _ _ (by simp)
  have Ka : Hid (Keep F w wa) := ((Keep.refl _ _).below ba)
  rw [hwa]
  clear hwa
  have hsz := ra.lt
  refine wp_region_noPanic (wp_region_need (S := fun w' => w'.cell? ⟨w.heap.size, 0, none⟩ = some (.slice a2 l2.length c2) ∧ w'.cell? ⟨w.heap.size, 1, none⟩ = some (.int .i64 b2)) (by kernel_rfl) ?_)
  have hS : (wa.drew).cell? ⟨w.heap.size, 0, none⟩ = some (.slice a2 l2.length c2) ∧ (wa.drew).cell? ⟨w.heap.size, 1, none⟩ = some (.int .i64 b2) := ⟨xa.drew.cell rfl, xa.drew.cell rfl⟩
  refine wpN_take (i := 0) (v := ?v1) rfl (by kernel_rfl) (fun _ _ _ h => h) hS (Or.inl ⟨by rfl, ?hy1⟩) ?hr1
  case hy1 => (intro wS hSw; (try dsimp only at hSw); go_simp; (try with_reducible rfl))
  try simp only [Act.put, List.setIfInBounds_toArray, List.set_cons_zero, List.set_cons_succ]
  refine wpN_take (i := 1) (v := ?v2) rfl (by kernel_rfl) (fun _ _ _ h => h) hS (Or.inl ⟨by rfl, ?hy2⟩) ?hr2
  case hy2 => (intro wS hSw; (try dsimp only at hSw); go_simp; (try with_reducible rfl))
  try simp only [Act.put, List.setIfInBounds_toArray, List.set_cons_zero, List.set_cons_succ]
  refine wpN_take (i := 2) (v := ?v3) rfl (by kernel_rfl) (fun _ _ _ h => h) hS (Or.inl ⟨by rfl, ?hy3⟩) ?hr3
  case hy3 => (intro wS hSw; (try dsimp only at hSw); go_simp; (try with_reducible rfl))
  try simp only [Act.put, List.setIfInBounds_toArray, List.set_cons_zero, List.set_cons_succ]
  refine wpN_take (i := 5) (v := ?v4) rfl (by kernel_rfl) (fun _ _ _ h => h) hS (Or.inl ⟨by rfl, ?hy4⟩) ?hr4
  case hy4 => (intro wS hSw; (try dsimp only at hSw); go_simp; (try with_reducible rfl))
  try simp only [Act.put, List.setIfInBounds_toArray, List.set_cons_zero, List.set_cons_succ]
  refine wpN_take (i := 6) (v := ?v5) rfl (by kernel_rfl) (fun _ _ _ h => h) hS (Or.inl ⟨by rfl, ?hy5⟩) ?hr5
  case hy5 => (intro wS hSw; (try dsimp only at hSw); go_simp; (try with_reducible rfl))
  try simp only [Act.put, List.setIfInBounds_toArray, List.set_cons_zero, List.set_cons_succ]
  refine wpN_step (i := 3) (by kernel_rfl) rfl (fun K hK => ?_)
  go_simp
  have bb : Below w.heap.size w (wa.alloc (.cells #[.slice a1 l.length c1, .slice a2 l2.length c2] 33)).drew := (ba.alloc (by omega) _).drew
  have xb : Blk (wa.alloc (.cells #[.slice a1 l.length c1, .slice a2 l2.length c2] 33)).drew w.heap.size #[.slice a2 l2.length c2, .int .i64 b2] 40 := (xa.alloc _).drew
  have rb : Blk (wa.alloc (.cells #[.slice a1 l.length c1, .slice a2 l2.length c2] 33)).drew (w.heap.size + 1) #[.slice none 0 0, .int .i64 0] 40 := (ra.alloc _).drew
  have vb : Blk (wa.alloc (.cells #[.slice a1 l.length c1, .slice a2 l2.length c2] 33)).drew wa.heap.size #[.slice a1 l.length c1, .slice a2 l2.length c2] 33 := (Blk.new _ _ _ rfl).drew
  have Kb : Hid (Keep F w (wa.alloc (.cells #[.slice a1 l.length c1, .slice a2 l2.length c2] 33)).drew) := (Ka.out.alloc _).drew
  have hS : ((wa.alloc (.cells #[.slice a1 l.length c1, .slice a2 l2.length c2] 33)).drew).cell? ⟨w.heap.size, 0, none⟩ = some (.slice a2 l2.length c2) ∧ ((wa.alloc (.cells #[.slice a1 l.length c1, .slice a2 l2.length c2] 33)).drew).cell? ⟨w.heap.size, 1, none⟩ = some (.int .i64 b2) := ⟨xb.cell rfl, xb.cell rfl⟩
  refine hK.out _ _ (fun _ => hS) ?_
  clear hK K
  try simp only [Act.put, List.setIfInBounds_toArray, List.set_cons_zero, List.set_cons_succ]
  refine wpN_step (i := 4) (by kernel_rfl) rfl (fun K hK => ?_)
  go_simp
  have hcc := concat_any vb (H1.out.keep Kb.out) (H2.out.keep Kb.out) hlen
  rw [Hl3.out] at hcc
  refine hcc.mono ?_
  clear hcc
  rintro e w1 ⟨a3, c3, rfl, hs3, hb1⟩
  have H3 := Lib.hid hs3; clear hs3
  have b1 := bb.trans (hb1.mono bb.size)
  have x1 := xb.below hb1
  have r1' := rb.below hb1
  have hS : (w1).cell? ⟨w.heap.size, 0, none⟩ = some (.slice a2 l2.length c2) ∧ (w1).cell? ⟨w.heap.size, 1, none⟩ = some (.int .i64 b2) := ⟨x1.cell rfl, x1.cell rfl⟩
  refine hK.out _ _ (fun _ => hS) ?_
  clear hK K
  try simp only [Act.put, List.setIfInBounds_toArray, List.set_cons_zero, List.set_cons_succ]
  refine wpN_take (i := 7) (v := ?v6) rfl (by kernel_rfl) (fun _ _ _ h => h) hS (Or.inl ⟨by rfl, ?hy6⟩) ?hr6
  case hy6 => (intro wS hSw; (try dsimp only at hSw); go_simp; (try with_reducible rfl))
  try simp only [Act.put, List.setIfInBounds_toArray, List.set_cons_zero, List.set_cons_succ]
  refine wpN_step (i := 8) (by kernel_rfl) rfl (fun K hK => ?_)
  go_simp
  refine (copied_k (isTy_mk H3.out b2) _ Hsz.out (Keep.refl _ _)).mono ?_
  rintro e w2 ⟨s', b', rfl, hr2, hb2⟩
  obtain ⟨a', c', rfl, rfl⟩ := hr2.shape
  have Hr2 := Lib.hid hr2; clear hr2
  have x2 := x1.below hb2
  have hx := r1'.below hb2
  have hS : (w2).cell? ⟨w.heap.size, 0, none⟩ = some (.slice a2 l2.length c2) ∧ (w2).cell? ⟨w.heap.size, 1, none⟩ = some (.int .i64 b2) := ⟨x2.cell rfl, x2.cell rfl⟩
  have r0 : w2.cell? ⟨w.heap.size + 1, 0, none⟩ = some (.slice none 0 0) := hx.cell rfl
  have r1 : w2.cell? ⟨w.heap.size + 1, 1, none⟩ = some (.int .i64 0) := hx.cell rfl
  have f0 := hx.free 0
  have f1 := hx.free 1
  refine hK.out _ _ (fun _ => hS) ?_
  clear hK K
  try simp only [Act.put, List.setIfInBounds_toArray, List.set_cons_zero, List.set_cons_succ]
  refine wpN_step (i := 9) (by kernel_rfl) rfl (fun K hK => ?_)
  go_simp
  refine hK.out _ _ (fun h => absurd h (by decide)) ?_
  clear hK K
  try simp only [Act.put, List.setIfInBounds_toArray, List.set_cons_zero, List.set_cons_succ]
  refine wpN_done (by kernel_rfl) ?_
  refine NoPanic.normal ?_
  go_wp2_with fail
  refine bodyPost_ret (v := .agg #[.slice a' l3.length c', .int .i64 b2]) (by simp [results, Try.results46, go_sem, r0, r1, Ty.args, Ty.base]) rfl ?_
  have hle := b1.size
  have hlt : w.heap.size + 1 < w1.heap.size := r1'.lt
  refine ⟨_, _, rfl, (((Hr2.out.keep ((Keep.refl _ _).setCell ⟨w.heap.size + 1, 0, none⟩ _ ?_)).keep ((Keep.refl _ _).setCell ⟨w.heap.size + 1, 1, none⟩ _ ?_)).weaken fun q _ hq => Nat.le_trans hle hq), (((b1.trans (hb2.mono hle)).setCell (by simp) _).setCell (by simp) _)⟩
  · simp; omega
  · simp; omega
end Go.Proofs.Ytejpgifofkiofaa
