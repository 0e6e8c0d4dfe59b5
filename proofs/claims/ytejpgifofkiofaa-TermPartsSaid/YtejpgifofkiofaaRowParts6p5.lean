/-
  A type, copied cell by cell: To, Of of the laws. kind.Each: all types within, each ahead of its arguments: what the iterator hands to a loop's body.
-/
import Derived.Test.YtejpgifofkiofaaRowParts6p1
import Derived.Test.YtejpgifofkiofaaProg
import Derived.Lib.Hide
import Derived.Test.YtejpgifofkiofaaRowParts6p3
import Derived.Deep.RegionHeld3
import Derived.Deep.DrawnRows
import Derived.RangeFuncNested
import Derived.RangeFuncBound
import Derived.RangeFuncCalls
import Derived.RangeFuncLeaves
import Derived.Shelf.Abstract
import Derived.Shelf.RegionOpen
import Derived.OwnWalkIn
import Derived.TacticsInMore
import Derived.LoopNIn
import Derived.LoopIn
set_option linter.unusedVariables false
set_option linter.unusedSimpArgs false
namespace Go.Proofs.Ytejpgifofkiofaa
open Go.RowKit
attribute [local go_sem ↓] Go.wp_at_zero Go.wp_at_succ

theorem infoK : (Try.prog.info? 40).map (fun i => (i.zero, i.size, i.bytes)) = some (some (.agg #[.slice none 0 0, .int .i64 0]), 2, 32) := by kernel_rfl
theorem infoR : (Try.prog.info? 26).map (fun i => (i.zero, i.size, i.bytes)) = some (some (.agg #[.slice none 0 0, .int .i64 0]), 2, 32) := by kernel_rfl

def FreshTy (t : Ty) (w : World) (e : Ending) (w' : World) : Prop := ∃ s b, e = .returned (.agg #[s, b]) ∧ IsTy (fun k => w.heap.size ≤ k) w' s b t ∧ Below w.heap.size w w'

set_option maxRecDepth 100000 in
set_option maxHeartbeats 1600000 in
theorem to_any {F : Nat → Prop} {w0 : World} {s b : Value} {t : Ty} (ht : IsTy F w0 s b t) : ∀ (w : World), t.size ≤ 1000000 →
    Keep F w0 w →
    Calls Try.prog 18 #[.agg #[s, b]] w (FreshTy t w) := by
  induction ht with
  | mk a n c b args bl off A N C B hn hm ha h1 h2 h3 ih =>
  intro w hsize hw
  clear h3 hm
  subst hn
  have hlen : args.length ≤ 1000000 := by have := Ty.length_lt (l := args) (b := b); omega
  have Hsz : Hid (∀ i (h : i < args.length), args[i].size ≤ 1000000) := fun i h => by have := Ty.size_get (b := b) i h; omega
  have Hih := Lib.hid ih; clear ih hsize
  obtain ⟨i0, hi0, hz0, hz1, hz2⟩ := info_parts infoK
  go_enter Try.func18, Try.ntmps18
  go_wp2_with fail
  go_loopw [4] (fun i wr => ∃ (k : Nat) (v : Value), i = .int .i64 k ∧ k ≤ args.length ∧ 
      Below w.heap.size w wr ∧ Blk wr w.heap.size #[.slice a args.length c, .int .i64 b] 26 ∧ Blk wr (w.heap.size + 1) #[.slice none 0 0, .int .i64 0] 40 ∧ Blk wr (w.heap.size + 2) #[v, .int .i64 b] 40 ∧
      Acc rpTy 40 (w.heap.size + 3) (fun q => w.heap.size + 3 ≤ q) wr v (args.take k)) (fun i _ => args.length - (intOf i).toNat)
  case atStart => 
    exact ⟨0, _, rfl, by omega, (((Below.refl _ _).alloc (Nat.le_refl _) _).alloc (by simp) _).alloc (by simp; omega) _, ((Blk.new _ _ _ rfl).alloc _).alloc _, (Blk.new _ _ _ (by simp)).alloc _, Blk.new _ _ _ (by simp), Acc.nil _ _ _ _ _⟩
  case round =>
    obtain ⟨k, v, rfl, hk, hb, hbox, hres, hout, hacc⟩ := hrel
    have c0 : wr.cell? ⟨w.heap.size, 0, none⟩ = some (.slice a args.length c) := hbox.cell rfl
    have d0 : wr.cell? ⟨w.heap.size + 2, 0, none⟩ = some v := hout.cell rfl
    have hsz := hout.lt
    have Hacc := Lib.hid hacc; clear hacc
    by_cases hlt : k < args.length
    · obtain ⟨rfl, hF⟩ := ha (by omega)
      clear ha
      have e1 : wr.cell? ⟨bl, off + k * 2, none⟩ = some (.slice (A k) (N k) (C k)) := (hw.below hb) _ _ _ hF (h1 k hlt)
      have e2 : wr.cell? ⟨bl, off + k * 2 + 1, none⟩ = some (.int .i64 (B k)) := (hw.below hb) _ _ _ hF (h2 k hlt)
      have hlt0 : (0 : Int) ≤ (k : Int) := Int.natCast_nonneg _
      have hlt1 : (k : Int) < (args.length : Int) := by omega
      have Hbl : Hid (v.ownBlock ≠ some bl) := fun e => by have := (Hacc.out.base_le bl e).1; have := Keep.lt (hw _ _ _ hF (h1 k hlt)); omega
      have Hl : Hid ((args.take k).length = k) := by show _ = _; simp; omega
      have Hne : Hid (∀ q, q < w.heap.size + 3 → v.ownBlock ≠ some q) := fun q hq e => by have := (Hacc.out.base_le q e).1; omega
      go_wp2_with fail
      refine wp_region_noPanic (wp_region_need (S := fun w' => w'.cell? ⟨w.heap.size, 0, none⟩ = some (.slice (some ⟨bl, off, none⟩) args.length c) ∧ w'.cell? ⟨w.heap.size + 2, 0, none⟩ = some v ∧ w'.cell? ⟨bl, off + k * 2, none⟩ = some (.slice (A k) (N k) (C k)) ∧ w'.cell? ⟨bl, off + k * 2 + 1, none⟩ = some (.int .i64 (B k))) (by kernel_rfl) ?_)
      have hS : (wr.drew).cell? ⟨w.heap.size, 0, none⟩ = some (.slice (some ⟨bl, off, none⟩) args.length c) ∧ (wr.drew).cell? ⟨w.heap.size + 2, 0, none⟩ = some v ∧ (wr.drew).cell? ⟨bl, off + k * 2, none⟩ = some (.slice (A k) (N k) (C k)) ∧ (wr.drew).cell? ⟨bl, off + k * 2 + 1, none⟩ = some (.int .i64 (B k)) := ⟨c0, d0, e1, e2⟩
      refine wpN_take (i := 0) (v := ?v1) rfl (by kernel_rfl) (fun _ _ _ h => h) hS (Or.inl ⟨by rfl, ?hy1⟩) ?hr1
      case hy1 => (intro wS hSw; (try dsimp only at hSw); go_simp; (try with_reducible rfl))
      try simp only [Act.put, List.setIfInBounds_toArray, List.set_cons_zero, List.set_cons_succ]
      refine wpN_take (i := 1) (v := ?v2) rfl (by kernel_rfl) (fun _ _ _ h => h) hS (Or.inl ⟨by rfl, ?hy2⟩) ?hr2
      case hy2 => (intro wS hSw; (try dsimp only at hSw); go_simp; (try with_reducible rfl))
      try simp only [Act.put, List.setIfInBounds_toArray, List.set_cons_zero, List.set_cons_succ]
      refine wpN_take (i := 2) (v := ?v3) rfl (by kernel_rfl) (fun _ _ _ h => h) hS (Or.inl ⟨by rfl, ?hy3⟩) ?hr3
      case hy3 => (intro wS hSw; (try dsimp only at hSw); go_simp; (try with_reducible rfl))
      try simp only [Act.put, List.setIfInBounds_toArray, List.set_cons_zero, List.set_cons_succ]
      refine wpN_take (i := 3) (v := ?v4) rfl (by kernel_rfl) (fun _ _ _ h => h) hS (Or.inl ⟨by rfl, ?hy4⟩) ?hr4
      case hy4 => (intro wS hSw; (try dsimp only at hSw); go_simp; (try with_reducible rfl))
      try simp only [Act.put, List.setIfInBounds_toArray, List.set_cons_zero, List.set_cons_succ]
      refine wpN_take (i := 4) (v := ?v5) rfl (by kernel_rfl) (fun _ _ _ h => h) hS (Or.inl ⟨by rfl, ?hy5⟩) ?hr5
      case hy5 => (intro wS hSw; (try dsimp only at hSw); go_simp; (try with_reducible rfl))
      try simp only [Act.put, List.setIfInBounds_toArray, List.set_cons_zero, List.set_cons_succ]
      refine wpN_take (i := 5) (v := ?v6) rfl (by kernel_rfl) (fun _ _ _ h => h) hS (Or.inl ⟨by rfl, ?hy6⟩) ?hr6
      case hy6 => (intro wS hSw; (try dsimp only at hSw); go_simp; (try with_reducible rfl))
      try simp only [Act.put, List.setIfInBounds_toArray, List.set_cons_zero, List.set_cons_succ]
      refine wpN_take (i := 6) (v := ?v7) rfl (by kernel_rfl) (fun _ _ _ h => h) hS (Or.inl ⟨by rfl, ?hy7⟩) ?hr7
      case hy7 => (intro wS hSw; (try dsimp only at hSw); go_simp; (try with_reducible rfl))
      try simp only [Act.put, List.setIfInBounds_toArray, List.set_cons_zero, List.set_cons_succ]
      refine wpN_step (i := 7) (by kernel_rfl) rfl (fun K hK => ?_)
      go_simp
      refine (Hih.out k hlt _ (Hsz.out k hlt) ((hw.below hb).drew)).mono ?_
      rintro e w1 ⟨s', b', rfl, hr1, hb1⟩
      have hK1 : Keep (fun q => v.ownBlock ≠ some q) wr w1 := ((Keep.refl _ _).drew).below hb1
      have hS : (w1).cell? ⟨w.heap.size, 0, none⟩ = some (.slice (some ⟨bl, off, none⟩) args.length c) ∧ (w1).cell? ⟨w.heap.size + 2, 0, none⟩ = some v ∧ (w1).cell? ⟨bl, off + k * 2, none⟩ = some (.slice (A k) (N k) (C k)) ∧ (w1).cell? ⟨bl, off + k * 2 + 1, none⟩ = some (.int .i64 (B k)) := ⟨(Blk.below (w := wr.drew) hbox hb1).cell rfl, (Blk.below (w := wr.drew) hout hb1).cell rfl, hK1 _ _ _ Hbl.out e1, hK1 _ _ _ Hbl.out e2⟩
      refine hK.out _ _ (fun _ => hS) ?_
      clear hK K
      try simp only [Act.put, List.setIfInBounds_toArray, List.set_cons_zero, List.set_cons_succ]
      refine wpN_step (i := 8) (by kernel_rfl) rfl (fun K hK => ?_)
      go_simp
      have hS : (w1.alloc (.cells #[s', b'] 40)).cell? ⟨w.heap.size, 0, none⟩ = some (.slice (some ⟨bl, off, none⟩) args.length c) ∧ (w1.alloc (.cells #[s', b'] 40)).cell? ⟨w.heap.size + 2, 0, none⟩ = some v ∧ (w1.alloc (.cells #[s', b'] 40)).cell? ⟨bl, off + k * 2, none⟩ = some (.slice (A k) (N k) (C k)) ∧ (w1.alloc (.cells #[s', b'] 40)).cell? ⟨bl, off + k * 2 + 1, none⟩ = some (.int .i64 (B k)) := ⟨((Blk.below (w := wr.drew) hbox hb1).alloc _).cell rfl, ((Blk.below (w := wr.drew) hout hb1).alloc _).cell rfl, (hK1.alloc _) _ _ _ Hbl.out e1, (hK1.alloc _) _ _ _ Hbl.out e2⟩
      refine hK.out _ _ (fun _ => hS) ?_
      clear hK K
      try simp only [Act.put, List.setIfInBounds_toArray, List.set_cons_zero, List.set_cons_succ]
      refine wpN_step (i := 9) (by kernel_rfl) rfl (fun K hK => ?_)
      refine step_push rpTy (by decide) (by rfl) _ _ _ (by rfl) (w.heap.size + 3) 40 i0 _ 32 Try.underlying33 hi0 hz0 hz1 hz2 rfl (by decide)
             (fun q => w.heap.size + 3 ≤ q) v (args.take k) (by rfl) (((Hacc.out.drew).below hb1).alloc _) (by rw [Hl.out]; omega)
             w1.heap.size _ [s', b'] args[k] (by rfl) (heap_alloc_new _ _) ⟨_, _, rfl, (hr1.weaken (fun q _ hq => ⟨Nat.le_trans (show w.heap.size + 3 ≤ wr.drew.heap.size from hsz) hq, fun e => by have := (Hacc.out.base_le q e).2; exact absurd this (Nat.not_lt.2 hq)⟩)).keep ((Keep.refl _ _).alloc _)⟩ (by have := hb1.size; simp at this ⊢; omega) ?_
      intro gg cap w2 hacc2 hgrow hat hlt2
      have hK2 : Keep (fun q => v.ownBlock ≠ some q) wr w2 := (hK1.alloc _).grown hgrow (fun _ hr hf => hf hr)
      have o2 := hout.push hb1 hgrow (Hne.out _ (by omega))
      have o1 := hres.push hb1 hgrow (Hne.out _ (by omega))
      have o0 := hbox.push hb1 hgrow (Hne.out _ (by omega))
      have hS : (w2).cell? ⟨w.heap.size, 0, none⟩ = some (.slice (some ⟨bl, off, none⟩) args.length c) ∧ (w2).cell? ⟨w.heap.size + 2, 0, none⟩ = some v ∧ (w2).cell? ⟨bl, off + k * 2, none⟩ = some (.slice (A k) (N k) (C k)) ∧ (w2).cell? ⟨bl, off + k * 2 + 1, none⟩ = some (.int .i64 (B k)) := ⟨o0.cell (i := 0) rfl, o2.cell (i := 0) rfl, hK2 _ _ _ Hbl.out e1, hK2 _ _ _ Hbl.out e2⟩
      have p2 := o2.free 0
      have Hacc2 := Lib.hid hacc2; clear hacc2
      refine hK.out _ _ (fun _ => hS) ?_
      clear hK K
      try simp only [Act.put, List.setIfInBounds_toArray, List.set_cons_zero, List.set_cons_succ]
      refine wpN_take (i := 10) (v := ?v8) rfl (by kernel_rfl) (fun _ _ _ h => h) hS (Or.inl ⟨by rfl, ?hy8⟩) ?hr8
      case hy8 => (intro wS hSw; (try dsimp only at hSw); go_simp; (try with_reducible rfl))
      try simp only [Act.put, List.setIfInBounds_toArray, List.set_cons_zero, List.set_cons_succ]
      refine wpN_step (i := 11) (by kernel_rfl) rfl (fun K hK => ?_)
      go_simp
      refine hK.out _ _ (fun h => absurd h (by decide)) ?_
      clear hK K
      try simp only [Act.put, List.setIfInBounds_toArray, List.set_cons_zero, List.set_cons_succ]
      refine wpN_done (by kernel_rfl) ?_
      refine NoPanic.normal ?_
      go_wp2_with fail
      refine ⟨⟨k + 1, _, by go_num, by omega, (below_push hb (by omega) hb1 hgrow (fun q hq => by have := (Hacc.out.base_le q hq).1; omega)).setCell (by simp; omega) _, o0.far _ _ (by simp; omega), o1.far _ _ (by simp), o2.set 0 _, ?_⟩, by simp [intOf]; omega⟩
      have h := Hacc2.out
      rw [Hl.out, ← List.take_succ_eq_append_getElem hlt] at h
      exact h.setCell _ _ (by simp) (by simp)
    · obtain ⟨va, vc, hv⟩ := Hacc.out.len_shape
      rw [List.length_take, Nat.min_eq_left hk] at hv
      subst hv
      have d1 : wr.cell? ⟨w.heap.size + 2, 1, none⟩ = some (.int .i64 b) := hout.cell rfl
      have r0 : wr.cell? ⟨w.heap.size + 1, 0, none⟩ = some (.slice none 0 0) := hres.cell rfl
      have r1 : wr.cell? ⟨w.heap.size + 1, 1, none⟩ = some (.int .i64 0) := hres.cell rfl
      have f0 := hres.free 0
      have f1 := hres.free 1
      go_wp2_with fail
      refine bodyPost_ret (v := .agg #[.slice va k vc, .int .i64 b]) (by simp [results, Try.results18, go_sem, r0, r1]) rfl ?_
      have hkn : k = args.length := by omega
      refine ⟨_, _, rfl, ?_, (hb.setCell (by simp) _).setCell (by simp) _⟩
      have hF : ∀ q, w.heap.size + 3 ≤ q → q ≠ w.heap.size + 1 := fun q h => by omega
      have h := (Hacc.out.setCell ⟨w.heap.size + 1, 0, none⟩ (.slice va k vc) (by simp) (by simp)).setCell ⟨w.heap.size + 1, 1, none⟩ (.int .i64 b) (by simp) (by simp)
      rw [List.take_of_length_le (by omega)] at h
      exact isTy_mk (h.sl (F' := fun q => w.heap.size ≤ q) (fun q _ hq => by omega) (fun q hq => by omega)) b
set_option maxRecDepth 100000 in
set_option maxHeartbeats 1600000 in
theorem of_any {F : Nat → Prop} {w0 : World} {s b : Value} {t : Ty} (ht : IsTy F w0 s b t) : ∀ (w : World), t.size ≤ 1000000 →
    Keep F w0 w →
    Calls Try.prog 41 #[.agg #[s, b]] w (FreshTy t w) := by
  induction ht with
  | mk a n c b args bl off A N C B hn hm ha h1 h2 h3 ih =>
  intro w hsize hw
  clear h3 hm
  subst hn
  have hlen : args.length ≤ 1000000 := by have := Ty.length_lt (l := args) (b := b); omega
  have Hsz : Hid (∀ i (h : i < args.length), args[i].size ≤ 1000000) := fun i h => by have := Ty.size_get (b := b) i h; omega
  have Hih := Lib.hid ih; clear ih hsize
  obtain ⟨i0, hi0, hz0, hz1, hz2⟩ := info_parts infoR
  go_enter Try.func41, Try.ntmps41
  go_wp2_with fail
  go_loopw [4] (fun i wr => ∃ (k : Nat) (v : Value), i = .int .i64 k ∧ k ≤ args.length ∧ 
      Below w.heap.size w wr ∧ Blk wr w.heap.size #[.slice a args.length c, .int .i64 b] 40 ∧ Blk wr (w.heap.size + 1) #[.slice none 0 0, .int .i64 0] 26 ∧ Blk wr (w.heap.size + 2) #[v, .int .i64 b] 26 ∧
      Acc rpTy 26 (w.heap.size + 3) (fun q => w.heap.size + 3 ≤ q) wr v (args.take k)) (fun i _ => args.length - (intOf i).toNat)
  case atStart => 
    exact ⟨0, _, rfl, by omega, (((Below.refl _ _).alloc (Nat.le_refl _) _).alloc (by simp) _).alloc (by simp; omega) _, ((Blk.new _ _ _ rfl).alloc _).alloc _, (Blk.new _ _ _ (by simp)).alloc _, Blk.new _ _ _ (by simp), Acc.nil _ _ _ _ _⟩
  case round =>
    obtain ⟨k, v, rfl, hk, hb, hbox, hres, hout, hacc⟩ := hrel
    have c0 : wr.cell? ⟨w.heap.size, 0, none⟩ = some (.slice a args.length c) := hbox.cell rfl
    have d0 : wr.cell? ⟨w.heap.size + 2, 0, none⟩ = some v := hout.cell rfl
    have hsz := hout.lt
    have Hacc := Lib.hid hacc; clear hacc
    by_cases hlt : k < args.length
    · obtain ⟨rfl, hF⟩ := ha (by omega)
      clear ha
      have e1 : wr.cell? ⟨bl, off + k * 2, none⟩ = some (.slice (A k) (N k) (C k)) := (hw.below hb) _ _ _ hF (h1 k hlt)
      have e2 : wr.cell? ⟨bl, off + k * 2 + 1, none⟩ = some (.int .i64 (B k)) := (hw.below hb) _ _ _ hF (h2 k hlt)
      have hlt0 : (0 : Int) ≤ (k : Int) := Int.natCast_nonneg _
      have hlt1 : (k : Int) < (args.length : Int) := by omega
      have Hbl : Hid (v.ownBlock ≠ some bl) := fun e => by have := (Hacc.out.base_le bl e).1; have := Keep.lt (hw _ _ _ hF (h1 k hlt)); omega
      have Hl : Hid ((args.take k).length = k) := by show _ = _; simp; omega
      have Hne : Hid (∀ q, q < w.heap.size + 3 → v.ownBlock ≠ some q) := fun q hq e => by have := (Hacc.out.base_le q e).1; omega
      go_wp2_with fail
      refine wp_region_noPanic (wp_region_need (S := fun w' => w'.cell? ⟨w.heap.size, 0, none⟩ = some (.slice (some ⟨bl, off, none⟩) args.length c) ∧ w'.cell? ⟨w.heap.size + 2, 0, none⟩ = some v ∧ w'.cell? ⟨bl, off + k * 2, none⟩ = some (.slice (A k) (N k) (C k)) ∧ w'.cell? ⟨bl, off + k * 2 + 1, none⟩ = some (.int .i64 (B k))) (by kernel_rfl) ?_)
      have hS : (wr.drew).cell? ⟨w.heap.size, 0, none⟩ = some (.slice (some ⟨bl, off, none⟩) args.length c) ∧ (wr.drew).cell? ⟨w.heap.size + 2, 0, none⟩ = some v ∧ (wr.drew).cell? ⟨bl, off + k * 2, none⟩ = some (.slice (A k) (N k) (C k)) ∧ (wr.drew).cell? ⟨bl, off + k * 2 + 1, none⟩ = some (.int .i64 (B k)) := ⟨c0, d0, e1, e2⟩
      refine wpN_take (i := 0) (v := ?v9) rfl (by kernel_rfl) (fun _ _ _ h => h) hS (Or.inl ⟨by rfl, ?hy9⟩) ?hr9
      case hy9 => (intro wS hSw; (try dsimp only at hSw); go_simp; (try with_reducible rfl))
      try simp only [Act.put, List.setIfInBounds_toArray, List.set_cons_zero, List.set_cons_succ]
      refine wpN_take (i := 1) (v := ?v10) rfl (by kernel_rfl) (fun _ _ _ h => h) hS (Or.inl ⟨by rfl, ?hy10⟩) ?hr10
      case hy10 => (intro wS hSw; (try dsimp only at hSw); go_simp; (try with_reducible rfl))
      try simp only [Act.put, List.setIfInBounds_toArray, List.set_cons_zero, List.set_cons_succ]
      refine wpN_take (i := 2) (v := ?v11) rfl (by kernel_rfl) (fun _ _ _ h => h) hS (Or.inl ⟨by rfl, ?hy11⟩) ?hr11
      case hy11 => (intro wS hSw; (try dsimp only at hSw); go_simp; (try with_reducible rfl))
      try simp only [Act.put, List.setIfInBounds_toArray, List.set_cons_zero, List.set_cons_succ]
      refine wpN_take (i := 3) (v := ?v12) rfl (by kernel_rfl) (fun _ _ _ h => h) hS (Or.inl ⟨by rfl, ?hy12⟩) ?hr12
      case hy12 => (intro wS hSw; (try dsimp only at hSw); go_simp; (try with_reducible rfl))
      try simp only [Act.put, List.setIfInBounds_toArray, List.set_cons_zero, List.set_cons_succ]
      refine wpN_take (i := 4) (v := ?v13) rfl (by kernel_rfl) (fun _ _ _ h => h) hS (Or.inl ⟨by rfl, ?hy13⟩) ?hr13
      case hy13 => (intro wS hSw; (try dsimp only at hSw); go_simp; (try with_reducible rfl))
      try simp only [Act.put, List.setIfInBounds_toArray, List.set_cons_zero, List.set_cons_succ]
      refine wpN_take (i := 5) (v := ?v14) rfl (by kernel_rfl) (fun _ _ _ h => h) hS (Or.inl ⟨by rfl, ?hy14⟩) ?hr14
      case hy14 => (intro wS hSw; (try dsimp only at hSw); go_simp; (try with_reducible rfl))
      try simp only [Act.put, List.setIfInBounds_toArray, List.set_cons_zero, List.set_cons_succ]
      refine wpN_take (i := 6) (v := ?v15) rfl (by kernel_rfl) (fun _ _ _ h => h) hS (Or.inl ⟨by rfl, ?hy15⟩) ?hr15
      case hy15 => (intro wS hSw; (try dsimp only at hSw); go_simp; (try with_reducible rfl))
      try simp only [Act.put, List.setIfInBounds_toArray, List.set_cons_zero, List.set_cons_succ]
      refine wpN_step (i := 7) (by kernel_rfl) rfl (fun K hK => ?_)
      go_simp
      refine (Hih.out k hlt _ (Hsz.out k hlt) ((hw.below hb).drew)).mono ?_
      rintro e w1 ⟨s', b', rfl, hr1, hb1⟩
      have hK1 : Keep (fun q => v.ownBlock ≠ some q) wr w1 := ((Keep.refl _ _).drew).below hb1
      have hS : (w1).cell? ⟨w.heap.size, 0, none⟩ = some (.slice (some ⟨bl, off, none⟩) args.length c) ∧ (w1).cell? ⟨w.heap.size + 2, 0, none⟩ = some v ∧ (w1).cell? ⟨bl, off + k * 2, none⟩ = some (.slice (A k) (N k) (C k)) ∧ (w1).cell? ⟨bl, off + k * 2 + 1, none⟩ = some (.int .i64 (B k)) := ⟨(Blk.below (w := wr.drew) hbox hb1).cell rfl, (Blk.below (w := wr.drew) hout hb1).cell rfl, hK1 _ _ _ Hbl.out e1, hK1 _ _ _ Hbl.out e2⟩
      refine hK.out _ _ (fun _ => hS) ?_
      clear hK K
      try simp only [Act.put, List.setIfInBounds_toArray, List.set_cons_zero, List.set_cons_succ]
      refine wpN_step (i := 8) (by kernel_rfl) rfl (fun K hK => ?_)
      go_simp
      have hS : (w1.alloc (.cells #[s', b'] 26)).cell? ⟨w.heap.size, 0, none⟩ = some (.slice (some ⟨bl, off, none⟩) args.length c) ∧ (w1.alloc (.cells #[s', b'] 26)).cell? ⟨w.heap.size + 2, 0, none⟩ = some v ∧ (w1.alloc (.cells #[s', b'] 26)).cell? ⟨bl, off + k * 2, none⟩ = some (.slice (A k) (N k) (C k)) ∧ (w1.alloc (.cells #[s', b'] 26)).cell? ⟨bl, off + k * 2 + 1, none⟩ = some (.int .i64 (B k)) := ⟨((Blk.below (w := wr.drew) hbox hb1).alloc _).cell rfl, ((Blk.below (w := wr.drew) hout hb1).alloc _).cell rfl, (hK1.alloc _) _ _ _ Hbl.out e1, (hK1.alloc _) _ _ _ Hbl.out e2⟩
      refine hK.out _ _ (fun _ => hS) ?_
      clear hK K
      try simp only [Act.put, List.setIfInBounds_toArray, List.set_cons_zero, List.set_cons_succ]
      refine wpN_step (i := 9) (by kernel_rfl) rfl (fun K hK => ?_)
      refine step_push rpTy (by decide) (by rfl) _ _ _ (by rfl) (w.heap.size + 3) 26 i0 _ 32 Try.underlying24 hi0 hz0 hz1 hz2 rfl (by decide)
             (fun q => w.heap.size + 3 ≤ q) v (args.take k) (by rfl) (((Hacc.out.drew).below hb1).alloc _) (by rw [Hl.out]; omega)
             w1.heap.size _ [s', b'] args[k] (by rfl) (heap_alloc_new _ _) ⟨_, _, rfl, (hr1.weaken (fun q _ hq => ⟨Nat.le_trans (show w.heap.size + 3 ≤ wr.drew.heap.size from hsz) hq, fun e => by have := (Hacc.out.base_le q e).2; exact absurd this (Nat.not_lt.2 hq)⟩)).keep ((Keep.refl _ _).alloc _)⟩ (by have := hb1.size; simp at this ⊢; omega) ?_
      intro gg cap w2 hacc2 hgrow hat hlt2
      have hK2 : Keep (fun q => v.ownBlock ≠ some q) wr w2 := (hK1.alloc _).grown hgrow (fun _ hr hf => hf hr)
      have o2 := hout.push hb1 hgrow (Hne.out _ (by omega))
      have o1 := hres.push hb1 hgrow (Hne.out _ (by omega))
      have o0 := hbox.push hb1 hgrow (Hne.out _ (by omega))
      have hS : (w2).cell? ⟨w.heap.size, 0, none⟩ = some (.slice (some ⟨bl, off, none⟩) args.length c) ∧ (w2).cell? ⟨w.heap.size + 2, 0, none⟩ = some v ∧ (w2).cell? ⟨bl, off + k * 2, none⟩ = some (.slice (A k) (N k) (C k)) ∧ (w2).cell? ⟨bl, off + k * 2 + 1, none⟩ = some (.int .i64 (B k)) := ⟨o0.cell (i := 0) rfl, o2.cell (i := 0) rfl, hK2 _ _ _ Hbl.out e1, hK2 _ _ _ Hbl.out e2⟩
      have p2 := o2.free 0
      have Hacc2 := Lib.hid hacc2; clear hacc2
      refine hK.out _ _ (fun _ => hS) ?_
      clear hK K
      try simp only [Act.put, List.setIfInBounds_toArray, List.set_cons_zero, List.set_cons_succ]
      refine wpN_take (i := 10) (v := ?v16) rfl (by kernel_rfl) (fun _ _ _ h => h) hS (Or.inl ⟨by rfl, ?hy16⟩) ?hr16
      case hy16 => (intro wS hSw; (try dsimp only at hSw); go_simp; (try with_reducible rfl))
      try simp only [Act.put, List.setIfInBounds_toArray, List.set_cons_zero, List.set_cons_succ]
      refine wpN_step (i := 11) (by kernel_rfl) rfl (fun K hK => ?_)
      go_simp
      refine hK.out _ _ (fun h => absurd h (by decide)) ?_
      clear hK K
      try simp only [Act.put, List.setIfInBounds_toArray, List.set_cons_zero, List.set_cons_succ]
      refine wpN_done (by kernel_rfl) ?_
      refine NoPanic.normal ?_
      go_wp2_with fail
      refine ⟨⟨k + 1, _, by go_num, by omega, (below_push hb (by omega) hb1 hgrow (fun q hq => by have := (Hacc.out.base_le q hq).1; omega)).setCell (by simp; omega) _, o0.far _ _ (by simp; omega), o1.far _ _ (by simp), o2.set 0 _, ?_⟩, by simp [intOf]; omega⟩
      have h := Hacc2.out
      rw [Hl.out, ← List.take_succ_eq_append_getElem hlt] at h
      exact h.setCell _ _ (by simp) (by simp)
    · obtain ⟨va, vc, hv⟩ := Hacc.out.len_shape
      rw [List.length_take, Nat.min_eq_left hk] at hv
      subst hv
      have d1 : wr.cell? ⟨w.heap.size + 2, 1, none⟩ = some (.int .i64 b) := hout.cell rfl
      have r0 : wr.cell? ⟨w.heap.size + 1, 0, none⟩ = some (.slice none 0 0) := hres.cell rfl
      have r1 : wr.cell? ⟨w.heap.size + 1, 1, none⟩ = some (.int .i64 0) := hres.cell rfl
      have f0 := hres.free 0
      have f1 := hres.free 1
      go_wp2_with fail
      refine bodyPost_ret (v := .agg #[.slice va k vc, .int .i64 b]) (by simp [results, Try.results41, go_sem, r0, r1]) rfl ?_
      have hkn : k = args.length := by omega
      refine ⟨_, _, rfl, ?_, (hb.setCell (by simp) _).setCell (by simp) _⟩
      have hF : ∀ q, w.heap.size + 3 ≤ q → q ≠ w.heap.size + 1 := fun q h => by omega
      have h := (Hacc.out.setCell ⟨w.heap.size + 1, 0, none⟩ (.slice va k vc) (by simp) (by simp)).setCell ⟨w.heap.size + 1, 1, none⟩ (.int .i64 b) (by simp) (by simp)
      rw [List.take_of_length_le (by omega)] at h
      exact isTy_mk (h.sl (F' := fun q => w.heap.size ≤ q) (fun q _ hq => by omega) (fun q hq => by omega)) b
end Go.Proofs.Ytejpgifofkiofaa

namespace Go.Proofs.Ytejpgifofkiofaa
open Go.RowKit Go.Shelf
attribute [local go_sem] Oper.semAt_some

theorem room_none {F : Fence} (hd : F.depth = none) (k : Nat) : F.room k := fun d h => by rw [hd] at h; cases h
theorem round_any {F : Fence} (hd : F.depth = none) {m m' : Nat} {P : Program} {l : Nat} {f : FuncId} {tmps : Array Value} {assign body : Code} {w : World} {R : Ending → World → Prop}
    (h : RoundIn F m P l f tmps assign body w R) : RoundIn F m' P l f tmps assign body w R := ⟨h.1, fun c cs _ => h.2 c cs (room_none hd _)⟩
theorem yield_any {F : Fence} (hd : F.depth = none) {m : Nat} (m' : Nat) {P : Program} {l : Nat} {args : Array Value} {W : World} {R : Ending → World → Prop} (h : YieldAt F m P l args W R) : YieldAt F m' P l args W R := by
  obtain ⟨fn, tmps, assign, body, hy, hR⟩ := h
  exact ⟨fn, tmps, assign, body, hy, round_any hd hR⟩

structure KeepC (G : Nat → TypeId → Prop) (A B : World) : Prop where
  size : A.heap.size ≤ B.heap.size
  cells : ∀ k cs t fr, G k t → A.heap[k]? = some (.cells cs t fr) → B.heap[k]? = some (.cells cs t fr)
namespace KeepC
variable {G : Nat → TypeId → Prop} {A B C : World}
theorem refl (G : Nat → TypeId → Prop) (A : World) : KeepC G A A := ⟨Nat.le_refl _, fun _ _ _ _ _ h => h⟩
theorem trans (h : KeepC G A B) (h' : KeepC G B C) : KeepC G A C := ⟨Nat.le_trans h.size h'.size, fun k cs t fr hk hc => h'.cells k cs t fr hk (h.cells k cs t fr hk hc)⟩
theorem below (h : KeepC G A B) (hb : Below B.heap.size B C) : KeepC G A C := h.trans ⟨hb.size, fun k _ _ _ _ hc => (hb.block k (Array.getElem?_eq_some_iff.1 hc).1).trans hc⟩
theorem alloc (h : KeepC G A B) (o : Obj) : KeepC G A (B.alloc o) := h.below ((Below.refl _ _).alloc (Nat.le_refl _) _)
theorem setCell (h : KeepC G A B) (p : Addr) (u : Value) (hp : ∀ t, ¬ G p.block t) : KeepC G A (B.setCell p u) :=
  h.trans ⟨by simp, fun k cs t fr hk hc => (Below.heap_setCell _ _ _ _ (fun e => hp _ (e ▸ hk))).trans hc⟩
theorem putObj (G : Nat → TypeId → Prop) (W : World) (l : Nat) (o o' : Obj) (hl : W.heap[l]? = some o) (ho : o.isCells = false) : KeepC G W (W.putObj l o') :=
  ⟨by simp, fun k cs t fr _ hc => by
    have hne : k ≠ l := fun e => by subst e; rw [hl] at hc; cases hc; simp [Obj.isCells] at ho
    exact (World.putObj_heap_other hne).trans hc⟩
theorem keep {F : Nat → Prop} (h : KeepC G A B) (hF : ∀ k t, F k → k < A.heap.size → G k t) : Keep F A B := fun k o v hk hv => by
  have hlt := Keep.lt hv
  simp only [World.cell?] at hv ⊢
  cases hc : A.heap[k]? with
  | none => rw [hc] at hv; simp at hv
  | some x =>
    cases x with
    | cells cs t fr => rw [h.cells k cs t fr (hF k t hk hlt) hc]; rw [hc] at hv; exact hv
    | _ => rw [hc] at hv; simp at hv
theorem keep' {F : Nat → Prop} {w0 : World} (h : KeepC G A B) (hw : Keep F w0 A) (hF : ∀ k t, F k → k < w0.heap.size → G k t) : Keep F w0 B := fun k o v hk hv =>
  (h.keep (F := fun q => F q ∧ q < w0.heap.size) fun q t hq _ => hF q t hq.1 hq.2) k o v ⟨hk, Keep.lt hv⟩ (hw k o v hk hv)
theorem blk (h : KeepC G A B) {n : Nat} {cs : Array Value} {t : TypeId} (hb : Blk A n cs t) (hn : G n t) : Blk B n cs t := h.cells n cs t (0, 0) hn hb
end KeepC

namespace Ty
mutual
def pre : Ty → Nat → List (Nat × Ty)
  | .mk l b, d => (d, .mk l b) :: pres l (d + 1)
def pres : List Ty → Nat → List (Nat × Ty)
  | [], _ => []
  | t :: l, d => pre t d ++ pres l d
end
theorem pres_append (l r : List Ty) (d : Nat) : pres (l ++ r) d = pres l d ++ pres r d := by
  induction l with
  | nil => simp [pres]
  | cons t l ih => simp [pres, ih]
theorem pres_take (l : List Ty) (i d : Nat) (h : i < l.length) : pres (l.take (i + 1)) d = pres (l.take i) d ++ pre l[i] d := by
  rw [List.take_succ_eq_append_getElem h, pres_append]; simp [pres]
theorem pres_take_le (l : List Ty) (i d : Nat) : pres (l.take i) d <+: pres l d := by
  conv => rhs; rw [← List.take_append_drop i l]
  rw [pres_append]; exact List.prefix_append _ _
theorem pre_length (t : Ty) : ∀ d, (pre t d).length = t.size := by
  induction t using Ty.ind with
  | h args base ih =>
    intro d
    have : ∀ l : List Ty, (∀ t ∈ l, ∀ d, (pre t d).length = t.size) → ∀ d, (pres l d).length = sizes l := by
      intro l
      induction l with
      | nil => intro _ d; simp [pres, sizes]
      | cons t l ih2 => intro h d; simp [pres, sizes, h t (by simp) d, ih2 (fun t ht => h t (by simp [ht])) d]
    simp [pre, size, this args ih (d + 1)]
theorem pres_length (l : List Ty) (d : Nat) : (pres l d).length = sizes l := by
  induction l with
  | nil => simp [pres, sizes]
  | cons t l ih => simp [pres, sizes, pre_length, ih]
end Ty

structure Hit (F : Nat → Prop) (w : World) where
  d : Nat
  a : Option Addr
  n : Nat
  c : Nat
  b : Int
  t : Ty
  ok : IsTy F w (.slice a n c) (.int .i64 b) t
def Hit.key {F : Nat → Prop} {w : World} (x : Hit F w) : Nat × Ty := (x.d, x.t)
def Hit.enc {F : Nat → Prop} {w : World} (x : Hit F w) : Array Value := #[.int .i64 x.d, .agg #[.slice x.a x.n x.c, .int .i64 x.b]]

def DownPost {F : Nat → Prop} {w0 : World} (G : Nat → TypeId → Prop) (J Jx : List (Hit F w0) → World → Prop) (pre : List (Hit F w0)) (l : List (Nat × Ty)) (W : World) (e : Ending) (W' : World) : Prop :=
  (e = .returned (.bool true) ∧ KeepC G W W' ∧ ∃ xs, xs.map Hit.key = l ∧ J (pre ++ xs) W') ∨ (e = .returned (.bool false) ∧ ∃ xs, xs.map Hit.key <+: l ∧ Jx (pre ++ xs) W')

set_option maxRecDepth 100000 in
set_option maxHeartbeats 1000000 in
theorem down_k {F : Nat → Prop} {w0 : World} (G : Nat → TypeId → Prop) (hGF : ∀ k t, F k → k < w0.heap.size → G k t) (l N : Nat) (hN0 : N ≤ 1000000) (J Jx : List (Hit F w0) → World → Prop) (hJ : ∀ p W o, J p W → J p (W.alloc o))
    (hY : ∀ m pre x W, J pre W → pre.length < N → YieldAt Fence.wide m Try.prog l (Hit.enc x) W fun e W' =>
      (e = .returned (.bool true) ∧ J (pre ++ [x]) W' ∧ KeepC G W W') ∨ (e = .returned (.bool false) ∧ Jx (pre ++ [x]) W'))
    {s b : Value} {t : Ty} (ht : IsTy F w0 s b t) : ∀ (n d : Nat) (di : Int) (pre : List (Hit F w0)) (W : World), di = d → (∀ k t, W.heap.size ≤ k → t ≠ 3 → G k t) → Keep F w0 W → J pre W → pre.length + t.size ≤ N → d + t.depth ≤ 1000000 →
      CallsIn Fence.wide n Try.prog 114 #[.agg #[s, b], .int .i64 di, .func (.yield l) #[] #[]] W (DownPost G J Jx pre (t.pre d) W) := by
  induction ht with
  | mk a n c b args bl off A N' C B hn hm ha h1 h2 h3 ih =>
  intro nn d di pre W hdi hG hw hJ0 hN hd
  subst hdi
  have ht : IsTy F w0 (.slice a n c) (.int .i64 b) (.mk args b) := IsTy.mk a n c b args bl off A N' C B hn hm ha h1 h2 h3
  clear h3 hm
  subst hn
  have hdd : ∀ k : Nat, (Fence.wide.depth.isSome = true → 1 ≤ k) := fun k h => by cases h
  have hlen : args.length ≤ 1000000 := by have := Ty.length_lt (l := args) (b := b); omega
  obtain ⟨fn, tmps, assign, body, hy, hR⟩ := hY (nn - 1) pre ⟨d, _, _, _, _, _, ht⟩ (W.alloc (.cells #[.slice a args.length c, .int .i64 b] 40)) (hJ _ _ _ hJ0) (by have := Ty.size_pos (.mk args b); omega)
  dsimp only [Hit.enc] at hy
  refine callsIn_of_wp Try.func114 rfl trivial ?_ rfl
  simp only [Try.ntmps114, List.size_toArray, List.length_cons, List.length_nil, Nat.reduceAdd, Nat.reduceSub, Array.replicate_succ, Array.replicate_zero, List.push_toArray, List.append_toArray, List.nil_append, List.cons_append]
  gi_wp2_with fail
  refine ⟨hdd _, hR.mono ?_⟩
  rintro e W1 (⟨rfl, hJ1, hk1⟩ | ⟨rfl, hx1⟩)
  rotate_left
  · gi_wp2_with fail
    go_ret
    exact .inr ⟨rfl, [⟨d, _, _, _, _, _, ht⟩], ⟨Ty.pres args (d + 1), by simp [Hit.key, Ty.pre]⟩, hx1⟩
  have hk0 : KeepC G W W1 := ((KeepC.refl G W).alloc _).trans hk1
  have hbox : Blk W1 W.heap.size #[.slice a args.length c, .int .i64 b] 40 := hk1.blk (Blk.new _ _ _ rfl) (hG _ _ (Nat.le_refl _) (by decide))
  have c0 : W1.cell? ⟨W.heap.size, 0, none⟩ = some (.slice a args.length c) := hbox.cell rfl
  have Hih := Lib.hid ih; clear ih
  have hG' := Lib.hid hG; clear hG
  have hN' := Lib.hid hN; clear hN
  have hd' := Lib.hid hd; clear hd
  have Ht := Lib.hid ht
  have hJ1' := Lib.hid hJ1
  clear hR hy hY
  gi_wp2_with fail
  gi_loopw [8, 17] (fun _ i wr => ∃ (k : Nat) (xs : List (Hit F w0)), i = .int .i64 k ∧ k ≤ args.length ∧ Hid (xs.map Hit.key = Ty.pres (args.take k) (d + 1)) ∧ J (pre ++ [⟨d, _, _, _, _, _, Ht.out⟩] ++ xs) wr ∧ KeepC G W wr) (fun _ i _ => args.length - (intOf i).toNat)
  case atStart => exact ⟨0, [], rfl, by omega, by simp [Hid, Ty.pres], by simpa using hJ1, hk0⟩
  case round =>
    obtain ⟨k, xs, rfl, hk, hxs, hJr, hkr⟩ := hrel
    have Hkr := Lib.hid hkr
    have HJr := Lib.hid hJr; clear hJr
    have hsz := hkr.size
    by_cases hlt : k < args.length
    · obtain ⟨rfl, hF⟩ := ha (by omega)
      have hKp : Keep F w0 wr := hkr.keep' hw hGF
      have e1 : wr.cell? ⟨bl, off + k * 2, none⟩ = some (.slice (A k) (N' k) (C k)) := hKp _ _ _ hF (h1 k hlt)
      have e2 : wr.cell? ⟨bl, off + k * 2 + 1, none⟩ = some (.int .i64 (B k)) := hKp _ _ _ hF (h2 k hlt)
      have hdb : (d : Int) ≤ 1000000 := by have := hd'.out; omega
      have hs1 := Lib.hid (Ty.sizes_take args k hlt)
      have hs2 := Lib.hid (Ty.sizes_take_le args (k + 1))
      have hl : Hid (xs.length = Ty.sizes (args.take k)) := by
        show _ = _
        have := congrArg List.length hxs.out
        rw [List.length_map] at this
        rw [this, Ty.pres_length]
      gi_wp2_with fail
      refine ⟨trivial, hdd _, (Hih.out k hlt (nn - 1) (d + 1) ((d : Int) + 1) _ _ (by omega) (fun q t hq ht => hG'.out q t (by simp at hq; omega) ht) (hKp.alloc _) (hJ _ _ _ HJr.out) ?_ ?_).mono ?_⟩
      · have := hN'.out; have := hl.out; have := hs1.out; have := hs2.out; simp [Ty.size_eq] at *; omega
      · have := hd'.out; have := Ty.depth_get (b := b) k hlt; omega
      rintro e W2 (⟨rfl, hk2, ys, hys, hJ2⟩ | ⟨rfl, ys, hys, hx2⟩)
      · have HJ2 := Lib.hid hJ2; clear hJ2
        have Hys := Lib.hid hys; clear hys
        gi_wp2_with fail
        go_roundw
        case rel => exact ⟨k + 1, xs ++ ys, by go_num, by omega, by show _ = _; rw [List.map_append, hxs.out, Hys.out, Ty.pres_take _ _ _ hlt], by rw [← List.append_assoc]; exact HJ2.out, (Hkr.out.alloc _).trans hk2⟩
        case measure => simp [intOf]; omega
      · have Hys := Lib.hid hys; clear hys
        have Hx2 := Lib.hid hx2; clear hx2
        gi_wp2_with fail
        go_ret
        refine .inr ⟨rfl, ⟨d, _, _, _, _, _, Ht.out⟩ :: (xs ++ ys), ?_, by simpa using Hx2.out⟩
        obtain ⟨r, hr⟩ := Hys.out
        have hp := Ty.pres_take args k (d + 1) hlt
        rw [← hr] at hp
        obtain ⟨q, hq⟩ := Ty.pres_take_le args (k + 1) (d + 1)
        refine ⟨r ++ q, ?_⟩
        simp only [Ty.pre, List.map_cons, List.map_append, Hit.key, List.cons_append]
        rw [← hq, hp, ← hxs.out]
        simp [Hit.key, Function.comp_def]
    · gi_wp2_with fail
      go_ret
      refine .inl ⟨rfl, Hkr.out, ⟨d, _, _, _, _, _, Ht.out⟩ :: xs, ?_, by simpa using HJr.out⟩
      have h := hxs.out
      rw [List.take_of_length_le (by omega)] at h
      simp [Ty.pre, Hit.key, ← h]

theorem each1_k {F : Nat → Prop} {w0 : World} (G : Nat → TypeId → Prop) (hGF : ∀ k t, F k → k < w0.heap.size → G k t) (l : Nat) (J Jx : List (Hit F w0) → World → Prop) (hJ : ∀ p W o, J p W → J p (W.alloc o))
    {s b : Value} {t : Ty} (ht : IsTy F w0 s b t) (hsz : t.size ≤ 500000) (n : Nat)
    (hY : ∀ pre x W, J pre W → pre.length < t.size → YieldAt Fence.wide (n - 1) Try.prog l (Hit.enc x) W fun e W' =>
      (e = .returned (.bool true) ∧ J (pre ++ [x]) W' ∧ KeepC G W W') ∨ (e = .returned (.bool false) ∧ Jx (pre ++ [x]) W'))
    (W : World) (hG : ∀ k t, W.heap.size ≤ k → t ≠ 3 → G k t) (hw : Keep F w0 W) (Bt : Nat) (c0 : W.cell? ⟨Bt, 0, none⟩ = some s) (c1 : W.cell? ⟨Bt, 1, none⟩ = some b) (h0 : J [] W) :
    CallsIn Fence.wide n Try.prog 113 #[.func (.yield l) #[] #[], .pointer (some ⟨Bt, 0, none⟩)] W fun e W' => (∃ v, e = .returned v) ∧
      ((∃ ys, List.map Hit.key ys = t.pre 1 ∧ J ys W') ∨ (∃ pre, List.map Hit.key pre <+: t.pre 1 ∧ Jx pre W')) := by
  have hdd : ∀ k : Nat, (Fence.wide.depth.isSome = true → 1 ≤ k) := fun k h => by cases h
  have hp := Lib.hid (down_k G hGF l t.size (by omega) J Jx hJ (fun m pre x W hj hl => yield_any rfl m (hY pre x W hj hl)) ht (n - 1) 1 1 [] W rfl hG hw h0 (by simp) (by have := Ty.depth_le_size t; omega))
  have hG' := Lib.hid hG; clear hG hY
  obtain ⟨a, c, rfl, rfl⟩ := ht.shape
  refine callsIn_of_wp Try.func113 rfl trivial ?_ rfl
  simp only [Try.ntmps113, List.size_toArray, List.length_cons, List.length_nil, Nat.reduceAdd, Nat.reduceSub, Array.replicate_succ, Array.replicate_zero, List.push_toArray, List.append_toArray, List.nil_append, List.cons_append]
  gi_wp2_with fail
  refine ⟨trivial, hdd _, hp.out.mono ?_⟩
  rintro e W1 (⟨rfl, hk, ys, hys, hJ1⟩ | ⟨rfl, ys, hys, hx⟩)
  · have A1 := Lib.hid hys; clear hys
    gi_wp2_with fail
    go_end0
    exact ⟨⟨_, rfl⟩, .inl ⟨ys, A1.out, by simpa using hJ1⟩⟩
  · have A1 := Lib.hid hys; clear hys
    gi_wp2_with fail
    go_end0
    exact ⟨⟨_, rfl⟩, .inr ⟨ys, A1.out, by simpa using hx⟩⟩

theorem each_stops {F : Nat → Prop} {w0 : World} (G : Nat → TypeId → Prop) (hGF : ∀ k t, F k → k < w0.heap.size → G k t) {s b : Value} {t : Ty} (ht : IsTy F w0 s b t) (hsz : t.size ≤ 500000) (n : Nat)
    (w : World) (hG : ∀ k t, w.heap.size ≤ k → t ≠ 3 → G k t) (hw : Keep F w0 w) (Bt : Nat) (hB : Blk w Bt #[s, b] 40) :
    SeqStopsK Fence.wide n Try.prog 113 #[.pointer (some ⟨Bt, 0, none⟩)] (Hit.enc (F := F) (w := w0)) (KeepC G) (fun ys => ys.map Hit.key = t.pre 1) (fun p => p.map Hit.key <+: t.pre 1) t.size w :=
  fun l J Jx W hW hJ _ hY h0 => by
    have hB' := hB.below hW
    exact each1_k G hGF l J Jx (fun p W' o hj => hJ p W' _ none hj (World.grownBy_alloc W' o none) (fun r e => by cases e)) ht hsz n hY W (fun k t hk ht => hG k t (Nat.le_trans hW.size hk) ht) (hw.below hW) Bt (hB'.cell rfl) (hB'.cell rfl) h0

theorem each_k (s b : Value) (n : Nat) (w : World) (hs : ∃ a m c, s = .slice a m c) (hb : ∃ i, b = .int .i64 i) :
    CallsIn Fence.wide n Try.prog 71 #[.agg #[s, b]] w fun e w' => e = .returned (.func (.func 113) #[] #[.pointer (some ⟨w.heap.size, 0, none⟩)]) ∧ w' = w.alloc (.cells #[s, b] 40) := by
  obtain ⟨a, m, c, rfl⟩ := hs
  obtain ⟨i, rfl⟩ := hb
  refine callsIn_of_wp Try.func71 rfl trivial ?_ rfl
  simp only [Try.ntmps71, List.size_toArray, List.length_cons, List.length_nil, Nat.reduceAdd, Nat.reduceSub, Array.replicate_succ, Array.replicate_zero, List.push_toArray, List.append_toArray, List.nil_append, List.cons_append]
  gi_wp2_with fail
  go_ret
  exact ⟨rfl, rfl⟩
end Go.Proofs.Ytejpgifofkiofaa

