/-
  A type, copied cell by cell: To, Of of the laws.
-/
import Derived.Test.YtejpgifofkiofaaTy
import Derived.Test.YtejpgifofkiofaaProg
import Derived.Lib.Hide
import Derived.Test.YtejpgifofkiofaaNeed
import Derived.Deep.RegionHeld3
import Derived.Deep.DrawnRows
namespace Go.Proofs.Ytejpgifofkiofaa
open Go.RowKit
attribute [local go_sem ↓] Go.wp_at_zero Go.wp_at_succ

theorem infoK : (Try.prog.info? 40).map (fun i => (i.zero, i.size, i.bytes)) = some (some (.agg #[.slice none 0 0, .int .i64 0]), 2, 32) := by kernel_rfl
theorem infoR : (Try.prog.info? 26).map (fun i => (i.zero, i.size, i.bytes)) = some (some (.agg #[.slice none 0 0, .int .i64 0]), 2, 32) := by kernel_rfl

/-- a fresh copy of a type -/
def FreshTy (t : Ty) (w : World) (e : Ending) (w' : World) : Prop := ∃ s b, e = .returned (.agg #[s, b]) ∧ IsTy (fun k => w.heap.size ≤ k) w' s b t ∧ Below w.heap.size w w'

set_option maxRecDepth 100000 in
set_option maxHeartbeats 1600000 in
theorem to_any {F : Nat → Prop} {w0 : World} {s b : Value} {t : Ty} (ht : IsTy F w0 s b t) : ∀ (w : World), t.size ≤ 1000000 →
    Keep F w0 w →
    Calls Try.prog 18 #[.agg #[s, b]] w (FreshTy t w) := by
  induction ht with
  | mk a n c b args bl off A N C B hn hm ha h1 h2 h3 ih =>
  intro w hsize hw
  clear h3 hm
  subst hn
  have hlen : args.length ≤ 1000000 := by have := Ty.length_lt (l := args) (b := b); omega
  have Hsz : Hid (∀ i (h : i < args.length), args[i].size ≤ 1000000) := fun i h => by have := Ty.size_get (b := b) i h; omega
  have Hih := Lib.hid ih; clear ih hsize
  obtain ⟨i0, hi0, hz0, hz1, hz2⟩ := info_parts infoK
  go_enter Try.func18, Try.ntmps18
  go_wp2_with fail
  go_loopw [4] (fun i wr => ∃ (k : Nat) (v : Value), i = .int .i64 k ∧ k ≤ args.length ∧ 
      Below w.heap.size w wr ∧ Blk wr w.heap.size #[.slice a args.length c, .int .i64 b] 26 ∧ Blk wr (w.heap.size + 1) #[.slice none 0 0, .int .i64 0] 40 ∧ Blk wr (w.heap.size + 2) #[v, .int .i64 b] 40 ∧
      Acc rpTy 40 (w.heap.size + 3) (fun q => w.heap.size + 3 ≤ q) wr v (args.take k)) (fun i _ => args.length - (intOf i).toNat)
  case atStart => 
    exact ⟨0, _, rfl, by omega, (((Below.refl _ _).alloc (Nat.le_refl _) _).alloc (by simp) _).alloc (by simp; omega) _, ((Blk.new _ _ _ rfl).alloc _).alloc _, (Blk.new _ _ _ (by simp)).alloc _, Blk.new _ _ _ (by simp), Acc.nil _ _ _ _ _⟩
  case round =>
    obtain ⟨k, v, rfl, hk, hb, hbox, hres, hout, hacc⟩ := hrel
    have c0 : wr.cell? ⟨w.heap.size, 0, none⟩ = some (.slice a args.length c) := hbox.cell rfl
    have d0 : wr.cell? ⟨w.heap.size + 2, 0, none⟩ = some v := hout.cell rfl
    have hsz := hout.lt
    have Hacc := Lib.hid hacc; clear hacc
    by_cases hlt : k < args.length
    · obtain ⟨rfl, hF⟩ := ha (by omega)
      clear ha
      have e1 : wr.cell? ⟨bl, off + k * 2, none⟩ = some (.slice (A k) (N k) (C k)) := (hw.below hb) _ _ _ hF (h1 k hlt)
      have e2 : wr.cell? ⟨bl, off + k * 2 + 1, none⟩ = some (.int .i64 (B k)) := (hw.below hb) _ _ _ hF (h2 k hlt)
      have hlt0 : (0 : Int) ≤ (k : Int) := Int.natCast_nonneg _
      have hlt1 : (k : Int) < (args.length : Int) := by omega
      have Hbl : Hid (v.ownBlock ≠ some bl) := fun e => by have := (Hacc.out.base_le bl e).1; have := Keep.lt (hw _ _ _ hF (h1 k hlt)); omega
      have Hl : Hid ((args.take k).length = k) := by show _ = _; simp; omega
      have Hne : Hid (∀ q, q < w.heap.size + 3 → v.ownBlock ≠ some q) := fun q hq e => by have := (Hacc.out.base_le q e).1; omega
      go_wp2_with fail
      refine wp_region_noPanic (wp_region_need (S := fun w' => w'.cell? ⟨w.heap.size, 0, none⟩ = some (.slice (some ⟨bl, off, none⟩) args.length c) ∧ w'.cell? ⟨w.heap.size + 2, 0, none⟩ = some v ∧ w'.cell? ⟨bl, off + k * 2, none⟩ = some (.slice (A k) (N k) (C k)) ∧ w'.cell? ⟨bl, off + k * 2 + 1, none⟩ = some (.int .i64 (B k))) (by kernel_rfl) ?_)
      have hS : (wr.drew).cell? ⟨w.heap.size, 0, none⟩ = some (.slice (some ⟨bl, off, none⟩) args.length c) ∧ (wr.drew).cell? ⟨w.heap.size + 2, 0, none⟩ = some v ∧ (wr.drew).cell? ⟨bl, off + k * 2, none⟩ = some (.slice (A k) (N k) (C k)) ∧ (wr.drew).cell? ⟨bl, off + k * 2 + 1, none⟩ = some (.int .i64 (B k)) := ⟨c0, d0, e1, e2⟩
      refine wpN_take (i := 0) (v := ?v1) rfl (by kernel_rfl) (fun _ _ _ h => h) hS (Or.inl ⟨by rfl, ?hy1⟩) ?hr1
      case hy1 => (intro wS hSw; (try dsimp only at hSw); go_simp; (try with_reducible rfl))
      try simp only [Act.put, List.setIfInBounds_toArray, List.set_cons_zero, List.set_cons_succ]
      refine wpN_take (i := 1) (v := ?v2) rfl (by kernel_rfl) (fun _ _ _ h => h) hS (Or.inl ⟨by rfl, ?hy2⟩) ?hr2
      case hy2 => (intro wS hSw; (try dsimp only at hSw); go_simp; (try with_reducible rfl))
      try simp only [Act.put, List.setIfInBounds_toArray, List.set_cons_zero, List.set_cons_succ]
      refine wpN_take (i := 2) (v := ?v3) rfl (by kernel_rfl) (fun _ _ _ h => h) hS (Or.inl ⟨by rfl, ?hy3⟩) ?hr3
      case hy3 => (intro wS hSw; (try dsimp only at hSw); go_simp; (try with_reducible rfl))
      try simp only [Act.put, List.setIfInBounds_toArray, List.set_cons_zero, List.set_cons_succ]
      refine wpN_take (i := 3) (v := ?v4) rfl (by kernel_rfl) (fun _ _ _ h => h) hS (Or.inl ⟨by rfl, ?hy4⟩) ?hr4
      case hy4 => (intro wS hSw; (try dsimp only at hSw); go_simp; (try with_reducible rfl))
      try simp only [Act.put, List.setIfInBounds_toArray, List.set_cons_zero, List.set_cons_succ]
      refine wpN_take (i := 4) (v := ?v5) rfl (by kernel_rfl) (fun _ _ _ h => h) hS (Or.inl ⟨by rfl, ?hy5⟩) ?hr5
      case hy5 => (intro wS hSw; (try dsimp only at hSw); go_simp; (try with_reducible rfl))
      try simp only [Act.put, List.setIfInBounds_toArray, List.set_cons_zero, List.set_cons_succ]
      refine wpN_take (i := 5) (v := ?v6) rfl (by kernel_rfl) (fun _ _ _ h => h) hS (Or.inl ⟨by rfl, ?hy6⟩) ?hr6
      case hy6 => (intro wS hSw; (try dsimp only at hSw); go_simp; (try with_reducible rfl))
      try simp only [Act.put, List.setIfInBounds_toArray, List.set_cons_zero, List.set_cons_succ]
      refine wpN_take (i := 6) (v := ?v7) rfl (by kernel_rfl) (fun _ _ _ h => h) hS (Or.inl ⟨by rfl, ?hy7⟩) ?hr7
      case hy7 => (intro wS hSw; (try dsimp only at hSw); go_simp; (try with_reducible rfl))
      try simp only [Act.put, List.setIfInBounds_toArray, List.set_cons_zero, List.set_cons_succ]
      refine wpN_step (i := 7) (by kernel_rfl) rfl (fun K hK => ?_)
      go_simp
      refine (Hih.out k hlt _ (Hsz.out k hlt) ((hw.below hb).drew)).mono ?_
      rintro e w1 ⟨s', b', rfl, hr1, hb1⟩
      have hK1 : Keep (fun q => v.ownBlock ≠ some q) wr w1 := ((Keep.refl _ _).drew).below hb1
      have hS : (w1).cell? ⟨w.heap.size, 0, none⟩ = some (.slice (some ⟨bl, off, none⟩) args.length c) ∧ (w1).cell? ⟨w.heap.size + 2, 0, none⟩ = some v ∧ (w1).cell? ⟨bl, off + k * 2, none⟩ = some (.slice (A k) (N k) (C k)) ∧ (w1).cell? ⟨bl, off + k * 2 + 1, none⟩ = some (.int .i64 (B k)) := ⟨(Blk.below (w := wr.drew) hbox hb1).cell rfl, (Blk.below (w := wr.drew) hout hb1).cell rfl, hK1 _ _ _ Hbl.out e1, hK1 _ _ _ Hbl.out e2⟩
      refine hK.out _ _ (fun _ => hS) ?_
      clear hK K
      try simp only [Act.put, List.setIfInBounds_toArray, List.set_cons_zero, List.set_cons_succ]
      refine wpN_step (i := 8) (by kernel_rfl) rfl (fun K hK => ?_)
      go_simp
      have hS : (w1.alloc (.cells #[s', b'] 40)).cell? ⟨w.heap.size, 0, none⟩ = some (.slice (some ⟨bl, off, none⟩) args.length c) ∧ (w1.alloc (.cells #[s', b'] 40)).cell? ⟨w.heap.size + 2, 0, none⟩ = some v ∧ (w1.alloc (.cells #[s', b'] 40)).cell? ⟨bl, off + k * 2, none⟩ = some (.slice (A k) (N k) (C k)) ∧ (w1.alloc (.cells #[s', b'] 40)).cell? ⟨bl, off + k * 2 + 1, none⟩ = some (.int .i64 (B k)) := ⟨((Blk.below (w := wr.drew) hbox hb1).alloc _).cell rfl, ((Blk.below (w := wr.drew) hout hb1).alloc _).cell rfl, (hK1.alloc _) _ _ _ Hbl.out e1, (hK1.alloc _) _ _ _ Hbl.out e2⟩
      refine hK.out _ _ (fun _ => hS) ?_
      clear hK K
      try simp only [Act.put, List.setIfInBounds_toArray, List.set_cons_zero, List.set_cons_succ]
      refine wpN_step (i := 9) (by kernel_rfl) rfl (fun K hK => ?_)
      refine step_push rpTy (by decide) (by rfl) _ _ _ (by rfl) (w.heap.size + 3) 40 i0 _ 32 Try.underlying33 hi0 hz0 hz1 hz2 rfl (by decide)
             (fun q => w.heap.size + 3 ≤ q) v (args.take k) (by rfl) (((Hacc.out.drew).below hb1).alloc _) (by rw [Hl.out]; omega)
             w1.heap.size _ [s', b'] args[k] (by rfl) (heap_alloc_new _ _) ⟨_, _, rfl, (hr1.weaken (fun q _ hq => ⟨Nat.le_trans (show w.heap.size + 3 ≤ wr.drew.heap.size from hsz) hq, fun e => by have := (Hacc.out.base_le q e).2; exact absurd this (Nat.not_lt.2 hq)⟩)).keep ((Keep.refl _ _).alloc _)⟩ (by have := hb1.size; simp at this ⊢; omega) ?_
      intro gg cap w2 hacc2 hgrow hat hlt2
      have hK2 : Keep (fun q => v.ownBlock ≠ some q) wr w2 := (hK1.alloc _).grown hgrow (fun _ hr hf => hf hr)
      have o2 := hout.push hb1 hgrow (Hne.out _ (by omega))
      have o1 := hres.push hb1 hgrow (Hne.out _ (by omega))
      have o0 := hbox.push hb1 hgrow (Hne.out _ (by omega))
      have hS : (w2).cell? ⟨w.heap.size, 0, none⟩ = some (.slice (some ⟨bl, off, none⟩) args.length c) ∧ (w2).cell? ⟨w.heap.size + 2, 0, none⟩ = some v ∧ (w2).cell? ⟨bl, off + k * 2, none⟩ = some (.slice (A k) (N k) (C k)) ∧ (w2).cell? ⟨bl, off + k * 2 + 1, none⟩ = some (.int .i64 (B k)) := ⟨o0.cell (i := 0) rfl, o2.cell (i := 0) rfl, hK2 _ _ _ Hbl.out e1, hK2 _ _ _ Hbl.out e2⟩
      have p2 := o2.free 0
      have Hacc2 := Lib.hid hacc2; clear hacc2
      refine hK.out _ _ (fun _ => hS) ?_
      clear hK K
      try simp only [Act.put, List.setIfInBounds_toArray, List.set_cons_zero, List.set_cons_succ]
      refine wpN_take (i := 10) (v := ?v8) rfl (by kernel_rfl) (fun _ _ _ h => h) hS (Or.inl ⟨by rfl, ?hy8⟩) ?hr8
      case hy8 => (intro wS hSw; (try dsimp only at hSw); go_simp; (try with_reducible rfl))
      try simp only [Act.put, List.setIfInBounds_toArray, List.set_cons_zero, List.set_cons_succ]
      refine wpN_step (i := 11) (by kernel_rfl) rfl (fun K hK => ?_)
      go_simp
      refine hK.out _ _ (fun h => absurd h (by decide)) ?_
      clear hK K
      try simp only [Act.put, List.setIfInBounds_toArray, List.set_cons_zero, List.set_cons_succ]
      refine wpN_done (by kernel_rfl) ?_
      refine NoPanic.normal ?_
      go_wp2_with fail
      refine ⟨⟨k + 1, _, by go_num, by omega, (below_push hb (by omega) hb1 hgrow (fun q hq => by have := (Hacc.out.base_le q hq).1; omega)).setCell (by simp; omega) _, o0.far _ _ (by simp; omega), o1.far _ _ (by simp), o2.set 0 _, ?_⟩, by simp [intOf]; omega⟩
      have h := Hacc2.out
      rw [Hl.out, ← List.take_succ_eq_append_getElem hlt] at h
      exact h.setCell _ _ (by simp) (by simp)
    · obtain ⟨va, vc, hv⟩ := Hacc.out.len_shape
      rw [List.length_take, Nat.min_eq_left hk] at hv
      subst hv
      have d1 : wr.cell? ⟨w.heap.size + 2, 1, none⟩ = some (.int .i64 b) := hout.cell rfl
      have r0 : wr.cell? ⟨w.heap.size + 1, 0, none⟩ = some (.slice none 0 0) := hres.cell rfl
      have r1 : wr.cell? ⟨w.heap.size + 1, 1, none⟩ = some (.int .i64 0) := hres.cell rfl
      have f0 := hres.free 0
      have f1 := hres.free 1
      go_wp2_with fail
      refine bodyPost_ret (v := .agg #[.slice va k vc, .int .i64 b]) (by simp [results, Try.results18, go_sem, r0, r1]) rfl ?_
      have hkn : k = args.length := by omega
      refine ⟨_, _, rfl, ?_, (hb.setCell (by simp) _).setCell (by simp) _⟩
      have hF : ∀ q, w.heap.size + 3 ≤ q → q ≠ w.heap.size + 1 := fun q h => by omega
      have h := (Hacc.out.setCell ⟨w.heap.size + 1, 0, none⟩ (.slice va k vc) (by simp) (by simp)).setCell ⟨w.heap.size + 1, 1, none⟩ (.int .i64 b) (by simp) (by simp)
      rw [List.take_of_length_le (by omega)] at h
      exact isTy_mk (h.sl (F' := fun q => w.heap.size ≤ q) (fun q _ hq => by omega) (fun q hq => by omega)) b
set_option maxRecDepth 100000 in
set_option maxHeartbeats 1600000 in
theorem of_any {F : Nat → Prop} {w0 : World} {s b : Value} {t : Ty} (ht : IsTy F w0 s b t) : ∀ (w : World), t.size ≤ 1000000 →
    Keep F w0 w →
    Calls Try.prog 41 #[.agg #[s, b]] w (FreshTy t w) := by
  induction ht with
  | mk a n c b args bl off A N C B hn hm ha h1 h2 h3 ih =>
  intro w hsize hw
  clear h3 hm
  subst hn
  have hlen : args.length ≤ 1000000 := by have := Ty.length_lt (l := args) (b := b); omega
  have Hsz : Hid (∀ i (h : i < args.length), args[i].size ≤ 1000000) := fun i h => by have := Ty.size_get (b := b) i h; omega
  have Hih := Lib.hid ih; clear ih hsize
  obtain ⟨i0, hi0, hz0, hz1, hz2⟩ := info_parts infoR
  go_enter Try.func41, Try.ntmps41
  go_wp2_with fail
  go_loopw [4] (fun i wr => ∃ (k : Nat) (v : Value), i = .int .i64 k ∧ k ≤ args.length ∧ 
      Below w.heap.size w wr ∧ Blk wr w.heap.size #[.slice a args.length c, .int .i64 b] 40 ∧ Blk wr (w.heap.size + 1) #[.slice none 0 0, .int .i64 0] 26 ∧ Blk wr (w.heap.size + 2) #[v, .int .i64 b] 26 ∧
      Acc rpTy 26 (w.heap.size + 3) (fun q => w.heap.size + 3 ≤ q) wr v (args.take k)) (fun i _ => args.length - (intOf i).toNat)
  case atStart => 
    exact ⟨0, _, rfl, by omega, (((Below.refl _ _).alloc (Nat.le_refl _) _).alloc (by simp) _).alloc (by simp; omega) _, ((Blk.new _ _ _ rfl).alloc _).alloc _, (Blk.new _ _ _ (by simp)).alloc _, Blk.new _ _ _ (by simp), Acc.nil _ _ _ _ _⟩
  case round =>
    obtain ⟨k, v, rfl, hk, hb, hbox, hres, hout, hacc⟩ := hrel
    have c0 : wr.cell? ⟨w.heap.size, 0, none⟩ = some (.slice a args.length c) := hbox.cell rfl
    have d0 : wr.cell? ⟨w.heap.size + 2, 0, none⟩ = some v := hout.cell rfl
    have hsz := hout.lt
    have Hacc := Lib.hid hacc; clear hacc
    by_cases hlt : k < args.length
    · obtain ⟨rfl, hF⟩ := ha (by omega)
      clear ha
      have e1 : wr.cell? ⟨bl, off + k * 2, none⟩ = some (.slice (A k) (N k) (C k)) := (hw.below hb) _ _ _ hF (h1 k hlt)
      have e2 : wr.cell? ⟨bl, off + k * 2 + 1, none⟩ = some (.int .i64 (B k)) := (hw.below hb) _ _ _ hF (h2 k hlt)
      have hlt0 : (0 : Int) ≤ (k : Int) := Int.natCast_nonneg _
      have hlt1 : (k : Int) < (args.length : Int) := by omega
      have Hbl : Hid (v.ownBlock ≠ some bl) := fun e => by have := (Hacc.out.base_le bl e).1; have := Keep.lt (hw _ _ _ hF (h1 k hlt)); omega
      have Hl : Hid ((args.take k).length = k) := by show _ = _; simp; omega
      have Hne : Hid (∀ q, q < w.heap.size + 3 → v.ownBlock ≠ some q) := fun q hq e => by have := (Hacc.out.base_le q e).1; omega
      go_wp2_with fail
      refine wp_region_noPanic (wp_region_need (S := fun w' => w'.cell? ⟨w.heap.size, 0, none⟩ = some (.slice (some ⟨bl, off, none⟩) args.length c) ∧ w'.cell? ⟨w.heap.size + 2, 0, none⟩ = some v ∧ w'.cell? ⟨bl, off + k * 2, none⟩ = some (.slice (A k) (N k) (C k)) ∧ w'.cell? ⟨bl, off + k * 2 + 1, none⟩ = some (.int .i64 (B k))) (by kernel_rfl) ?_)
      have hS : (wr.drew).cell? ⟨w.heap.size, 0, none⟩ = some (.slice (some ⟨bl, off, none⟩) args.length c) ∧ (wr.drew).cell? ⟨w.heap.size + 2, 0, none⟩ = some v ∧ (wr.drew).cell? ⟨bl, off + k * 2, none⟩ = some (.slice (A k) (N k) (C k)) ∧ (wr.drew).cell? ⟨bl, off + k * 2 + 1, none⟩ = some (.int .i64 (B k)) := ⟨c0, d0, e1, e2⟩
      refine wpN_take (i := 0) (v := ?v9) rfl (by kernel_rfl) (fun _ _ _ h => h) hS (Or.inl ⟨by rfl, ?hy9⟩) ?hr9
      case hy9 => (intro wS hSw; (try dsimp only at hSw); go_simp; (try with_reducible rfl))
      try simp only [Act.put, List.setIfInBounds_toArray, List.set_cons_zero, List.set_cons_succ]
      refine wpN_take (i := 1) (v := ?v10) rfl (by kernel_rfl) (fun _ _ _ h => h) hS (Or.inl ⟨by rfl, ?hy10⟩) ?hr10
      case hy10 => (intro wS hSw; (try dsimp only at hSw); go_simp; (try with_reducible rfl))
      try simp only [Act.put, List.setIfInBounds_toArray, List.set_cons_zero, List.set_cons_succ]
      refine wpN_take (i := 2) (v := ?v11) rfl (by kernel_rfl) (fun _ _ _ h => h) hS (Or.inl ⟨by rfl, ?hy11⟩) ?hr11
      case hy11 => (intro wS hSw; (try dsimp only at hSw); go_simp; (try with_reducible rfl))
      try simp only [Act.put, List.setIfInBounds_toArray, List.set_cons_zero, List.set_cons_succ]
      refine wpN_take (i := 3) (v := ?v12) rfl (by kernel_rfl) (fun _ _ _ h => h) hS (Or.inl ⟨by rfl, ?hy12⟩) ?hr12
      case hy12 => (intro wS hSw; (try dsimp only at hSw); go_simp; (try with_reducible rfl))
      try simp only [Act.put, List.setIfInBounds_toArray, List.set_cons_zero, List.set_cons_succ]
      refine wpN_take (i := 4) (v := ?v13) rfl (by kernel_rfl) (fun _ _ _ h => h) hS (Or.inl ⟨by rfl, ?hy13⟩) ?hr13
      case hy13 => (intro wS hSw; (try dsimp only at hSw); go_simp; (try with_reducible rfl))
      try simp only [Act.put, List.setIfInBounds_toArray, List.set_cons_zero, List.set_cons_succ]
      refine wpN_take (i := 5) (v := ?v14) rfl (by kernel_rfl) (fun _ _ _ h => h) hS (Or.inl ⟨by rfl, ?hy14⟩) ?hr14
      case hy14 => (intro wS hSw; (try dsimp only at hSw); go_simp; (try with_reducible rfl))
      try simp only [Act.put, List.setIfInBounds_toArray, List.set_cons_zero, List.set_cons_succ]
      refine wpN_take (i := 6) (v := ?v15) rfl (by kernel_rfl) (fun _ _ _ h => h) hS (Or.inl ⟨by rfl, ?hy15⟩) ?hr15
      case hy15 => (intro wS hSw; (try dsimp only at hSw); go_simp; (try with_reducible rfl))
      try simp only [Act.put, List.setIfInBounds_toArray, List.set_cons_zero, List.set_cons_succ]
      refine wpN_step (i := 7) (by kernel_rfl) rfl (fun K hK => ?_)
      go_simp
      refine (Hih.out k hlt _ (Hsz.out k hlt) ((hw.below hb).drew)).mono ?_
      rintro e w1 ⟨s', b', rfl, hr1, hb1⟩
      have hK1 : Keep (fun q => v.ownBlock ≠ some q) wr w1 := ((Keep.refl _ _).drew).below hb1
      have hS : (w1).cell? ⟨w.heap.size, 0, none⟩ = some (.slice (some ⟨bl, off, none⟩) args.length c) ∧ (w1).cell? ⟨w.heap.size + 2, 0, none⟩ = some v ∧ (w1).cell? ⟨bl, off + k * 2, none⟩ = some (.slice (A k) (N k) (C k)) ∧ (w1).cell? ⟨bl, off + k * 2 + 1, none⟩ = some (.int .i64 (B k)) := ⟨(Blk.below (w := wr.drew) hbox hb1).cell rfl, (Blk.below (w := wr.drew) hout hb1).cell rfl, hK1 _ _ _ Hbl.out e1, hK1 _ _ _ Hbl.out e2⟩
      refine hK.out _ _ (fun _ => hS) ?_
      clear hK K
      try simp only [Act.put, List.setIfInBounds_toArray, List.set_cons_zero, List.set_cons_succ]
      refine wpN_step (i := 8) (by kernel_rfl) rfl (fun K hK => ?_)
      go_simp
      have hS : (w1.alloc (.cells #[s', b'] 26)).cell? ⟨w.heap.size, 0, none⟩ = some (.slice (some ⟨bl, off, none⟩) args.length c) ∧ (w1.alloc (.cells #[s', b'] 26)).cell? ⟨w.heap.size + 2, 0, none⟩ = some v ∧ (w1.alloc (.cells #[s', b'] 26)).cell? ⟨bl, off + k * 2, none⟩ = some (.slice (A k) (N k) (C k)) ∧ (w1.alloc (.cells #[s', b'] 26)).cell? ⟨bl, off + k * 2 + 1, none⟩ = some (.int .i64 (B k)) := ⟨((Blk.below (w := wr.drew) hbox hb1).alloc _).cell rfl, ((Blk.below (w := wr.drew) hout hb1).alloc _).cell rfl, (hK1.alloc _) _ _ _ Hbl.out e1, (hK1.alloc _) _ _ _ Hbl.out e2⟩
      refine hK.out _ _ (fun _ => hS) ?_
      clear hK K
      try simp only [Act.put, List.setIfInBounds_toArray, List.set_cons_zero, List.set_cons_succ]
      refine wpN_step (i := 9) (by kernel_rfl) rfl (fun K hK => ?_)
      refine step_push rpTy (by decide) (by rfl) _ _ _ (by rfl) (w.heap.size + 3) 26 i0 _ 32 Try.underlying24 hi0 hz0 hz1 hz2 rfl (by decide)
             (fun q => w.heap.size + 3 ≤ q) v (args.take k) (by rfl) (((Hacc.out.drew).below hb1).alloc _) (by rw [Hl.out]; omega)
             w1.heap.size _ [s', b'] args[k] (by rfl) (heap_alloc_new _ _) ⟨_, _, rfl, (hr1.weaken (fun q _ hq => ⟨Nat.le_trans (show w.heap.size + 3 ≤ wr.drew.heap.size from hsz) hq, fun e => by have := (Hacc.out.base_le q e).2; exact absurd this (Nat.not_lt.2 hq)⟩)).keep ((Keep.refl _ _).alloc _)⟩ (by have := hb1.size; simp at this ⊢; omega) ?_
      intro gg cap w2 hacc2 hgrow hat hlt2
      have hK2 : Keep (fun q => v.ownBlock ≠ some q) wr w2 := (hK1.alloc _).grown hgrow (fun _ hr hf => hf hr)
      have o2 := hout.push hb1 hgrow (Hne.out _ (by omega))
      have o1 := hres.push hb1 hgrow (Hne.out _ (by omega))
      have o0 := hbox.push hb1 hgrow (Hne.out _ (by omega))
      have hS : (w2).cell? ⟨w.heap.size, 0, none⟩ = some (.slice (some ⟨bl, off, none⟩) args.length c) ∧ (w2).cell? ⟨w.heap.size + 2, 0, none⟩ = some v ∧ (w2).cell? ⟨bl, off + k * 2, none⟩ = some (.slice (A k) (N k) (C k)) ∧ (w2).cell? ⟨bl, off + k * 2 + 1, none⟩ = some (.int .i64 (B k)) := ⟨o0.cell (i := 0) rfl, o2.cell (i := 0) rfl, hK2 _ _ _ Hbl.out e1, hK2 _ _ _ Hbl.out e2⟩
      have p2 := o2.free 0
      have Hacc2 := Lib.hid hacc2; clear hacc2
      refine hK.out _ _ (fun _ => hS) ?_
      clear hK K
      try simp only [Act.put, List.setIfInBounds_toArray, List.set_cons_zero, List.set_cons_succ]
      refine wpN_take (i := 10) (v := ?v16) rfl (by kernel_rfl) (fun _ _ _ h => h) hS (Or.inl ⟨by rfl, ?hy16⟩) ?hr16
      case hy16 => (intro wS hSw; (try dsimp only at hSw); go_simp; (try with_reducible rfl))
      try simp only [Act.put, List.setIfInBounds_toArray, List.set_cons_zero, List.set_cons_succ]
      refine wpN_step (i := 11) (by kernel_rfl) rfl (fun K hK => ?_)
      go_simp
      refine hK.out _ _ (fun h => absurd h (by decide)) ?_
      clear hK K
      try simp only [Act.put, List.setIfInBounds_toArray, List.set_cons_zero, List.set_cons_succ]
      refine wpN_done (by kernel_rfl) ?_
      refine NoPanic.normal ?_
      go_wp2_with fail
      refine ⟨⟨k + 1, _, by go_num, by omega, (below_push hb (by omega) hb1 hgrow (fun q hq => by have := (Hacc.out.base_le q hq).1; omega)).setCell (by simp; omega) _, o0.far _ _ (by simp; omega), o1.far _ _ (by simp), o2.set 0 _, ?_⟩, by simp [intOf]; omega⟩
      have h := Hacc2.out
      rw [Hl.out, ← List.take_succ_eq_append_getElem hlt] at h
      exact h.setCell _ _ (by simp) (by simp)
    · obtain ⟨va, vc, hv⟩ := Hacc.out.len_shape
      rw [List.length_take, Nat.min_eq_left hk] at hv
      subst hv
      have d1 : wr.cell? ⟨w.heap.size + 2, 1, none⟩ = some (.int .i64 b) := hout.cell rfl
      have r0 : wr.cell? ⟨w.heap.size + 1, 0, none⟩ = some (.slice none 0 0) := hres.cell rfl
      have r1 : wr.cell? ⟨w.heap.size + 1, 1, none⟩ = some (.int .i64 0) := hres.cell rfl
      have f0 := hres.free 0
      have f1 := hres.free 1
      go_wp2_with fail
      refine bodyPost_ret (v := .agg #[.slice va k vc, .int .i64 b]) (by simp [results, Try.results41, go_sem, r0, r1]) rfl ?_
      have hkn : k = args.length := by omega
      refine ⟨_, _, rfl, ?_, (hb.setCell (by simp) _).setCell (by simp) _⟩
      have hF : ∀ q, w.heap.size + 3 ≤ q → q ≠ w.heap.size + 1 := fun q h => by omega
      have h := (Hacc.out.setCell ⟨w.heap.size + 1, 0, none⟩ (.slice va k vc) (by simp) (by simp)).setCell ⟨w.heap.size + 1, 1, none⟩ (.int .i64 b) (by simp) (by simp)
      rw [List.take_of_length_le (by omega)] at h
      exact isTy_mk (h.sl (F' := fun q => w.heap.size ≤ q) (fun q _ hq => by omega) (fun q hq => by omega)) b
end Go.Proofs.Ytejpgifofkiofaa
