/-
  A type's order, its copy, the type of a base and arguments: what the program's functions hand back.
-/
import Derived.Test.YtejpgifofkiofaaRefSame
import Derived.Test.YtejpgifofkiofaaTo
namespace Go.Proofs.Ytejpgifofkiofaa
open Go.RowKit
attribute [local go_sem ↓] Go.wp_at_zero Go.wp_at_succ

set_option maxHeartbeats 400000 in
theorem order_k {F : Nat → Prop} {w0 : World} {s b : Value} {t : Ty} (ht : IsTy F w0 s b t) : ∀ w : World, t.size ≤ 1000000 → Keep F w0 w →
    Calls Try.prog 36 #[.agg #[s, b]] w (RetI t.order w) := by
  induction ht with
  | mk a n c b args bl off A N C B hn hm ha h1 h2 h3 ih =>
  intro w hsz hw
  clear h3 hm
  subst hn
  have hlen : args.length ≤ 1000000 := by have := Ty.length_lt (l := args) (b := b); omega
  have Hsz : Hid (∀ i (h : i < args.length), args[i].size ≤ 1000000 ∧ args[i].order ≤ 1000000) := fun i h => by
    have := Ty.size_get (b := b) i h; have := Ty.depth_le_size args[i]; have := Ty.order_le_depth args[i]; omega
  have Hall : Hid (Ty.orders args ≤ 1000000) := by
    show _ ≤ _
    have := Ty.depth_le_size (.mk args b); have := Ty.order_le_depth (.mk args b); rw [Ty.order_eq] at *; omega
  have Hend : Hid ((Ty.mk args b).order = Ty.orders args) := Ty.order_eq _ _
  have Hih := Lib.hid ih; clear ih hsz
  go_enter Try.func36, Try.ntmps36
  go_wp2_with fail
  go_loopw [3, 5, 9] (fun x y i wr => ∃ k : Nat, i = .int .i64 k ∧ x = .int .i64 (Ty.orders (args.take k)) ∧ k ≤ args.length ∧ Below w.heap.size w wr) (fun _ _ i _ => args.length - (intOf i).toNat)
  case atStart => exact ⟨0, rfl, rfl, by omega, (Below.refl _ _).alloc (Nat.le_refl _) _⟩
  case round =>
    obtain ⟨k, rfl, rfl, hk, hb⟩ := hrel
    have hbs := hb.size
    have hs2 : Ty.orders (args.take k) ≤ 1000000 := by have := Hall.out; have := Ty.orders_take_le args k; omega
    by_cases hlt : k < args.length
    · obtain ⟨rfl, hF⟩ := ha (by omega)
      have e1 : wr.cell? ⟨bl, off + k * 2, none⟩ = some (.slice (A k) (N k) (C k)) := (hw.below hb) _ _ _ hF (h1 k hlt)
      have e2 : wr.cell? ⟨bl, off + k * 2 + 1, none⟩ = some (.int .i64 (B k)) := (hw.below hb) _ _ _ hF (h2 k hlt)
      have hs := (Hsz.out k hlt).2
      go_wp2_with fail
      refine (Hih.out k hlt _ (Hsz.out k hlt).1 ((hw.below hb).alloc _)).mono ?_
      rintro e w1 ⟨rfl, hb1⟩
      go_wp2_with fail
      go_roundw
      case rel => exact ⟨k + 1, by go_num, by rw [Ty.orders_take _ _ hlt]; simp; split <;> omega, by omega, (hb.alloc hbs _).trans (hb1.mono (by simp; omega))⟩
      case measure => simp [intOf]; omega
    · go_wp2_with fail
      go_ret
      refine ⟨?_, hb⟩
      rw [Hend.out, List.take_of_length_le (by omega)]; rfl

set_option maxRecDepth 100000 in
set_option maxHeartbeats 1600000 in
theorem copied_k {F : Nat → Prop} {w0 : World} {s b : Value} {t : Ty} (ht : IsTy F w0 s b t) : ∀ (w : World), t.size ≤ 100000 →
    Keep F w0 w →
    Calls Try.prog 97 #[.agg #[s, b]] w (FreshTy t w) := by
  induction ht with
  | mk a n c b args bl off A N C B hn hm ha h1 h2 h3 ih =>
  intro w hsize hw
  clear h3 hm
  subst hn
  have hlen : args.length ≤ 100000 := by have := Ty.length_lt (l := args) (b := b); omega
  have Hsz : Hid (∀ i (h : i < args.length), args[i].size ≤ 100000) := fun i h => by have := Ty.size_get (b := b) i h; omega
  have Hih := Lib.hid ih; clear ih hsize
  obtain ⟨i0, hi0, hz0, hz1, hz2⟩ := info_parts infoK
  go_enter Try.func97, Try.ntmps97
  go_wp2_with fail
  go_loopw [5, 12] (fun _ i wr => ∃ (k : Nat) (v : Value), i = .int .i64 k ∧ k ≤ args.length ∧ 
      Below w.heap.size w wr ∧ Blk wr (w.heap.size + 1) #[.slice none 0 0, .int .i64 0] 40 ∧ Blk wr (w.heap.size + 2) #[v, .int .i64 b] 40 ∧
      Acc rpTy 40 (w.heap.size + 3) (fun q => w.heap.size + 3 ≤ q) wr v (args.take k)) (fun _ i _ => args.length - (intOf i).toNat)
  case atStart => 
    exact ⟨0, _, rfl, by omega, (((Below.refl _ _).alloc (Nat.le_refl _) _).alloc (by simp) _).alloc (by simp; omega) _, (Blk.new _ _ _ (by simp)).alloc _, Blk.new _ _ _ (by simp), Acc.nil _ _ _ _ _⟩
  case round =>
    obtain ⟨k, v, rfl, hk, hb, hres, hout, hacc⟩ := hrel
    have d0 : wr.cell? ⟨w.heap.size + 2, 0, none⟩ = some v := hout.cell rfl
    have hsz := hout.lt
    have Hacc := Lib.hid hacc; clear hacc
    by_cases hlt : k < args.length
    · obtain ⟨rfl, hF⟩ := ha (by omega)
      clear ha
      have e1 : wr.cell? ⟨bl, off + k * 2, none⟩ = some (.slice (A k) (N k) (C k)) := (hw.below hb) _ _ _ hF (h1 k hlt)
      have e2 : wr.cell? ⟨bl, off + k * 2 + 1, none⟩ = some (.int .i64 (B k)) := (hw.below hb) _ _ _ hF (h2 k hlt)
      have hlt0 : (0 : Int) ≤ (k : Int) := Int.natCast_nonneg _
      have hlt1 : (k : Int) < (args.length : Int) := by omega
      have Hl : Hid ((args.take k).length = k) := by show _ = _; simp; omega
      have Hne : Hid (∀ q, q < w.heap.size + 3 → v.ownBlock ≠ some q) := fun q hq e => by have := (Hacc.out.base_le q e).1; omega
      have Ho : Hid (v.ownBlock ≠ some wr.heap.size) := fun e => by have := (Hacc.out.base_le _ e).2; omega
      go_wp2_with fail
      obtain ⟨wa, hwa⟩ : ∃ wa, wr.alloc (.cells #[.slice (A k) (N k) (C k), .int .i64 (B k)] 40) = wa := ⟨_, rfl⟩
      have Wa := Lib.hid hwa
      have ba : Below w.heap.size w wa := by rw [← hwa]; exact hb.alloc (by omega) _
      have sa : wr.heap.size + 1 = wa.heap.size := by rw [← hwa]; simp
      have Sa := Lib.hid sa
      have xa : Blk wa wr.heap.size #[.slice (A k) (N k) (C k), .int .i64 (B k)] 40 := by rw [← hwa]; exact Blk.new _ _ _ rfl
      have ra : Blk wa (w.heap.size + 1) #[.slice none 0 0, .int .i64 0] 40 := by rw [← hwa]; exact hres.alloc _
      have oa : Blk wa (w.heap.size + 2) #[v, .int .i64 b] 40 := by rw [← hwa]; exact hout.alloc _
      have Ka : Hid (Keep F w0 wa) := by rw [← hwa]; exact (hw.below hb).alloc _
      have Aa : Hid (Acc rpTy 40 (w.heap.size + 3) (fun q => w.heap.size + 3 ≤ q) wa v (args.take k)) := by rw [← hwa]; exact Hacc.out.alloc _
      rw [hwa]
      clear hwa sa
      refine wp_region_noPanic (wp_region_need (S := fun w' => w'.cell? ⟨w.heap.size + 2, 0, none⟩ = some v ∧ w'.cell? ⟨wr.heap.size, 0, none⟩ = some (.slice (A k) (N k) (C k)) ∧ w'.cell? ⟨wr.heap.size, 1, none⟩ = some (.int .i64 (B k))) (by kernel_rfl) ?_)
      have hS : (wa.drew).cell? ⟨w.heap.size + 2, 0, none⟩ = some v ∧ (wa.drew).cell? ⟨wr.heap.size, 0, none⟩ = some (.slice (A k) (N k) (C k)) ∧ (wa.drew).cell? ⟨wr.heap.size, 1, none⟩ = some (.int .i64 (B k)) := ⟨oa.drew.cell rfl, xa.drew.cell rfl, xa.drew.cell rfl⟩
      refine wpN_take (i := 0) (v := ?v1) rfl (by kernel_rfl) (fun _ _ _ h => h) hS (Or.inl ⟨by rfl, ?hy1⟩) ?hr1
      case hy1 => (intro wS hSw; (try dsimp only at hSw); go_simp; (try with_reducible rfl))
      try simp only [Act.put, List.setIfInBounds_toArray, List.set_cons_zero, List.set_cons_succ]
      refine wpN_take (i := 1) (v := ?v2) rfl (by kernel_rfl) (fun _ _ _ h => h) hS (Or.inl ⟨by rfl, ?hy2⟩) ?hr2
      case hy2 => (intro wS hSw; (try dsimp only at hSw); go_simp; (try with_reducible rfl))
      try simp only [Act.put, List.setIfInBounds_toArray, List.set_cons_zero, List.set_cons_succ]
      refine wpN_take (i := 2) (v := ?v3) rfl (by kernel_rfl) (fun _ _ _ h => h) hS (Or.inl ⟨by rfl, ?hy3⟩) ?hr3
      case hy3 => (intro wS hSw; (try dsimp only at hSw); go_simp; (try with_reducible rfl))
      try simp only [Act.put, List.setIfInBounds_toArray, List.set_cons_zero, List.set_cons_succ]
      refine wpN_step (i := 3) (by kernel_rfl) rfl (fun K hK => ?_)
      go_simp
      refine (Hih.out k hlt _ (Hsz.out k hlt) Ka.out.drew).mono ?_
      rintro e w1 ⟨s', b', rfl, hr1, hb1⟩
      have hKp : Keep (fun q => v.ownBlock ≠ some q) wa w1 := ((Keep.refl _ _).drew).below hb1
      have x1 := Blk.below (w := wa.drew) xa hb1
      have o1 := Blk.below (w := wa.drew) oa hb1
      have hS : (w1).cell? ⟨w.heap.size + 2, 0, none⟩ = some v ∧ (w1).cell? ⟨wr.heap.size, 0, none⟩ = some (.slice (A k) (N k) (C k)) ∧ (w1).cell? ⟨wr.heap.size, 1, none⟩ = some (.int .i64 (B k)) := ⟨o1.cell rfl, x1.cell rfl, x1.cell rfl⟩
      refine hK.out _ _ (fun _ => hS) ?_
      clear hK K
      try simp only [Act.put, List.setIfInBounds_toArray, List.set_cons_zero, List.set_cons_succ]
      refine wpN_step (i := 4) (by kernel_rfl) rfl (fun K hK => ?_)
      go_simp
      have hS : (w1.alloc (.cells #[s', b'] 40)).cell? ⟨w.heap.size + 2, 0, none⟩ = some v ∧ (w1.alloc (.cells #[s', b'] 40)).cell? ⟨wr.heap.size, 0, none⟩ = some (.slice (A k) (N k) (C k)) ∧ (w1.alloc (.cells #[s', b'] 40)).cell? ⟨wr.heap.size, 1, none⟩ = some (.int .i64 (B k)) := ⟨(o1.alloc _).cell rfl, (x1.alloc _).cell rfl, (x1.alloc _).cell rfl⟩
      refine hK.out _ _ (fun _ => hS) ?_
      clear hK K
      try simp only [Act.put, List.setIfInBounds_toArray, List.set_cons_zero, List.set_cons_succ]
      refine wpN_step (i := 5) (by kernel_rfl) rfl (fun K hK => ?_)
      refine step_push rpTy (by decide) (by rfl) _ _ _ (by rfl) (w.heap.size + 3) 40 i0 _ 32 Try.underlying33 hi0 hz0 hz1 hz2 rfl (by decide)
             (fun q => w.heap.size + 3 ≤ q) v (args.take k) (by rfl) (((Aa.out.drew).below hb1).alloc _) (by rw [Hl.out]; omega)
             w1.heap.size _ [s', b'] args[k] (by rfl) (heap_alloc_new _ _) ⟨_, _, rfl, (hr1.weaken (fun q _ hq => ⟨Nat.le_trans (show w.heap.size + 3 ≤ wa.drew.heap.size from oa.lt) hq, fun e => by have := (Aa.out.base_le q e).2; exact absurd this (Nat.not_lt.2 hq)⟩)).keep ((Keep.refl _ _).alloc _)⟩ (by have := hb1.size; have := oa.lt; simp at *; omega) ?_
      intro gg cap w2 hacc2 hgrow hat hlt2
      have o2 := oa.push hb1 hgrow (Hne.out _ (by omega))
      have r2 := ra.push hb1 hgrow (Hne.out _ (by omega))
      have x2 := xa.push hb1 hgrow Ho.out
      have hS : (w2).cell? ⟨w.heap.size + 2, 0, none⟩ = some v ∧ (w2).cell? ⟨wr.heap.size, 0, none⟩ = some (.slice (A k) (N k) (C k)) ∧ (w2).cell? ⟨wr.heap.size, 1, none⟩ = some (.int .i64 (B k)) := ⟨o2.cell rfl, x2.cell rfl, x2.cell rfl⟩
      have p2 := o2.free 0
      have Hacc2 := Lib.hid hacc2; clear hacc2
      refine hK.out _ _ (fun _ => hS) ?_
      clear hK K
      try simp only [Act.put, List.setIfInBounds_toArray, List.set_cons_zero, List.set_cons_succ]
      refine wpN_take (i := 6) (v := ?v4) rfl (by kernel_rfl) (fun _ _ _ h => h) hS (Or.inl ⟨by rfl, ?hy4⟩) ?hr4
      case hy4 => (intro wS hSw; (try dsimp only at hSw); go_simp; (try with_reducible rfl))
      try simp only [Act.put, List.setIfInBounds_toArray, List.set_cons_zero, List.set_cons_succ]
      refine wpN_step (i := 7) (by kernel_rfl) rfl (fun K hK => ?_)
      go_simp
      refine hK.out _ _ (fun h => absurd h (by decide)) ?_
      clear hK K
      try simp only [Act.put, List.setIfInBounds_toArray, List.set_cons_zero, List.set_cons_succ]
      refine wpN_done (by kernel_rfl) ?_
      refine NoPanic.normal ?_
      go_wp2_with fail
      refine ⟨⟨k + 1, _, by go_num, by omega, (below_push ba (by have := oa.lt; omega) hb1 hgrow (fun q hq => by have := (Hacc.out.base_le q hq).1; omega)).setCell (by simp; omega) _, r2.far _ _ (by simp), o2.set 0 _, ?_⟩, by simp [intOf]; omega⟩
      have h := Hacc2.out
      rw [Hl.out, ← List.take_succ_eq_append_getElem hlt] at h
      exact h.setCell _ _ (by simp) (by simp)
    · obtain ⟨va, vc, hv⟩ := Hacc.out.len_shape
      rw [List.length_take, Nat.min_eq_left hk] at hv
      subst hv
      have d1 : wr.cell? ⟨w.heap.size + 2, 1, none⟩ = some (.int .i64 b) := hout.cell rfl
      have r0 : wr.cell? ⟨w.heap.size + 1, 0, none⟩ = some (.slice none 0 0) := hres.cell rfl
      have r1 : wr.cell? ⟨w.heap.size + 1, 1, none⟩ = some (.int .i64 0) := hres.cell rfl
      have f0 := hres.free 0
      have f1 := hres.free 1
      go_wp2_with fail
      refine bodyPost_ret (v := .agg #[.slice va k vc, .int .i64 b]) (by simp [results, Try.results97, go_sem, r0, r1]) rfl ?_
      have hkn : k = args.length := by omega
      refine ⟨_, _, rfl, ?_, (hb.setCell (by simp) _).setCell (by simp) _⟩
      have h := (Hacc.out.setCell ⟨w.heap.size + 1, 0, none⟩ (.slice va k vc) (by simp) (by simp)).setCell ⟨w.heap.size + 1, 1, none⟩ (.int .i64 b) (by simp) (by simp)
      rw [List.take_of_length_le (by omega)] at h
      exact isTy_mk (h.sl (F' := fun q => w.heap.size ≤ q) (fun q _ hq => by omega) (fun q hq => by omega)) b
end Go.Proofs.Ytejpgifofkiofaa
