/-
  The reference's Up, Looses, Loose and Shift.
-/
import Derived.Test.YtejpgifofkiofaaRowParts6p19
import Derived.Test.YtejpgifofkiofaaRowParts6p12
set_option linter.unusedVariables false
set_option linter.unusedSimpArgs false
namespace Go.Proofs.Ytejpgifofkiofaa
open Go.RowKit

def UpRef (b f : Int) (t : Tm) : Prop := ∀ (F : Nat → Prop) (w0 : World) (b0 k0 i0 a0 : Value), IsTm F w0 b0 k0 i0 a0 t → ∀ (n : Int) (w : World), Keep F w0 w → 0 ≤ n → n + t.full ≤ 90000 → t.Fit → (∀ x ∈ t.looses n, f ≤ x → 0 ≤ x + b ∧ x + b ≤ 1000) →
    Calls Try.prog 120 #[.agg #[b0, k0, i0, a0], .int .i64 b, .int .i64 f, .int .i64 n] w (AnyTm F (t.mapl (grow b f) n) w)

set_option maxRecDepth 100000 in
set_option maxHeartbeats 1000000 in
theorem up_r (b f : Int) : ∀ t : Tm, UpRef b f t := Tm.ind fun binds k i args ih => by
  intro F w0 b0 k0 i0 a0 ht n w hw hn0 hn1 hfit hok
  obtain ⟨rfl, rfl, hb0, hs0⟩ := ht.inv
  have hb := (hb0.keep hw).weaken (F' := fun q => F q ∧ q < w.heap.size) (by decide) fun q h1 h2 => ⟨h2, h1⟩
  have hs := (hs0.keep hw).weaken (F' := fun q => F q ∧ q < w.heap.size) (by decide) fun q h1 h2 => ⟨h2, h1⟩
  clear hb0 hs0 ht hw
  obtain ⟨pa, pc, rfl⟩ := hb.shape
  obtain ⟨a, c, rfl⟩ := hs.shape
  simp only [Tm.binds, Tm.kind, Tm.index, Tm.args] at *
  obtain ⟨_, hm, bl, off, PA, A, PN, PC, N, C, Kd, Ix, ha, h1, h2, h3, h4, h5⟩ := sl_cells6 hs
  have Hb := Lib.hid hb
  clear hs hb
  rw [Tm.full_eq] at hn1
  obtain ⟨hi0, hi1, hfa⟩ := Tm.fit_iff.1 hfit
  have hbl := Ty.le_sizes binds
  obtain ⟨m, hmm⟩ : ∃ m : Int, n + (binds.length : Int) = m := ⟨_, rfl⟩
  have hm0 : 0 ≤ m := by omega
  have hm1 : m ≤ 90000 := by omega
  have hs1 : IntKind.i64.wrap m = m := IntWalk.i64_in _ (by omega)
  have hal : args.length ≤ 90000 := by have := Tm.len_fulls args; omega
  rw [Tm.looses_eq binds k i args n m hmm] at hok
  have Hih : Hid (∀ j (h : j < args.length) (w' : World), Keep (fun q => F q ∧ q < w.heap.size) w w' → Calls Try.prog 120 #[.agg #[.slice (PA j) (PN j) (PC j), .int .i64 (Kd j), .int .i64 (Ix j), .slice (A j) (N j) (C j)], .int .i64 b, .int .i64 f, .int .i64 m] w' (AnyTm (fun q => F q ∧ q < w.heap.size) (args[j].mapl (grow b f) m) w')) :=
    fun j h w' hw => ih _ (List.getElem_mem h) _ _ _ _ _ _ (h5 j h) m w' hw hm0 (by have := Tm.full_mem (List.getElem_mem h); omega) (hfa _ (List.getElem_mem h)) (fun x hx => hok x (List.mem_append.2 (.inr (Tm.mem_loosess (List.getElem_mem h) hx))))
  have hok0 : k = 0 → m ≤ i → f ≤ i - m → 0 ≤ i - m + b ∧ i - m + b ≤ 1000 := fun h1 h2 h3 => hok _ (List.mem_append.2 (.inl (by rw [if_pos ⟨h1, h2⟩]; simp))) h3
  clear ih h5 hfit hfa hok
  obtain ⟨X, hX⟩ : ∃ X, (Tm.mk binds k i args).mapl (grow b f) n = X := ⟨_, rfl⟩
  rw [hX]
  obtain ⟨i2, hi2, hz0, hz1, hz2⟩ := info_parts infoM
  by_cases hk : k = 0
  · subst hk
    have hk0 : ((0 : Int) == 0) = true := rfl
    by_cases hge : i ≥ m
    · have hq1 : IntKind.i64.wrap (i - m) = i - m := IntWalk.i64_in _ (by omega)
      by_cases hgf : i - m ≥ f
      · obtain ⟨g1, g2⟩ := hok0 rfl hge hgf
        have hq2 : IntKind.i64.wrap (i + b) = i + b := IntWalk.i64_in _ (by omega)
        have HX : Hid (X = Tm.mk binds 0 (i + b) (Tm.mapls (grow b f) args m)) := by show _ = _; rw [← hX, Tm.mapl_eq _ binds 0 i args n m hmm]; rw [if_pos ⟨rfl, hge⟩, grow, if_neg (by omega), show m + (i - m + b) = i + b by omega]
        clear hX
        go_enter Try.func120, Try.ntmps120
        go_wp2_with fail
        obtain ⟨w4, hw4⟩ : ∃ w4, ((w.alloc (.cells #[.slice pa binds.length pc, .int .i64 0, .int .i64 i, .slice a args.length c] 29)).alloc (.cells #[.slice none 0 0, .int .i64 0, .int .i64 0, .slice none 0 0] 29)).alloc (.cells #[.slice pa binds.length pc, .int .i64 0, .int .i64 (i + b), .slice none 0 0] 29) = w4 := ⟨_, rfl⟩
        have B4 : Below w.heap.size w w4 := by rw [← hw4]; exact (((Below.refl _ _).alloc (Nat.le_refl _) _).alloc (by simp) _).alloc (by simp; omega) _
        have x1 : Blk w4 w.heap.size #[.slice pa binds.length pc, .int .i64 0, .int .i64 i, .slice a args.length c] 29 := by rw [← hw4]; exact ((Blk.new _ _ _ rfl).alloc _).alloc _
        have x2 : Blk w4 (w.heap.size + 1) #[.slice none 0 0, .int .i64 0, .int .i64 0, .slice none 0 0] 29 := by rw [← hw4]; exact (Blk.new _ _ _ (by simp)).alloc _
        have x3 : Blk w4 (w.heap.size + 1 + 1) #[.slice pa binds.length pc, .int .i64 0, .int .i64 (i + b), .slice none 0 0] 29 := by rw [← hw4]; exact Blk.new _ _ _ (by simp)
        try rw [hw4]
        clear hw4
        go_loopw [11] (fun ii wr => ∃ (j : Nat) (v : Value), ii = .int .i64 j ∧ j ≤ args.length ∧
            Below w.heap.size w wr ∧ Blk wr w.heap.size #[.slice pa binds.length pc, .int .i64 0, .int .i64 i, .slice a args.length c] 29 ∧ Blk wr (w.heap.size + 1) #[.slice none 0 0, .int .i64 0, .int .i64 0, .slice none 0 0] 29 ∧ Blk wr (w.heap.size + 1 + 1) #[.slice pa binds.length pc, .int .i64 0, .int .i64 (i + b), v] 29 ∧
            Acc rpTm 29 (w.heap.size + 3) (fun q => (F q ∧ q < w.heap.size) ∨ w.heap.size + 3 ≤ q) wr v (Tm.mapls (grow b f) (args.take j) m)) (fun ii _ => args.length - (intOf ii).toNat)
        case atStart => exact ⟨0, _, rfl, by omega, B4, x1, x2, x3, Acc.nil _ _ _ _ _⟩
        case round =>
          clear B4 x1 x2 x3
          obtain ⟨j, v, rfl, hj, hb, hbox, hres, hout, hacc⟩ := hrel
          have c0 : wr.cell? ⟨w.heap.size, 3, none⟩ = some (.slice a args.length c) := hbox.cell rfl
          have d0 : wr.cell? ⟨w.heap.size + 1 + 1, 3, none⟩ = some v := hout.cell rfl
          have hszp := hout.lt
          have Hacc := Lib.hid hacc; clear hacc
          by_cases hlt : j < args.length
          · obtain ⟨rfl, hF⟩ := ha (by omega)
            clear ha
            have hkp : Keep (fun q => F q ∧ q < w.heap.size) w wr := (Keep.refl _ _).below hb
            have e1 := hkp _ _ _ hF (h1 j hlt)
            have e2 := hkp _ _ _ hF (h2 j hlt)
            have e3 := hkp _ _ _ hF (h3 j hlt)
            have e4 := hkp _ _ _ hF (h4 j hlt)
            have hlt0 : (0 : Int) ≤ (j : Int) := Int.natCast_nonneg _
            have hlt1 : (j : Int) < (args.length : Int) := by omega
            have Hbl : Hid (v.ownBlock ≠ some bl) := fun e => by have := (Hacc.out.base_le bl e).1; have := hF.2; omega
            have Hl : Hid ((Tm.mapls (grow b f) (args.take j) m).length = j) := by show _ = _; rw [Tm.mapls_len, List.length_take]; omega
            have Hne : Hid (∀ q, q < w.heap.size + 3 → v.ownBlock ≠ some q) := fun q hq e => by have := (Hacc.out.base_le q e).1; omega
            have Htk := Lib.hid (Tm.mapls_take (grow b f) args m j hlt)
            go_wp2_with fail
            refine wp_region_noPanic (wp_region_need (S := fun w' => w'.cell? ⟨w.heap.size, 3, none⟩ = some (.slice (some ⟨bl, off, none⟩) args.length c) ∧ w'.cell? ⟨w.heap.size + 1 + 1, 3, none⟩ = some v ∧ w'.cell? ⟨bl, off + j * 4, none⟩ = some (.slice (PA j) (PN j) (PC j)) ∧ w'.cell? ⟨bl, off + j * 4 + 1, none⟩ = some (.int .i64 (Kd j)) ∧ w'.cell? ⟨bl, off + j * 4 + 2, none⟩ = some (.int .i64 (Ix j)) ∧ w'.cell? ⟨bl, off + j * 4 + 3, none⟩ = some (.slice (A j) (N j) (C j))) (by kernel_rfl) ?_)
            have hS : (wr.drew).cell? ⟨w.heap.size, 3, none⟩ = some (.slice (some ⟨bl, off, none⟩) args.length c) ∧ (wr.drew).cell? ⟨w.heap.size + 1 + 1, 3, none⟩ = some v ∧ (wr.drew).cell? ⟨bl, off + j * 4, none⟩ = some (.slice (PA j) (PN j) (PC j)) ∧ (wr.drew).cell? ⟨bl, off + j * 4 + 1, none⟩ = some (.int .i64 (Kd j)) ∧ (wr.drew).cell? ⟨bl, off + j * 4 + 2, none⟩ = some (.int .i64 (Ix j)) ∧ (wr.drew).cell? ⟨bl, off + j * 4 + 3, none⟩ = some (.slice (A j) (N j) (C j)) := ⟨c0, d0, e1, e2, e3, e4⟩
            refine wpN_take (i := 0) (v := ?v1) rfl (by kernel_rfl) (fun _ _ _ h => h) hS (Or.inl ⟨by rfl, ?hy1⟩) ?hr1
            case hy1 => (intro wS hSw; (try dsimp only at hSw); go_simp; (try with_reducible rfl))
            try simp only [Act.put, List.setIfInBounds_toArray, List.set_cons_zero, List.set_cons_succ, List.getElem_toArray, List.getElem_cons_zero, List.getElem_cons_succ]
            refine wpN_take (i := 1) (v := ?v2) rfl (by kernel_rfl) (fun _ _ _ h => h) hS (Or.inl ⟨by rfl, ?hy2⟩) ?hr2
            case hy2 => (intro wS hSw; (try dsimp only at hSw); go_simp; (try with_reducible rfl))
            try simp only [Act.put, List.setIfInBounds_toArray, List.set_cons_zero, List.set_cons_succ, List.getElem_toArray, List.getElem_cons_zero, List.getElem_cons_succ]
            refine wpN_take (i := 2) (v := ?v3) rfl (by kernel_rfl) (fun _ _ _ h => h) hS (Or.inl ⟨by rfl, ?hy3⟩) ?hr3
            case hy3 => (intro wS hSw; (try dsimp only at hSw); go_simp; (try with_reducible rfl))
            try simp only [Act.put, List.setIfInBounds_toArray, List.set_cons_zero, List.set_cons_succ, List.getElem_toArray, List.getElem_cons_zero, List.getElem_cons_succ]
            refine wpN_take (i := 3) (v := ?v4) rfl (by kernel_rfl) (fun _ _ _ h => h) hS (Or.inl ⟨by rfl, ?hy4⟩) ?hr4
            case hy4 => (intro wS hSw; (try dsimp only at hSw); go_simp; (try with_reducible rfl))
            try simp only [Act.put, List.setIfInBounds_toArray, List.set_cons_zero, List.set_cons_succ, List.getElem_toArray, List.getElem_cons_zero, List.getElem_cons_succ]
            refine wpN_take (i := 4) (v := ?v5) rfl (by kernel_rfl) (fun _ _ _ h => h) hS (Or.inl ⟨by rfl, ?hy5⟩) ?hr5
            case hy5 => (intro wS hSw; (try dsimp only at hSw); go_simp; (try with_reducible rfl))
            try simp only [Act.put, List.setIfInBounds_toArray, List.set_cons_zero, List.set_cons_succ, List.getElem_toArray, List.getElem_cons_zero, List.getElem_cons_succ]
            refine wpN_take (i := 5) (v := ?v6) rfl (by kernel_rfl) (fun _ _ _ h => h) hS (Or.inl ⟨by rfl, ?hy6⟩) ?hr6
            case hy6 => (intro wS hSw; (try dsimp only at hSw); go_simp; (try with_reducible rfl))
            try simp only [Act.put, List.setIfInBounds_toArray, List.set_cons_zero, List.set_cons_succ, List.getElem_toArray, List.getElem_cons_zero, List.getElem_cons_succ]
            refine wpN_take (i := 6) (v := ?v7) rfl (by kernel_rfl) (fun _ _ _ h => h) hS (Or.inl ⟨by rfl, ?hy7⟩) ?hr7
            case hy7 => (intro wS hSw; (try dsimp only at hSw); go_simp; (try with_reducible rfl))
            try simp only [Act.put, List.setIfInBounds_toArray, List.set_cons_zero, List.set_cons_succ, List.getElem_toArray, List.getElem_cons_zero, List.getElem_cons_succ]
            refine wpN_take (i := 7) (v := ?v8) rfl (by kernel_rfl) (fun _ _ _ h => h) hS (Or.inl ⟨by rfl, ?hy8⟩) ?hr8
            case hy8 => (intro wS hSw; (try dsimp only at hSw); go_simp; (try with_reducible rfl))
            try simp only [Act.put, List.setIfInBounds_toArray, List.set_cons_zero, List.set_cons_succ, List.getElem_toArray, List.getElem_cons_zero, List.getElem_cons_succ]
            refine wpN_take (i := 8) (v := ?v9) rfl (by kernel_rfl) (fun _ _ _ h => h) hS (Or.inl ⟨by rfl, ?hy9⟩) ?hr9
            case hy9 => (intro wS hSw; (try dsimp only at hSw); go_simp; (try with_reducible rfl))
            try simp only [Act.put, List.setIfInBounds_toArray, List.set_cons_zero, List.set_cons_succ, List.getElem_toArray, List.getElem_cons_zero, List.getElem_cons_succ]
            refine wpN_take (i := 9) (v := ?v10) rfl (by kernel_rfl) (fun _ _ _ h => h) hS (Or.inl ⟨by rfl, ?hy10⟩) ?hr10
            case hy10 => (intro wS hSw; (try dsimp only at hSw); go_simp; (try with_reducible rfl))
            try simp only [Act.put, List.setIfInBounds_toArray, List.set_cons_zero, List.set_cons_succ, List.getElem_toArray, List.getElem_cons_zero, List.getElem_cons_succ]
            refine wpN_step (i := 10) (by kernel_rfl) rfl (fun K hK => ?_)
            go_simp
            refine (Hih.out j hlt _ (hkp.drew)).mono ?_
            rintro e w5 ⟨b', k', i', a', rfl, hr1, hb1⟩
            have hK1 : Keep (fun q => v.ownBlock ≠ some q) wr w5 := ((Keep.refl _ _).drew).below hb1
            have hS : (w5).cell? ⟨w.heap.size, 3, none⟩ = some (.slice (some ⟨bl, off, none⟩) args.length c) ∧ (w5).cell? ⟨w.heap.size + 1 + 1, 3, none⟩ = some v ∧ (w5).cell? ⟨bl, off + j * 4, none⟩ = some (.slice (PA j) (PN j) (PC j)) ∧ (w5).cell? ⟨bl, off + j * 4 + 1, none⟩ = some (.int .i64 (Kd j)) ∧ (w5).cell? ⟨bl, off + j * 4 + 2, none⟩ = some (.int .i64 (Ix j)) ∧ (w5).cell? ⟨bl, off + j * 4 + 3, none⟩ = some (.slice (A j) (N j) (C j)) := ⟨(Blk.below (w := wr.drew) hbox hb1).cell rfl, (Blk.below (w := wr.drew) hout hb1).cell rfl, hK1 _ _ _ Hbl.out e1, hK1 _ _ _ Hbl.out e2, hK1 _ _ _ Hbl.out e3, hK1 _ _ _ Hbl.out e4⟩
            refine hK.out _ _ (fun _ => hS) ?_
            clear hK K
            try simp only [Act.put, List.setIfInBounds_toArray, List.set_cons_zero, List.set_cons_succ, List.getElem_toArray, List.getElem_cons_zero, List.getElem_cons_succ]
            refine wpN_step (i := 11) (by kernel_rfl) rfl (fun K hK => ?_)
            go_simp
            have hS : (w5.alloc (.cells #[b', k', i', a'] 29)).cell? ⟨w.heap.size, 3, none⟩ = some (.slice (some ⟨bl, off, none⟩) args.length c) ∧ (w5.alloc (.cells #[b', k', i', a'] 29)).cell? ⟨w.heap.size + 1 + 1, 3, none⟩ = some v ∧ (w5.alloc (.cells #[b', k', i', a'] 29)).cell? ⟨bl, off + j * 4, none⟩ = some (.slice (PA j) (PN j) (PC j)) ∧ (w5.alloc (.cells #[b', k', i', a'] 29)).cell? ⟨bl, off + j * 4 + 1, none⟩ = some (.int .i64 (Kd j)) ∧ (w5.alloc (.cells #[b', k', i', a'] 29)).cell? ⟨bl, off + j * 4 + 2, none⟩ = some (.int .i64 (Ix j)) ∧ (w5.alloc (.cells #[b', k', i', a'] 29)).cell? ⟨bl, off + j * 4 + 3, none⟩ = some (.slice (A j) (N j) (C j)) := ⟨((Blk.below (w := wr.drew) hbox hb1).alloc _).cell rfl, ((Blk.below (w := wr.drew) hout hb1).alloc _).cell rfl, (hK1.alloc _) _ _ _ Hbl.out e1, (hK1.alloc _) _ _ _ Hbl.out e2, (hK1.alloc _) _ _ _ Hbl.out e3, (hK1.alloc _) _ _ _ Hbl.out e4⟩
            refine hK.out _ _ (fun _ => hS) ?_
            clear hK K
            try simp only [Act.put, List.setIfInBounds_toArray, List.set_cons_zero, List.set_cons_succ, List.getElem_toArray, List.getElem_cons_zero, List.getElem_cons_succ]
            refine wpN_step (i := 12) (by kernel_rfl) rfl (fun K hK => ?_)
            refine step_push rpTm (by decide) (by rfl) _ _ _ (by rfl) (w.heap.size + 3) 29 i2 _ 64 Try.underlying27 hi2 hz0 hz1 hz2 rfl (by decide)
                   (fun q => (F q ∧ q < w.heap.size) ∨ w.heap.size + 3 ≤ q) v (Tm.mapls (grow b f) (args.take j) m) (by rfl) (((Hacc.out.drew).below hb1).alloc _) (by rw [Hl.out]; omega)
                   w5.heap.size _ [b', k', i', a'] (args[j].mapl (grow b f) m) (by rfl) (heap_alloc_new _ _) ⟨_, _, _, _, rfl, (hr1.weaken (fun q _ hq => hq.elim (fun h => ⟨.inl h, Hne.out q (by have := h.2; omega)⟩) (fun h => ⟨.inr (Nat.le_trans (show w.heap.size + 3 ≤ wr.drew.heap.size from hszp) h), fun e => by have := (Hacc.out.base_le q e).2; exact absurd this (Nat.not_lt.2 h)⟩))).keep ((Keep.refl _ _).alloc _)⟩ (by have := hb1.size; simp at this ⊢; omega) ?_
            intro gg cap w6 hacc2 hgrow hat hlt2
            have hK2 : Keep (fun q => v.ownBlock ≠ some q) wr w6 := (hK1.alloc _).grown hgrow (fun _ hr hf => hf hr)
            have o2 := hout.push hb1 hgrow (Hne.out _ (by omega))
            have o1 := hres.push hb1 hgrow (Hne.out _ (by omega))
            have o0 := hbox.push hb1 hgrow (Hne.out _ (by omega))
            have B6 := below_push hb (by omega) hb1 hgrow (fun q hq => by have := (Hacc.out.base_le q hq).1; omega)
            have hS : (w6).cell? ⟨w.heap.size, 3, none⟩ = some (.slice (some ⟨bl, off, none⟩) args.length c) ∧ (w6).cell? ⟨w.heap.size + 1 + 1, 3, none⟩ = some v ∧ (w6).cell? ⟨bl, off + j * 4, none⟩ = some (.slice (PA j) (PN j) (PC j)) ∧ (w6).cell? ⟨bl, off + j * 4 + 1, none⟩ = some (.int .i64 (Kd j)) ∧ (w6).cell? ⟨bl, off + j * 4 + 2, none⟩ = some (.int .i64 (Ix j)) ∧ (w6).cell? ⟨bl, off + j * 4 + 3, none⟩ = some (.slice (A j) (N j) (C j)) := ⟨o0.cell (i := 3) rfl, o2.cell (i := 3) rfl, hK2 _ _ _ Hbl.out e1, hK2 _ _ _ Hbl.out e2, hK2 _ _ _ Hbl.out e3, hK2 _ _ _ Hbl.out e4⟩
            have p2 := o2.free 3
            have Hacc2 := Lib.hid hacc2; clear hacc2
            refine hK.out _ _ (fun _ => hS) ?_
            clear hK K
            try simp only [Act.put, List.setIfInBounds_toArray, List.set_cons_zero, List.set_cons_succ, List.getElem_toArray, List.getElem_cons_zero, List.getElem_cons_succ]
            refine wpN_take (i := 13) (v := ?v11) rfl (by kernel_rfl) (fun _ _ _ h => h) hS (Or.inl ⟨by rfl, ?hy11⟩) ?hr11
            case hy11 => (intro wS hSw; (try dsimp only at hSw); go_simp; (try with_reducible rfl))
            try simp only [Act.put, List.setIfInBounds_toArray, List.set_cons_zero, List.set_cons_succ, List.getElem_toArray, List.getElem_cons_zero, List.getElem_cons_succ]
            refine wpN_step (i := 14) (by kernel_rfl) rfl (fun K hK => ?_)
            go_simp
            refine hK.out _ _ (fun h => absurd h (by decide)) ?_
            clear hK K
            try simp only [Act.put, List.setIfInBounds_toArray, List.set_cons_zero, List.set_cons_succ, List.getElem_toArray, List.getElem_cons_zero, List.getElem_cons_succ]
            refine wpN_done (by kernel_rfl) ?_
            refine NoPanic.normal ?_
            go_wp2_with fail
            refine ⟨⟨j + 1, _, by go_num, by omega, B6.setCell (by simp <;> omega) _, o0.far _ _ (by simp <;> omega), o1.far _ _ (by simp <;> omega), o2.set 3 _, ?_⟩, by simp [intOf]; omega⟩
            have h := Hacc2.out
            rw [Htk.out]
            exact h.setCell ⟨w.heap.size + 1 + 1, 3, none⟩ _ (by simp <;> omega) (by simp <;> omega)
          · obtain ⟨va, vc, hv⟩ := Hacc.out.len_shape
            rw [Tm.mapls_len, List.length_take, Nat.min_eq_left hj] at hv
            subst hv
            have d1 : wr.cell? ⟨w.heap.size + 1 + 1, 0, none⟩ = some (.slice pa binds.length pc) := hout.cell rfl
            have d2 : wr.cell? ⟨w.heap.size + 1 + 1, 1, none⟩ = some (.int .i64 0) := hout.cell rfl
            have d3 : wr.cell? ⟨w.heap.size + 1 + 1, 2, none⟩ = some (.int .i64 (i + b)) := hout.cell rfl
            have r0 : wr.cell? ⟨w.heap.size + 1, 0, none⟩ = some (.slice none 0 0) := hres.cell rfl
            have r1 : wr.cell? ⟨w.heap.size + 1, 1, none⟩ = some (.int .i64 0) := hres.cell rfl
            have r2 : wr.cell? ⟨w.heap.size + 1, 2, none⟩ = some (.int .i64 0) := hres.cell rfl
            have r3 : wr.cell? ⟨w.heap.size + 1, 3, none⟩ = some (.slice none 0 0) := hres.cell rfl
            have f0 := hres.free 0
            have f1 := hres.free 1
            have f2 := hres.free 2
            have f3 := hres.free 3
            go_wp2_with fail
            refine bodyPost_ret (v := .agg #[.slice pa binds.length pc, .int .i64 0, .int .i64 (i + b), .slice va j vc]) (by simp [results, Try.results120, go_sem, r0, r1, r2, r3]) rfl ?_
            have h := Hacc.out
            rw [List.take_of_length_le (by omega)] at h
            have hA := (((h.setCell ⟨w.heap.size + 1, 0, none⟩ (.slice pa binds.length pc) (by simp <;> omega) (by simp <;> omega)).setCell ⟨w.heap.size + 1, 1, none⟩ (.int .i64 0) (by simp <;> omega) (by simp <;> omega)).setCell ⟨w.heap.size + 1, 2, none⟩ (.int .i64 (i + b)) (by simp <;> omega) (by simp <;> omega)).setCell ⟨w.heap.size + 1, 3, none⟩ (.slice va j vc) (by simp <;> omega) (by simp <;> omega)
            have KR := ((((((Keep.refl (fun q => F q ∧ q < w.heap.size) w).below hb).setCell ⟨w.heap.size + 1, 0, none⟩ (.slice pa binds.length pc) (by simp <;> omega)).setCell ⟨w.heap.size + 1, 1, none⟩ (.int .i64 0) (by simp <;> omega)).setCell ⟨w.heap.size + 1, 2, none⟩ (.int .i64 (i + b)) (by simp <;> omega)).setCell ⟨w.heap.size + 1, 3, none⟩ (.slice va j vc) (by simp <;> omega))
            rw [HX.out]
            exact ⟨_, _, _, _, rfl, isTm_mk ((Hb.out.keep KR).weaken (by decide) fun q _ h => .inl h.1) (hA.sl (F' := fun q => F q ∨ w.heap.size ≤ q) (fun q _ hq => hq.elim (fun h => .inl h.1) (fun h => .inr (by omega))) (fun q hq => .inr (by omega))) 0 (i + b), (((hb.setCell (by simp <;> omega) _).setCell (by simp <;> omega) _).setCell (by simp <;> omega) _).setCell (by simp <;> omega) _⟩
      · skip
        have HX : Hid (X = Tm.mk binds 0 i (Tm.mapls (grow b f) args m)) := by show _ = _; rw [← hX, Tm.mapl_eq _ binds 0 i args n m hmm]; rw [if_pos ⟨rfl, hge⟩, grow, if_pos (by omega), show m + (i - m) = i by omega]
        clear hX
        go_enter Try.func120, Try.ntmps120
        go_wp2_with fail
        obtain ⟨w4, hw4⟩ : ∃ w4, ((w.alloc (.cells #[.slice pa binds.length pc, .int .i64 0, .int .i64 i, .slice a args.length c] 29)).alloc (.cells #[.slice none 0 0, .int .i64 0, .int .i64 0, .slice none 0 0] 29)).alloc (.cells #[.slice pa binds.length pc, .int .i64 0, .int .i64 i, .slice none 0 0] 29) = w4 := ⟨_, rfl⟩
        have B4 : Below w.heap.size w w4 := by rw [← hw4]; exact (((Below.refl _ _).alloc (Nat.le_refl _) _).alloc (by simp) _).alloc (by simp; omega) _
        have x1 : Blk w4 w.heap.size #[.slice pa binds.length pc, .int .i64 0, .int .i64 i, .slice a args.length c] 29 := by rw [← hw4]; exact ((Blk.new _ _ _ rfl).alloc _).alloc _
        have x2 : Blk w4 (w.heap.size + 1) #[.slice none 0 0, .int .i64 0, .int .i64 0, .slice none 0 0] 29 := by rw [← hw4]; exact (Blk.new _ _ _ (by simp)).alloc _
        have x3 : Blk w4 (w.heap.size + 1 + 1) #[.slice pa binds.length pc, .int .i64 0, .int .i64 i, .slice none 0 0] 29 := by rw [← hw4]; exact Blk.new _ _ _ (by simp)
        try rw [hw4]
        clear hw4
        go_loopw [11] (fun ii wr => ∃ (j : Nat) (v : Value), ii = .int .i64 j ∧ j ≤ args.length ∧
            Below w.heap.size w wr ∧ Blk wr w.heap.size #[.slice pa binds.length pc, .int .i64 0, .int .i64 i, .slice a args.length c] 29 ∧ Blk wr (w.heap.size + 1) #[.slice none 0 0, .int .i64 0, .int .i64 0, .slice none 0 0] 29 ∧ Blk wr (w.heap.size + 1 + 1) #[.slice pa binds.length pc, .int .i64 0, .int .i64 i, v] 29 ∧
            Acc rpTm 29 (w.heap.size + 3) (fun q => (F q ∧ q < w.heap.size) ∨ w.heap.size + 3 ≤ q) wr v (Tm.mapls (grow b f) (args.take j) m)) (fun ii _ => args.length - (intOf ii).toNat)
        case atStart => exact ⟨0, _, rfl, by omega, B4, x1, x2, x3, Acc.nil _ _ _ _ _⟩
        case round =>
          clear B4 x1 x2 x3
          obtain ⟨j, v, rfl, hj, hb, hbox, hres, hout, hacc⟩ := hrel
          have c0 : wr.cell? ⟨w.heap.size, 3, none⟩ = some (.slice a args.length c) := hbox.cell rfl
          have d0 : wr.cell? ⟨w.heap.size + 1 + 1, 3, none⟩ = some v := hout.cell rfl
          have hszp := hout.lt
          have Hacc := Lib.hid hacc; clear hacc
          by_cases hlt : j < args.length
          · obtain ⟨rfl, hF⟩ := ha (by omega)
            clear ha
            have hkp : Keep (fun q => F q ∧ q < w.heap.size) w wr := (Keep.refl _ _).below hb
            have e1 := hkp _ _ _ hF (h1 j hlt)
            have e2 := hkp _ _ _ hF (h2 j hlt)
            have e3 := hkp _ _ _ hF (h3 j hlt)
            have e4 := hkp _ _ _ hF (h4 j hlt)
            have hlt0 : (0 : Int) ≤ (j : Int) := Int.natCast_nonneg _
            have hlt1 : (j : Int) < (args.length : Int) := by omega
            have Hbl : Hid (v.ownBlock ≠ some bl) := fun e => by have := (Hacc.out.base_le bl e).1; have := hF.2; omega
            have Hl : Hid ((Tm.mapls (grow b f) (args.take j) m).length = j) := by show _ = _; rw [Tm.mapls_len, List.length_take]; omega
            have Hne : Hid (∀ q, q < w.heap.size + 3 → v.ownBlock ≠ some q) := fun q hq e => by have := (Hacc.out.base_le q e).1; omega
            have Htk := Lib.hid (Tm.mapls_take (grow b f) args m j hlt)
            go_wp2_with fail
            refine wp_region_noPanic (wp_region_need (S := fun w' => w'.cell? ⟨w.heap.size, 3, none⟩ = some (.slice (some ⟨bl, off, none⟩) args.length c) ∧ w'.cell? ⟨w.heap.size + 1 + 1, 3, none⟩ = some v ∧ w'.cell? ⟨bl, off + j * 4, none⟩ = some (.slice (PA j) (PN j) (PC j)) ∧ w'.cell? ⟨bl, off + j * 4 + 1, none⟩ = some (.int .i64 (Kd j)) ∧ w'.cell? ⟨bl, off + j * 4 + 2, none⟩ = some (.int .i64 (Ix j)) ∧ w'.cell? ⟨bl, off + j * 4 + 3, none⟩ = some (.slice (A j) (N j) (C j))) (by kernel_rfl) ?_)
            have hS : (wr.drew).cell? ⟨w.heap.size, 3, none⟩ = some (.slice (some ⟨bl, off, none⟩) args.length c) ∧ (wr.drew).cell? ⟨w.heap.size + 1 + 1, 3, none⟩ = some v ∧ (wr.drew).cell? ⟨bl, off + j * 4, none⟩ = some (.slice (PA j) (PN j) (PC j)) ∧ (wr.drew).cell? ⟨bl, off + j * 4 + 1, none⟩ = some (.int .i64 (Kd j)) ∧ (wr.drew).cell? ⟨bl, off + j * 4 + 2, none⟩ = some (.int .i64 (Ix j)) ∧ (wr.drew).cell? ⟨bl, off + j * 4 + 3, none⟩ = some (.slice (A j) (N j) (C j)) := ⟨c0, d0, e1, e2, e3, e4⟩
            refine wpN_take (i := 0) (v := ?v12) rfl (by kernel_rfl) (fun _ _ _ h => h) hS (Or.inl ⟨by rfl, ?hy12⟩) ?hr12
            case hy12 => (intro wS hSw; (try dsimp only at hSw); go_simp; (try with_reducible rfl))
            try simp only [Act.put, List.setIfInBounds_toArray, List.set_cons_zero, List.set_cons_succ, List.getElem_toArray, List.getElem_cons_zero, List.getElem_cons_succ]
            refine wpN_take (i := 1) (v := ?v13) rfl (by kernel_rfl) (fun _ _ _ h => h) hS (Or.inl ⟨by rfl, ?hy13⟩) ?hr13
            case hy13 => (intro wS hSw; (try dsimp only at hSw); go_simp; (try with_reducible rfl))
            try simp only [Act.put, List.setIfInBounds_toArray, List.set_cons_zero, List.set_cons_succ, List.getElem_toArray, List.getElem_cons_zero, List.getElem_cons_succ]
            refine wpN_take (i := 2) (v := ?v14) rfl (by kernel_rfl) (fun _ _ _ h => h) hS (Or.inl ⟨by rfl, ?hy14⟩) ?hr14
            case hy14 => (intro wS hSw; (try dsimp only at hSw); go_simp; (try with_reducible rfl))
            try simp only [Act.put, List.setIfInBounds_toArray, List.set_cons_zero, List.set_cons_succ, List.getElem_toArray, List.getElem_cons_zero, List.getElem_cons_succ]
            refine wpN_take (i := 3) (v := ?v15) rfl (by kernel_rfl) (fun _ _ _ h => h) hS (Or.inl ⟨by rfl, ?hy15⟩) ?hr15
            case hy15 => (intro wS hSw; (try dsimp only at hSw); go_simp; (try with_reducible rfl))
            try simp only [Act.put, List.setIfInBounds_toArray, List.set_cons_zero, List.set_cons_succ, List.getElem_toArray, List.getElem_cons_zero, List.getElem_cons_succ]
            refine wpN_take (i := 4) (v := ?v16) rfl (by kernel_rfl) (fun _ _ _ h => h) hS (Or.inl ⟨by rfl, ?hy16⟩) ?hr16
            case hy16 => (intro wS hSw; (try dsimp only at hSw); go_simp; (try with_reducible rfl))
            try simp only [Act.put, List.setIfInBounds_toArray, List.set_cons_zero, List.set_cons_succ, List.getElem_toArray, List.getElem_cons_zero, List.getElem_cons_succ]
            refine wpN_take (i := 5) (v := ?v17) rfl (by kernel_rfl) (fun _ _ _ h => h) hS (Or.inl ⟨by rfl, ?hy17⟩) ?hr17
            case hy17 => (intro wS hSw; (try dsimp only at hSw); go_simp; (try with_reducible rfl))
            try simp only [Act.put, List.setIfInBounds_toArray, List.set_cons_zero, List.set_cons_succ, List.getElem_toArray, List.getElem_cons_zero, List.getElem_cons_succ]
            refine wpN_take (i := 6) (v := ?v18) rfl (by kernel_rfl) (fun _ _ _ h => h) hS (Or.inl ⟨by rfl, ?hy18⟩) ?hr18
            case hy18 => (intro wS hSw; (try dsimp only at hSw); go_simp; (try with_reducible rfl))
            try simp only [Act.put, List.setIfInBounds_toArray, List.set_cons_zero, List.set_cons_succ, List.getElem_toArray, List.getElem_cons_zero, List.getElem_cons_succ]
            refine wpN_take (i := 7) (v := ?v19) rfl (by kernel_rfl) (fun _ _ _ h => h) hS (Or.inl ⟨by rfl, ?hy19⟩) ?hr19
            case hy19 => (intro wS hSw; (try dsimp only at hSw); go_simp; (try with_reducible rfl))
            try simp only [Act.put, List.setIfInBounds_toArray, List.set_cons_zero, List.set_cons_succ, List.getElem_toArray, List.getElem_cons_zero, List.getElem_cons_succ]
            refine wpN_take (i := 8) (v := ?v20) rfl (by kernel_rfl) (fun _ _ _ h => h) hS (Or.inl ⟨by rfl, ?hy20⟩) ?hr20
            case hy20 => (intro wS hSw; (try dsimp only at hSw); go_simp; (try with_reducible rfl))
            try simp only [Act.put, List.setIfInBounds_toArray, List.set_cons_zero, List.set_cons_succ, List.getElem_toArray, List.getElem_cons_zero, List.getElem_cons_succ]
            refine wpN_take (i := 9) (v := ?v21) rfl (by kernel_rfl) (fun _ _ _ h => h) hS (Or.inl ⟨by rfl, ?hy21⟩) ?hr21
            case hy21 => (intro wS hSw; (try dsimp only at hSw); go_simp; (try with_reducible rfl))
            try simp only [Act.put, List.setIfInBounds_toArray, List.set_cons_zero, List.set_cons_succ, List.getElem_toArray, List.getElem_cons_zero, List.getElem_cons_succ]
            refine wpN_step (i := 10) (by kernel_rfl) rfl (fun K hK => ?_)
            go_simp
            refine (Hih.out j hlt _ (hkp.drew)).mono ?_
            rintro e w5 ⟨b', k', i', a', rfl, hr1, hb1⟩
            have hK1 : Keep (fun q => v.ownBlock ≠ some q) wr w5 := ((Keep.refl _ _).drew).below hb1
            have hS : (w5).cell? ⟨w.heap.size, 3, none⟩ = some (.slice (some ⟨bl, off, none⟩) args.length c) ∧ (w5).cell? ⟨w.heap.size + 1 + 1, 3, none⟩ = some v ∧ (w5).cell? ⟨bl, off + j * 4, none⟩ = some (.slice (PA j) (PN j) (PC j)) ∧ (w5).cell? ⟨bl, off + j * 4 + 1, none⟩ = some (.int .i64 (Kd j)) ∧ (w5).cell? ⟨bl, off + j * 4 + 2, none⟩ = some (.int .i64 (Ix j)) ∧ (w5).cell? ⟨bl, off + j * 4 + 3, none⟩ = some (.slice (A j) (N j) (C j)) := ⟨(Blk.below (w := wr.drew) hbox hb1).cell rfl, (Blk.below (w := wr.drew) hout hb1).cell rfl, hK1 _ _ _ Hbl.out e1, hK1 _ _ _ Hbl.out e2, hK1 _ _ _ Hbl.out e3, hK1 _ _ _ Hbl.out e4⟩
            refine hK.out _ _ (fun _ => hS) ?_
            clear hK K
            try simp only [Act.put, List.setIfInBounds_toArray, List.set_cons_zero, List.set_cons_succ, List.getElem_toArray, List.getElem_cons_zero, List.getElem_cons_succ]
            refine wpN_step (i := 11) (by kernel_rfl) rfl (fun K hK => ?_)
            go_simp
            have hS : (w5.alloc (.cells #[b', k', i', a'] 29)).cell? ⟨w.heap.size, 3, none⟩ = some (.slice (some ⟨bl, off, none⟩) args.length c) ∧ (w5.alloc (.cells #[b', k', i', a'] 29)).cell? ⟨w.heap.size + 1 + 1, 3, none⟩ = some v ∧ (w5.alloc (.cells #[b', k', i', a'] 29)).cell? ⟨bl, off + j * 4, none⟩ = some (.slice (PA j) (PN j) (PC j)) ∧ (w5.alloc (.cells #[b', k', i', a'] 29)).cell? ⟨bl, off + j * 4 + 1, none⟩ = some (.int .i64 (Kd j)) ∧ (w5.alloc (.cells #[b', k', i', a'] 29)).cell? ⟨bl, off + j * 4 + 2, none⟩ = some (.int .i64 (Ix j)) ∧ (w5.alloc (.cells #[b', k', i', a'] 29)).cell? ⟨bl, off + j * 4 + 3, none⟩ = some (.slice (A j) (N j) (C j)) := ⟨((Blk.below (w := wr.drew) hbox hb1).alloc _).cell rfl, ((Blk.below (w := wr.drew) hout hb1).alloc _).cell rfl, (hK1.alloc _) _ _ _ Hbl.out e1, (hK1.alloc _) _ _ _ Hbl.out e2, (hK1.alloc _) _ _ _ Hbl.out e3, (hK1.alloc _) _ _ _ Hbl.out e4⟩
            refine hK.out _ _ (fun _ => hS) ?_
            clear hK K
            try simp only [Act.put, List.setIfInBounds_toArray, List.set_cons_zero, List.set_cons_succ, List.getElem_toArray, List.getElem_cons_zero, List.getElem_cons_succ]
            refine wpN_step (i := 12) (by kernel_rfl) rfl (fun K hK => ?_)
            refine step_push rpTm (by decide) (by rfl) _ _ _ (by rfl) (w.heap.size + 3) 29 i2 _ 64 Try.underlying27 hi2 hz0 hz1 hz2 rfl (by decide)
                   (fun q => (F q ∧ q < w.heap.size) ∨ w.heap.size + 3 ≤ q) v (Tm.mapls (grow b f) (args.take j) m) (by rfl) (((Hacc.out.drew).below hb1).alloc _) (by rw [Hl.out]; omega)
                   w5.heap.size _ [b', k', i', a'] (args[j].mapl (grow b f) m) (by rfl) (heap_alloc_new _ _) ⟨_, _, _, _, rfl, (hr1.weaken (fun q _ hq => hq.elim (fun h => ⟨.inl h, Hne.out q (by have := h.2; omega)⟩) (fun h => ⟨.inr (Nat.le_trans (show w.heap.size + 3 ≤ wr.drew.heap.size from hszp) h), fun e => by have := (Hacc.out.base_le q e).2; exact absurd this (Nat.not_lt.2 h)⟩))).keep ((Keep.refl _ _).alloc _)⟩ (by have := hb1.size; simp at this ⊢; omega) ?_
            intro gg cap w6 hacc2 hgrow hat hlt2
            have hK2 : Keep (fun q => v.ownBlock ≠ some q) wr w6 := (hK1.alloc _).grown hgrow (fun _ hr hf => hf hr)
            have o2 := hout.push hb1 hgrow (Hne.out _ (by omega))
            have o1 := hres.push hb1 hgrow (Hne.out _ (by omega))
            have o0 := hbox.push hb1 hgrow (Hne.out _ (by omega))
            have B6 := below_push hb (by omega) hb1 hgrow (fun q hq => by have := (Hacc.out.base_le q hq).1; omega)
            have hS : (w6).cell? ⟨w.heap.size, 3, none⟩ = some (.slice (some ⟨bl, off, none⟩) args.length c) ∧ (w6).cell? ⟨w.heap.size + 1 + 1, 3, none⟩ = some v ∧ (w6).cell? ⟨bl, off + j * 4, none⟩ = some (.slice (PA j) (PN j) (PC j)) ∧ (w6).cell? ⟨bl, off + j * 4 + 1, none⟩ = some (.int .i64 (Kd j)) ∧ (w6).cell? ⟨bl, off + j * 4 + 2, none⟩ = some (.int .i64 (Ix j)) ∧ (w6).cell? ⟨bl, off + j * 4 + 3, none⟩ = some (.slice (A j) (N j) (C j)) := ⟨o0.cell (i := 3) rfl, o2.cell (i := 3) rfl, hK2 _ _ _ Hbl.out e1, hK2 _ _ _ Hbl.out e2, hK2 _ _ _ Hbl.out e3, hK2 _ _ _ Hbl.out e4⟩
            have p2 := o2.free 3
            have Hacc2 := Lib.hid hacc2; clear hacc2
            refine hK.out _ _ (fun _ => hS) ?_
            clear hK K
            try simp only [Act.put, List.setIfInBounds_toArray, List.set_cons_zero, List.set_cons_succ, List.getElem_toArray, List.getElem_cons_zero, List.getElem_cons_succ]
            refine wpN_take (i := 13) (v := ?v22) rfl (by kernel_rfl) (fun _ _ _ h => h) hS (Or.inl ⟨by rfl, ?hy22⟩) ?hr22
            case hy22 => (intro wS hSw; (try dsimp only at hSw); go_simp; (try with_reducible rfl))
            try simp only [Act.put, List.setIfInBounds_toArray, List.set_cons_zero, List.set_cons_succ, List.getElem_toArray, List.getElem_cons_zero, List.getElem_cons_succ]
            refine wpN_step (i := 14) (by kernel_rfl) rfl (fun K hK => ?_)
            go_simp
            refine hK.out _ _ (fun h => absurd h (by decide)) ?_
            clear hK K
            try simp only [Act.put, List.setIfInBounds_toArray, List.set_cons_zero, List.set_cons_succ, List.getElem_toArray, List.getElem_cons_zero, List.getElem_cons_succ]
            refine wpN_done (by kernel_rfl) ?_
            refine NoPanic.normal ?_
            go_wp2_with fail
            refine ⟨⟨j + 1, _, by go_num, by omega, B6.setCell (by simp <;> omega) _, o0.far _ _ (by simp <;> omega), o1.far _ _ (by simp <;> omega), o2.set 3 _, ?_⟩, by simp [intOf]; omega⟩
            have h := Hacc2.out
            rw [Htk.out]
            exact h.setCell ⟨w.heap.size + 1 + 1, 3, none⟩ _ (by simp <;> omega) (by simp <;> omega)
          · obtain ⟨va, vc, hv⟩ := Hacc.out.len_shape
            rw [Tm.mapls_len, List.length_take, Nat.min_eq_left hj] at hv
            subst hv
            have d1 : wr.cell? ⟨w.heap.size + 1 + 1, 0, none⟩ = some (.slice pa binds.length pc) := hout.cell rfl
            have d2 : wr.cell? ⟨w.heap.size + 1 + 1, 1, none⟩ = some (.int .i64 0) := hout.cell rfl
            have d3 : wr.cell? ⟨w.heap.size + 1 + 1, 2, none⟩ = some (.int .i64 i) := hout.cell rfl
            have r0 : wr.cell? ⟨w.heap.size + 1, 0, none⟩ = some (.slice none 0 0) := hres.cell rfl
            have r1 : wr.cell? ⟨w.heap.size + 1, 1, none⟩ = some (.int .i64 0) := hres.cell rfl
            have r2 : wr.cell? ⟨w.heap.size + 1, 2, none⟩ = some (.int .i64 0) := hres.cell rfl
            have r3 : wr.cell? ⟨w.heap.size + 1, 3, none⟩ = some (.slice none 0 0) := hres.cell rfl
            have f0 := hres.free 0
            have f1 := hres.free 1
            have f2 := hres.free 2
            have f3 := hres.free 3
            go_wp2_with fail
            refine bodyPost_ret (v := .agg #[.slice pa binds.length pc, .int .i64 0, .int .i64 i, .slice va j vc]) (by simp [results, Try.results120, go_sem, r0, r1, r2, r3]) rfl ?_
            have h := Hacc.out
            rw [List.take_of_length_le (by omega)] at h
            have hA := (((h.setCell ⟨w.heap.size + 1, 0, none⟩ (.slice pa binds.length pc) (by simp <;> omega) (by simp <;> omega)).setCell ⟨w.heap.size + 1, 1, none⟩ (.int .i64 0) (by simp <;> omega) (by simp <;> omega)).setCell ⟨w.heap.size + 1, 2, none⟩ (.int .i64 i) (by simp <;> omega) (by simp <;> omega)).setCell ⟨w.heap.size + 1, 3, none⟩ (.slice va j vc) (by simp <;> omega) (by simp <;> omega)
            have KR := ((((((Keep.refl (fun q => F q ∧ q < w.heap.size) w).below hb).setCell ⟨w.heap.size + 1, 0, none⟩ (.slice pa binds.length pc) (by simp <;> omega)).setCell ⟨w.heap.size + 1, 1, none⟩ (.int .i64 0) (by simp <;> omega)).setCell ⟨w.heap.size + 1, 2, none⟩ (.int .i64 i) (by simp <;> omega)).setCell ⟨w.heap.size + 1, 3, none⟩ (.slice va j vc) (by simp <;> omega))
            rw [HX.out]
            exact ⟨_, _, _, _, rfl, isTm_mk ((Hb.out.keep KR).weaken (by decide) fun q _ h => .inl h.1) (hA.sl (F' := fun q => F q ∨ w.heap.size ≤ q) (fun q _ hq => hq.elim (fun h => .inl h.1) (fun h => .inr (by omega))) (fun q hq => .inr (by omega))) 0 i, (((hb.setCell (by simp <;> omega) _).setCell (by simp <;> omega) _).setCell (by simp <;> omega) _).setCell (by simp <;> omega) _⟩
    · obtain ⟨wv, hwv⟩ : ∃ wv, IntKind.i64.wrap (i - m) = wv := ⟨_, rfl⟩
      by_cases hgf : wv ≥ f
      · skip
        have HX : Hid (X = Tm.mk binds 0 i (Tm.mapls (grow b f) args m)) := by show _ = _; rw [← hX, Tm.mapl_eq _ binds 0 i args n m hmm]; rw [if_neg (fun h => hge h.2)]
        clear hX
        go_enter Try.func120, Try.ntmps120
        go_wp2_with fail
        obtain ⟨w4, hw4⟩ : ∃ w4, ((w.alloc (.cells #[.slice pa binds.length pc, .int .i64 0, .int .i64 i, .slice a args.length c] 29)).alloc (.cells #[.slice none 0 0, .int .i64 0, .int .i64 0, .slice none 0 0] 29)).alloc (.cells #[.slice pa binds.length pc, .int .i64 0, .int .i64 i, .slice none 0 0] 29) = w4 := ⟨_, rfl⟩
        have B4 : Below w.heap.size w w4 := by rw [← hw4]; exact (((Below.refl _ _).alloc (Nat.le_refl _) _).alloc (by simp) _).alloc (by simp; omega) _
        have x1 : Blk w4 w.heap.size #[.slice pa binds.length pc, .int .i64 0, .int .i64 i, .slice a args.length c] 29 := by rw [← hw4]; exact ((Blk.new _ _ _ rfl).alloc _).alloc _
        have x2 : Blk w4 (w.heap.size + 1) #[.slice none 0 0, .int .i64 0, .int .i64 0, .slice none 0 0] 29 := by rw [← hw4]; exact (Blk.new _ _ _ (by simp)).alloc _
        have x3 : Blk w4 (w.heap.size + 1 + 1) #[.slice pa binds.length pc, .int .i64 0, .int .i64 i, .slice none 0 0] 29 := by rw [← hw4]; exact Blk.new _ _ _ (by simp)
        try rw [hw4]
        clear hw4
        go_loopw [11] (fun ii wr => ∃ (j : Nat) (v : Value), ii = .int .i64 j ∧ j ≤ args.length ∧
            Below w.heap.size w wr ∧ Blk wr w.heap.size #[.slice pa binds.length pc, .int .i64 0, .int .i64 i, .slice a args.length c] 29 ∧ Blk wr (w.heap.size + 1) #[.slice none 0 0, .int .i64 0, .int .i64 0, .slice none 0 0] 29 ∧ Blk wr (w.heap.size + 1 + 1) #[.slice pa binds.length pc, .int .i64 0, .int .i64 i, v] 29 ∧
            Acc rpTm 29 (w.heap.size + 3) (fun q => (F q ∧ q < w.heap.size) ∨ w.heap.size + 3 ≤ q) wr v (Tm.mapls (grow b f) (args.take j) m)) (fun ii _ => args.length - (intOf ii).toNat)
        case atStart => exact ⟨0, _, rfl, by omega, B4, x1, x2, x3, Acc.nil _ _ _ _ _⟩
        case round =>
          clear B4 x1 x2 x3
          obtain ⟨j, v, rfl, hj, hb, hbox, hres, hout, hacc⟩ := hrel
          have c0 : wr.cell? ⟨w.heap.size, 3, none⟩ = some (.slice a args.length c) := hbox.cell rfl
          have d0 : wr.cell? ⟨w.heap.size + 1 + 1, 3, none⟩ = some v := hout.cell rfl
          have hszp := hout.lt
          have Hacc := Lib.hid hacc; clear hacc
          by_cases hlt : j < args.length
          · obtain ⟨rfl, hF⟩ := ha (by omega)
            clear ha
            have hkp : Keep (fun q => F q ∧ q < w.heap.size) w wr := (Keep.refl _ _).below hb
            have e1 := hkp _ _ _ hF (h1 j hlt)
            have e2 := hkp _ _ _ hF (h2 j hlt)
            have e3 := hkp _ _ _ hF (h3 j hlt)
            have e4 := hkp _ _ _ hF (h4 j hlt)
            have hlt0 : (0 : Int) ≤ (j : Int) := Int.natCast_nonneg _
            have hlt1 : (j : Int) < (args.length : Int) := by omega
            have Hbl : Hid (v.ownBlock ≠ some bl) := fun e => by have := (Hacc.out.base_le bl e).1; have := hF.2; omega
            have Hl : Hid ((Tm.mapls (grow b f) (args.take j) m).length = j) := by show _ = _; rw [Tm.mapls_len, List.length_take]; omega
            have Hne : Hid (∀ q, q < w.heap.size + 3 → v.ownBlock ≠ some q) := fun q hq e => by have := (Hacc.out.base_le q e).1; omega
            have Htk := Lib.hid (Tm.mapls_take (grow b f) args m j hlt)
            go_wp2_with fail
            refine wp_region_noPanic (wp_region_need (S := fun w' => w'.cell? ⟨w.heap.size, 3, none⟩ = some (.slice (some ⟨bl, off, none⟩) args.length c) ∧ w'.cell? ⟨w.heap.size + 1 + 1, 3, none⟩ = some v ∧ w'.cell? ⟨bl, off + j * 4, none⟩ = some (.slice (PA j) (PN j) (PC j)) ∧ w'.cell? ⟨bl, off + j * 4 + 1, none⟩ = some (.int .i64 (Kd j)) ∧ w'.cell? ⟨bl, off + j * 4 + 2, none⟩ = some (.int .i64 (Ix j)) ∧ w'.cell? ⟨bl, off + j * 4 + 3, none⟩ = some (.slice (A j) (N j) (C j))) (by kernel_rfl) ?_)
            have hS : (wr.drew).cell? ⟨w.heap.size, 3, none⟩ = some (.slice (some ⟨bl, off, none⟩) args.length c) ∧ (wr.drew).cell? ⟨w.heap.size + 1 + 1, 3, none⟩ = some v ∧ (wr.drew).cell? ⟨bl, off + j * 4, none⟩ = some (.slice (PA j) (PN j) (PC j)) ∧ (wr.drew).cell? ⟨bl, off + j * 4 + 1, none⟩ = some (.int .i64 (Kd j)) ∧ (wr.drew).cell? ⟨bl, off + j * 4 + 2, none⟩ = some (.int .i64 (Ix j)) ∧ (wr.drew).cell? ⟨bl, off + j * 4 + 3, none⟩ = some (.slice (A j) (N j) (C j)) := ⟨c0, d0, e1, e2, e3, e4⟩
            refine wpN_take (i := 0) (v := ?v23) rfl (by kernel_rfl) (fun _ _ _ h => h) hS (Or.inl ⟨by rfl, ?hy23⟩) ?hr23
            case hy23 => (intro wS hSw; (try dsimp only at hSw); go_simp; (try with_reducible rfl))
            try simp only [Act.put, List.setIfInBounds_toArray, List.set_cons_zero, List.set_cons_succ, List.getElem_toArray, List.getElem_cons_zero, List.getElem_cons_succ]
            refine wpN_take (i := 1) (v := ?v24) rfl (by kernel_rfl) (fun _ _ _ h => h) hS (Or.inl ⟨by rfl, ?hy24⟩) ?hr24
            case hy24 => (intro wS hSw; (try dsimp only at hSw); go_simp; (try with_reducible rfl))
            try simp only [Act.put, List.setIfInBounds_toArray, List.set_cons_zero, List.set_cons_succ, List.getElem_toArray, List.getElem_cons_zero, List.getElem_cons_succ]
            refine wpN_take (i := 2) (v := ?v25) rfl (by kernel_rfl) (fun _ _ _ h => h) hS (Or.inl ⟨by rfl, ?hy25⟩) ?hr25
            case hy25 => (intro wS hSw; (try dsimp only at hSw); go_simp; (try with_reducible rfl))
            try simp only [Act.put, List.setIfInBounds_toArray, List.set_cons_zero, List.set_cons_succ, List.getElem_toArray, List.getElem_cons_zero, List.getElem_cons_succ]
            refine wpN_take (i := 3) (v := ?v26) rfl (by kernel_rfl) (fun _ _ _ h => h) hS (Or.inl ⟨by rfl, ?hy26⟩) ?hr26
            case hy26 => (intro wS hSw; (try dsimp only at hSw); go_simp; (try with_reducible rfl))
            try simp only [Act.put, List.setIfInBounds_toArray, List.set_cons_zero, List.set_cons_succ, List.getElem_toArray, List.getElem_cons_zero, List.getElem_cons_succ]
            refine wpN_take (i := 4) (v := ?v27) rfl (by kernel_rfl) (fun _ _ _ h => h) hS (Or.inl ⟨by rfl, ?hy27⟩) ?hr27
            case hy27 => (intro wS hSw; (try dsimp only at hSw); go_simp; (try with_reducible rfl))
            try simp only [Act.put, List.setIfInBounds_toArray, List.set_cons_zero, List.set_cons_succ, List.getElem_toArray, List.getElem_cons_zero, List.getElem_cons_succ]
            refine wpN_take (i := 5) (v := ?v28) rfl (by kernel_rfl) (fun _ _ _ h => h) hS (Or.inl ⟨by rfl, ?hy28⟩) ?hr28
            case hy28 => (intro wS hSw; (try dsimp only at hSw); go_simp; (try with_reducible rfl))
            try simp only [Act.put, List.setIfInBounds_toArray, List.set_cons_zero, List.set_cons_succ, List.getElem_toArray, List.getElem_cons_zero, List.getElem_cons_succ]
            refine wpN_take (i := 6) (v := ?v29) rfl (by kernel_rfl) (fun _ _ _ h => h) hS (Or.inl ⟨by rfl, ?hy29⟩) ?hr29
            case hy29 => (intro wS hSw; (try dsimp only at hSw); go_simp; (try with_reducible rfl))
            try simp only [Act.put, List.setIfInBounds_toArray, List.set_cons_zero, List.set_cons_succ, List.getElem_toArray, List.getElem_cons_zero, List.getElem_cons_succ]
            refine wpN_take (i := 7) (v := ?v30) rfl (by kernel_rfl) (fun _ _ _ h => h) hS (Or.inl ⟨by rfl, ?hy30⟩) ?hr30
            case hy30 => (intro wS hSw; (try dsimp only at hSw); go_simp; (try with_reducible rfl))
            try simp only [Act.put, List.setIfInBounds_toArray, List.set_cons_zero, List.set_cons_succ, List.getElem_toArray, List.getElem_cons_zero, List.getElem_cons_succ]
            refine wpN_take (i := 8) (v := ?v31) rfl (by kernel_rfl) (fun _ _ _ h => h) hS (Or.inl ⟨by rfl, ?hy31⟩) ?hr31
            case hy31 => (intro wS hSw; (try dsimp only at hSw); go_simp; (try with_reducible rfl))
            try simp only [Act.put, List.setIfInBounds_toArray, List.set_cons_zero, List.set_cons_succ, List.getElem_toArray, List.getElem_cons_zero, List.getElem_cons_succ]
            refine wpN_take (i := 9) (v := ?v32) rfl (by kernel_rfl) (fun _ _ _ h => h) hS (Or.inl ⟨by rfl, ?hy32⟩) ?hr32
            case hy32 => (intro wS hSw; (try dsimp only at hSw); go_simp; (try with_reducible rfl))
            try simp only [Act.put, List.setIfInBounds_toArray, List.set_cons_zero, List.set_cons_succ, List.getElem_toArray, List.getElem_cons_zero, List.getElem_cons_succ]
            refine wpN_step (i := 10) (by kernel_rfl) rfl (fun K hK => ?_)
            go_simp
            refine (Hih.out j hlt _ (hkp.drew)).mono ?_
            rintro e w5 ⟨b', k', i', a', rfl, hr1, hb1⟩
            have hK1 : Keep (fun q => v.ownBlock ≠ some q) wr w5 := ((Keep.refl _ _).drew).below hb1
            have hS : (w5).cell? ⟨w.heap.size, 3, none⟩ = some (.slice (some ⟨bl, off, none⟩) args.length c) ∧ (w5).cell? ⟨w.heap.size + 1 + 1, 3, none⟩ = some v ∧ (w5).cell? ⟨bl, off + j * 4, none⟩ = some (.slice (PA j) (PN j) (PC j)) ∧ (w5).cell? ⟨bl, off + j * 4 + 1, none⟩ = some (.int .i64 (Kd j)) ∧ (w5).cell? ⟨bl, off + j * 4 + 2, none⟩ = some (.int .i64 (Ix j)) ∧ (w5).cell? ⟨bl, off + j * 4 + 3, none⟩ = some (.slice (A j) (N j) (C j)) := ⟨(Blk.below (w := wr.drew) hbox hb1).cell rfl, (Blk.below (w := wr.drew) hout hb1).cell rfl, hK1 _ _ _ Hbl.out e1, hK1 _ _ _ Hbl.out e2, hK1 _ _ _ Hbl.out e3, hK1 _ _ _ Hbl.out e4⟩
            refine hK.out _ _ (fun _ => hS) ?_
            clear hK K
            try simp only [Act.put, List.setIfInBounds_toArray, List.set_cons_zero, List.set_cons_succ, List.getElem_toArray, List.getElem_cons_zero, List.getElem_cons_succ]
            refine wpN_step (i := 11) (by kernel_rfl) rfl (fun K hK => ?_)
            go_simp
            have hS : (w5.alloc (.cells #[b', k', i', a'] 29)).cell? ⟨w.heap.size, 3, none⟩ = some (.slice (some ⟨bl, off, none⟩) args.length c) ∧ (w5.alloc (.cells #[b', k', i', a'] 29)).cell? ⟨w.heap.size + 1 + 1, 3, none⟩ = some v ∧ (w5.alloc (.cells #[b', k', i', a'] 29)).cell? ⟨bl, off + j * 4, none⟩ = some (.slice (PA j) (PN j) (PC j)) ∧ (w5.alloc (.cells #[b', k', i', a'] 29)).cell? ⟨bl, off + j * 4 + 1, none⟩ = some (.int .i64 (Kd j)) ∧ (w5.alloc (.cells #[b', k', i', a'] 29)).cell? ⟨bl, off + j * 4 + 2, none⟩ = some (.int .i64 (Ix j)) ∧ (w5.alloc (.cells #[b', k', i', a'] 29)).cell? ⟨bl, off + j * 4 + 3, none⟩ = some (.slice (A j) (N j) (C j)) := ⟨((Blk.below (w := wr.drew) hbox hb1).alloc _).cell rfl, ((Blk.below (w := wr.drew) hout hb1).alloc _).cell rfl, (hK1.alloc _) _ _ _ Hbl.out e1, (hK1.alloc _) _ _ _ Hbl.out e2, (hK1.alloc _) _ _ _ Hbl.out e3, (hK1.alloc _) _ _ _ Hbl.out e4⟩
            refine hK.out _ _ (fun _ => hS) ?_
            clear hK K
            try simp only [Act.put, List.setIfInBounds_toArray, List.set_cons_zero, List.set_cons_succ, List.getElem_toArray, List.getElem_cons_zero, List.getElem_cons_succ]
            refine wpN_step (i := 12) (by kernel_rfl) rfl (fun K hK => ?_)
            refine step_push rpTm (by decide) (by rfl) _ _ _ (by rfl) (w.heap.size + 3) 29 i2 _ 64 Try.underlying27 hi2 hz0 hz1 hz2 rfl (by decide)
                   (fun q => (F q ∧ q < w.heap.size) ∨ w.heap.size + 3 ≤ q) v (Tm.mapls (grow b f) (args.take j) m) (by rfl) (((Hacc.out.drew).below hb1).alloc _) (by rw [Hl.out]; omega)
                   w5.heap.size _ [b', k', i', a'] (args[j].mapl (grow b f) m) (by rfl) (heap_alloc_new _ _) ⟨_, _, _, _, rfl, (hr1.weaken (fun q _ hq => hq.elim (fun h => ⟨.inl h, Hne.out q (by have := h.2; omega)⟩) (fun h => ⟨.inr (Nat.le_trans (show w.heap.size + 3 ≤ wr.drew.heap.size from hszp) h), fun e => by have := (Hacc.out.base_le q e).2; exact absurd this (Nat.not_lt.2 h)⟩))).keep ((Keep.refl _ _).alloc _)⟩ (by have := hb1.size; simp at this ⊢; omega) ?_
            intro gg cap w6 hacc2 hgrow hat hlt2
            have hK2 : Keep (fun q => v.ownBlock ≠ some q) wr w6 := (hK1.alloc _).grown hgrow (fun _ hr hf => hf hr)
            have o2 := hout.push hb1 hgrow (Hne.out _ (by omega))
            have o1 := hres.push hb1 hgrow (Hne.out _ (by omega))
            have o0 := hbox.push hb1 hgrow (Hne.out _ (by omega))
            have B6 := below_push hb (by omega) hb1 hgrow (fun q hq => by have := (Hacc.out.base_le q hq).1; omega)
            have hS : (w6).cell? ⟨w.heap.size, 3, none⟩ = some (.slice (some ⟨bl, off, none⟩) args.length c) ∧ (w6).cell? ⟨w.heap.size + 1 + 1, 3, none⟩ = some v ∧ (w6).cell? ⟨bl, off + j * 4, none⟩ = some (.slice (PA j) (PN j) (PC j)) ∧ (w6).cell? ⟨bl, off + j * 4 + 1, none⟩ = some (.int .i64 (Kd j)) ∧ (w6).cell? ⟨bl, off + j * 4 + 2, none⟩ = some (.int .i64 (Ix j)) ∧ (w6).cell? ⟨bl, off + j * 4 + 3, none⟩ = some (.slice (A j) (N j) (C j)) := ⟨o0.cell (i := 3) rfl, o2.cell (i := 3) rfl, hK2 _ _ _ Hbl.out e1, hK2 _ _ _ Hbl.out e2, hK2 _ _ _ Hbl.out e3, hK2 _ _ _ Hbl.out e4⟩
            have p2 := o2.free 3
            have Hacc2 := Lib.hid hacc2; clear hacc2
            refine hK.out _ _ (fun _ => hS) ?_
            clear hK K
            try simp only [Act.put, List.setIfInBounds_toArray, List.set_cons_zero, List.set_cons_succ, List.getElem_toArray, List.getElem_cons_zero, List.getElem_cons_succ]
            refine wpN_take (i := 13) (v := ?v33) rfl (by kernel_rfl) (fun _ _ _ h => h) hS (Or.inl ⟨by rfl, ?hy33⟩) ?hr33
            case hy33 => (intro wS hSw; (try dsimp only at hSw); go_simp; (try with_reducible rfl))
            try simp only [Act.put, List.setIfInBounds_toArray, List.set_cons_zero, List.set_cons_succ, List.getElem_toArray, List.getElem_cons_zero, List.getElem_cons_succ]
            refine wpN_step (i := 14) (by kernel_rfl) rfl (fun K hK => ?_)
            go_simp
            refine hK.out _ _ (fun h => absurd h (by decide)) ?_
            clear hK K
            try simp only [Act.put, List.setIfInBounds_toArray, List.set_cons_zero, List.set_cons_succ, List.getElem_toArray, List.getElem_cons_zero, List.getElem_cons_succ]
            refine wpN_done (by kernel_rfl) ?_
            refine NoPanic.normal ?_
            go_wp2_with fail
            refine ⟨⟨j + 1, _, by go_num, by omega, B6.setCell (by simp <;> omega) _, o0.far _ _ (by simp <;> omega), o1.far _ _ (by simp <;> omega), o2.set 3 _, ?_⟩, by simp [intOf]; omega⟩
            have h := Hacc2.out
            rw [Htk.out]
            exact h.setCell ⟨w.heap.size + 1 + 1, 3, none⟩ _ (by simp <;> omega) (by simp <;> omega)
          · obtain ⟨va, vc, hv⟩ := Hacc.out.len_shape
            rw [Tm.mapls_len, List.length_take, Nat.min_eq_left hj] at hv
            subst hv
            have d1 : wr.cell? ⟨w.heap.size + 1 + 1, 0, none⟩ = some (.slice pa binds.length pc) := hout.cell rfl
            have d2 : wr.cell? ⟨w.heap.size + 1 + 1, 1, none⟩ = some (.int .i64 0) := hout.cell rfl
            have d3 : wr.cell? ⟨w.heap.size + 1 + 1, 2, none⟩ = some (.int .i64 i) := hout.cell rfl
            have r0 : wr.cell? ⟨w.heap.size + 1, 0, none⟩ = some (.slice none 0 0) := hres.cell rfl
            have r1 : wr.cell? ⟨w.heap.size + 1, 1, none⟩ = some (.int .i64 0) := hres.cell rfl
            have r2 : wr.cell? ⟨w.heap.size + 1, 2, none⟩ = some (.int .i64 0) := hres.cell rfl
            have r3 : wr.cell? ⟨w.heap.size + 1, 3, none⟩ = some (.slice none 0 0) := hres.cell rfl
            have f0 := hres.free 0
            have f1 := hres.free 1
            have f2 := hres.free 2
            have f3 := hres.free 3
            go_wp2_with fail
            refine bodyPost_ret (v := .agg #[.slice pa binds.length pc, .int .i64 0, .int .i64 i, .slice va j vc]) (by simp [results, Try.results120, go_sem, r0, r1, r2, r3]) rfl ?_
            have h := Hacc.out
            rw [List.take_of_length_le (by omega)] at h
            have hA := (((h.setCell ⟨w.heap.size + 1, 0, none⟩ (.slice pa binds.length pc) (by simp <;> omega) (by simp <;> omega)).setCell ⟨w.heap.size + 1, 1, none⟩ (.int .i64 0) (by simp <;> omega) (by simp <;> omega)).setCell ⟨w.heap.size + 1, 2, none⟩ (.int .i64 i) (by simp <;> omega) (by simp <;> omega)).setCell ⟨w.heap.size + 1, 3, none⟩ (.slice va j vc) (by simp <;> omega) (by simp <;> omega)
            have KR := ((((((Keep.refl (fun q => F q ∧ q < w.heap.size) w).below hb).setCell ⟨w.heap.size + 1, 0, none⟩ (.slice pa binds.length pc) (by simp <;> omega)).setCell ⟨w.heap.size + 1, 1, none⟩ (.int .i64 0) (by simp <;> omega)).setCell ⟨w.heap.size + 1, 2, none⟩ (.int .i64 i) (by simp <;> omega)).setCell ⟨w.heap.size + 1, 3, none⟩ (.slice va j vc) (by simp <;> omega))
            rw [HX.out]
            exact ⟨_, _, _, _, rfl, isTm_mk ((Hb.out.keep KR).weaken (by decide) fun q _ h => .inl h.1) (hA.sl (F' := fun q => F q ∨ w.heap.size ≤ q) (fun q _ hq => hq.elim (fun h => .inl h.1) (fun h => .inr (by omega))) (fun q hq => .inr (by omega))) 0 i, (((hb.setCell (by simp <;> omega) _).setCell (by simp <;> omega) _).setCell (by simp <;> omega) _).setCell (by simp <;> omega) _⟩
      · skip
        have HX : Hid (X = Tm.mk binds 0 i (Tm.mapls (grow b f) args m)) := by show _ = _; rw [← hX, Tm.mapl_eq _ binds 0 i args n m hmm]; rw [if_neg (fun h => hge h.2)]
        clear hX
        go_enter Try.func120, Try.ntmps120
        go_wp2_with fail
        obtain ⟨w4, hw4⟩ : ∃ w4, ((w.alloc (.cells #[.slice pa binds.length pc, .int .i64 0, .int .i64 i, .slice a args.length c] 29)).alloc (.cells #[.slice none 0 0, .int .i64 0, .int .i64 0, .slice none 0 0] 29)).alloc (.cells #[.slice pa binds.length pc, .int .i64 0, .int .i64 i, .slice none 0 0] 29) = w4 := ⟨_, rfl⟩
        have B4 : Below w.heap.size w w4 := by rw [← hw4]; exact (((Below.refl _ _).alloc (Nat.le_refl _) _).alloc (by simp) _).alloc (by simp; omega) _
        have x1 : Blk w4 w.heap.size #[.slice pa binds.length pc, .int .i64 0, .int .i64 i, .slice a args.length c] 29 := by rw [← hw4]; exact ((Blk.new _ _ _ rfl).alloc _).alloc _
        have x2 : Blk w4 (w.heap.size + 1) #[.slice none 0 0, .int .i64 0, .int .i64 0, .slice none 0 0] 29 := by rw [← hw4]; exact (Blk.new _ _ _ (by simp)).alloc _
        have x3 : Blk w4 (w.heap.size + 1 + 1) #[.slice pa binds.length pc, .int .i64 0, .int .i64 i, .slice none 0 0] 29 := by rw [← hw4]; exact Blk.new _ _ _ (by simp)
        try rw [hw4]
        clear hw4
        go_loopw [11] (fun ii wr => ∃ (j : Nat) (v : Value), ii = .int .i64 j ∧ j ≤ args.length ∧
            Below w.heap.size w wr ∧ Blk wr w.heap.size #[.slice pa binds.length pc, .int .i64 0, .int .i64 i, .slice a args.length c] 29 ∧ Blk wr (w.heap.size + 1) #[.slice none 0 0, .int .i64 0, .int .i64 0, .slice none 0 0] 29 ∧ Blk wr (w.heap.size + 1 + 1) #[.slice pa binds.length pc, .int .i64 0, .int .i64 i, v] 29 ∧
            Acc rpTm 29 (w.heap.size + 3) (fun q => (F q ∧ q < w.heap.size) ∨ w.heap.size + 3 ≤ q) wr v (Tm.mapls (grow b f) (args.take j) m)) (fun ii _ => args.length - (intOf ii).toNat)
        case atStart => exact ⟨0, _, rfl, by omega, B4, x1, x2, x3, Acc.nil _ _ _ _ _⟩
        case round =>
          clear B4 x1 x2 x3
          obtain ⟨j, v, rfl, hj, hb, hbox, hres, hout, hacc⟩ := hrel
          have c0 : wr.cell? ⟨w.heap.size, 3, none⟩ = some (.slice a args.length c) := hbox.cell rfl
          have d0 : wr.cell? ⟨w.heap.size + 1 + 1, 3, none⟩ = some v := hout.cell rfl
          have hszp := hout.lt
          have Hacc := Lib.hid hacc; clear hacc
          by_cases hlt : j < args.length
          · obtain ⟨rfl, hF⟩ := ha (by omega)
            clear ha
            have hkp : Keep (fun q => F q ∧ q < w.heap.size) w wr := (Keep.refl _ _).below hb
            have e1 := hkp _ _ _ hF (h1 j hlt)
            have e2 := hkp _ _ _ hF (h2 j hlt)
            have e3 := hkp _ _ _ hF (h3 j hlt)
            have e4 := hkp _ _ _ hF (h4 j hlt)
            have hlt0 : (0 : Int) ≤ (j : Int) := Int.natCast_nonneg _
            have hlt1 : (j : Int) < (args.length : Int) := by omega
            have Hbl : Hid (v.ownBlock ≠ some bl) := fun e => by have := (Hacc.out.base_le bl e).1; have := hF.2; omega
            have Hl : Hid ((Tm.mapls (grow b f) (args.take j) m).length = j) := by show _ = _; rw [Tm.mapls_len, List.length_take]; omega
            have Hne : Hid (∀ q, q < w.heap.size + 3 → v.ownBlock ≠ some q) := fun q hq e => by have := (Hacc.out.base_le q e).1; omega
            have Htk := Lib.hid (Tm.mapls_take (grow b f) args m j hlt)
            go_wp2_with fail
            refine wp_region_noPanic (wp_region_need (S := fun w' => w'.cell? ⟨w.heap.size, 3, none⟩ = some (.slice (some ⟨bl, off, none⟩) args.length c) ∧ w'.cell? ⟨w.heap.size + 1 + 1, 3, none⟩ = some v ∧ w'.cell? ⟨bl, off + j * 4, none⟩ = some (.slice (PA j) (PN j) (PC j)) ∧ w'.cell? ⟨bl, off + j * 4 + 1, none⟩ = some (.int .i64 (Kd j)) ∧ w'.cell? ⟨bl, off + j * 4 + 2, none⟩ = some (.int .i64 (Ix j)) ∧ w'.cell? ⟨bl, off + j * 4 + 3, none⟩ = some (.slice (A j) (N j) (C j))) (by kernel_rfl) ?_)
            have hS : (wr.drew).cell? ⟨w.heap.size, 3, none⟩ = some (.slice (some ⟨bl, off, none⟩) args.length c) ∧ (wr.drew).cell? ⟨w.heap.size + 1 + 1, 3, none⟩ = some v ∧ (wr.drew).cell? ⟨bl, off + j * 4, none⟩ = some (.slice (PA j) (PN j) (PC j)) ∧ (wr.drew).cell? ⟨bl, off + j * 4 + 1, none⟩ = some (.int .i64 (Kd j)) ∧ (wr.drew).cell? ⟨bl, off + j * 4 + 2, none⟩ = some (.int .i64 (Ix j)) ∧ (wr.drew).cell? ⟨bl, off + j * 4 + 3, none⟩ = some (.slice (A j) (N j) (C j)) := ⟨c0, d0, e1, e2, e3, e4⟩
            refine wpN_take (i := 0) (v := ?v34) rfl (by kernel_rfl) (fun _ _ _ h => h) hS (Or.inl ⟨by rfl, ?hy34⟩) ?hr34
            case hy34 => (intro wS hSw; (try dsimp only at hSw); go_simp; (try with_reducible rfl))
            try simp only [Act.put, List.setIfInBounds_toArray, List.set_cons_zero, List.set_cons_succ, List.getElem_toArray, List.getElem_cons_zero, List.getElem_cons_succ]
            refine wpN_take (i := 1) (v := ?v35) rfl (by kernel_rfl) (fun _ _ _ h => h) hS (Or.inl ⟨by rfl, ?hy35⟩) ?hr35
            case hy35 => (intro wS hSw; (try dsimp only at hSw); go_simp; (try with_reducible rfl))
            try simp only [Act.put, List.setIfInBounds_toArray, List.set_cons_zero, List.set_cons_succ, List.getElem_toArray, List.getElem_cons_zero, List.getElem_cons_succ]
            refine wpN_take (i := 2) (v := ?v36) rfl (by kernel_rfl) (fun _ _ _ h => h) hS (Or.inl ⟨by rfl, ?hy36⟩) ?hr36
            case hy36 => (intro wS hSw; (try dsimp only at hSw); go_simp; (try with_reducible rfl))
            try simp only [Act.put, List.setIfInBounds_toArray, List.set_cons_zero, List.set_cons_succ, List.getElem_toArray, List.getElem_cons_zero, List.getElem_cons_succ]
            refine wpN_take (i := 3) (v := ?v37) rfl (by kernel_rfl) (fun _ _ _ h => h) hS (Or.inl ⟨by rfl, ?hy37⟩) ?hr37
            case hy37 => (intro wS hSw; (try dsimp only at hSw); go_simp; (try with_reducible rfl))
            try simp only [Act.put, List.setIfInBounds_toArray, List.set_cons_zero, List.set_cons_succ, List.getElem_toArray, List.getElem_cons_zero, List.getElem_cons_succ]
            refine wpN_take (i := 4) (v := ?v38) rfl (by kernel_rfl) (fun _ _ _ h => h) hS (Or.inl ⟨by rfl, ?hy38⟩) ?hr38
            case hy38 => (intro wS hSw; (try dsimp only at hSw); go_simp; (try with_reducible rfl))
            try simp only [Act.put, List.setIfInBounds_toArray, List.set_cons_zero, List.set_cons_succ, List.getElem_toArray, List.getElem_cons_zero, List.getElem_cons_succ]
            refine wpN_take (i := 5) (v := ?v39) rfl (by kernel_rfl) (fun _ _ _ h => h) hS (Or.inl ⟨by rfl, ?hy39⟩) ?hr39
            case hy39 => (intro wS hSw; (try dsimp only at hSw); go_simp; (try with_reducible rfl))
            try simp only [Act.put, List.setIfInBounds_toArray, List.set_cons_zero, List.set_cons_succ, List.getElem_toArray, List.getElem_cons_zero, List.getElem_cons_succ]
            refine wpN_take (i := 6) (v := ?v40) rfl (by kernel_rfl) (fun _ _ _ h => h) hS (Or.inl ⟨by rfl, ?hy40⟩) ?hr40
            case hy40 => (intro wS hSw; (try dsimp only at hSw); go_simp; (try with_reducible rfl))
            try simp only [Act.put, List.setIfInBounds_toArray, List.set_cons_zero, List.set_cons_succ, List.getElem_toArray, List.getElem_cons_zero, List.getElem_cons_succ]
            refine wpN_take (i := 7) (v := ?v41) rfl (by kernel_rfl) (fun _ _ _ h => h) hS (Or.inl ⟨by rfl, ?hy41⟩) ?hr41
            case hy41 => (intro wS hSw; (try dsimp only at hSw); go_simp; (try with_reducible rfl))
            try simp only [Act.put, List.setIfInBounds_toArray, List.set_cons_zero, List.set_cons_succ, List.getElem_toArray, List.getElem_cons_zero, List.getElem_cons_succ]
            refine wpN_take (i := 8) (v := ?v42) rfl (by kernel_rfl) (fun _ _ _ h => h) hS (Or.inl ⟨by rfl, ?hy42⟩) ?hr42
            case hy42 => (intro wS hSw; (try dsimp only at hSw); go_simp; (try with_reducible rfl))
            try simp only [Act.put, List.setIfInBounds_toArray, List.set_cons_zero, List.set_cons_succ, List.getElem_toArray, List.getElem_cons_zero, List.getElem_cons_succ]
            refine wpN_take (i := 9) (v := ?v43) rfl (by kernel_rfl) (fun _ _ _ h => h) hS (Or.inl ⟨by rfl, ?hy43⟩) ?hr43
            case hy43 => (intro wS hSw; (try dsimp only at hSw); go_simp; (try with_reducible rfl))
            try simp only [Act.put, List.setIfInBounds_toArray, List.set_cons_zero, List.set_cons_succ, List.getElem_toArray, List.getElem_cons_zero, List.getElem_cons_succ]
            refine wpN_step (i := 10) (by kernel_rfl) rfl (fun K hK => ?_)
            go_simp
            refine (Hih.out j hlt _ (hkp.drew)).mono ?_
            rintro e w5 ⟨b', k', i', a', rfl, hr1, hb1⟩
            have hK1 : Keep (fun q => v.ownBlock ≠ some q) wr w5 := ((Keep.refl _ _).drew).below hb1
            have hS : (w5).cell? ⟨w.heap.size, 3, none⟩ = some (.slice (some ⟨bl, off, none⟩) args.length c) ∧ (w5).cell? ⟨w.heap.size + 1 + 1, 3, none⟩ = some v ∧ (w5).cell? ⟨bl, off + j * 4, none⟩ = some (.slice (PA j) (PN j) (PC j)) ∧ (w5).cell? ⟨bl, off + j * 4 + 1, none⟩ = some (.int .i64 (Kd j)) ∧ (w5).cell? ⟨bl, off + j * 4 + 2, none⟩ = some (.int .i64 (Ix j)) ∧ (w5).cell? ⟨bl, off + j * 4 + 3, none⟩ = some (.slice (A j) (N j) (C j)) := ⟨(Blk.below (w := wr.drew) hbox hb1).cell rfl, (Blk.below (w := wr.drew) hout hb1).cell rfl, hK1 _ _ _ Hbl.out e1, hK1 _ _ _ Hbl.out e2, hK1 _ _ _ Hbl.out e3, hK1 _ _ _ Hbl.out e4⟩
            refine hK.out _ _ (fun _ => hS) ?_
            clear hK K
            try simp only [Act.put, List.setIfInBounds_toArray, List.set_cons_zero, List.set_cons_succ, List.getElem_toArray, List.getElem_cons_zero, List.getElem_cons_succ]
            refine wpN_step (i := 11) (by kernel_rfl) rfl (fun K hK => ?_)
            go_simp
            have hS : (w5.alloc (.cells #[b', k', i', a'] 29)).cell? ⟨w.heap.size, 3, none⟩ = some (.slice (some ⟨bl, off, none⟩) args.length c) ∧ (w5.alloc (.cells #[b', k', i', a'] 29)).cell? ⟨w.heap.size + 1 + 1, 3, none⟩ = some v ∧ (w5.alloc (.cells #[b', k', i', a'] 29)).cell? ⟨bl, off + j * 4, none⟩ = some (.slice (PA j) (PN j) (PC j)) ∧ (w5.alloc (.cells #[b', k', i', a'] 29)).cell? ⟨bl, off + j * 4 + 1, none⟩ = some (.int .i64 (Kd j)) ∧ (w5.alloc (.cells #[b', k', i', a'] 29)).cell? ⟨bl, off + j * 4 + 2, none⟩ = some (.int .i64 (Ix j)) ∧ (w5.alloc (.cells #[b', k', i', a'] 29)).cell? ⟨bl, off + j * 4 + 3, none⟩ = some (.slice (A j) (N j) (C j)) := ⟨((Blk.below (w := wr.drew) hbox hb1).alloc _).cell rfl, ((Blk.below (w := wr.drew) hout hb1).alloc _).cell rfl, (hK1.alloc _) _ _ _ Hbl.out e1, (hK1.alloc _) _ _ _ Hbl.out e2, (hK1.alloc _) _ _ _ Hbl.out e3, (hK1.alloc _) _ _ _ Hbl.out e4⟩
            refine hK.out _ _ (fun _ => hS) ?_
            clear hK K
            try simp only [Act.put, List.setIfInBounds_toArray, List.set_cons_zero, List.set_cons_succ, List.getElem_toArray, List.getElem_cons_zero, List.getElem_cons_succ]
            refine wpN_step (i := 12) (by kernel_rfl) rfl (fun K hK => ?_)
            refine step_push rpTm (by decide) (by rfl) _ _ _ (by rfl) (w.heap.size + 3) 29 i2 _ 64 Try.underlying27 hi2 hz0 hz1 hz2 rfl (by decide)
                   (fun q => (F q ∧ q < w.heap.size) ∨ w.heap.size + 3 ≤ q) v (Tm.mapls (grow b f) (args.take j) m) (by rfl) (((Hacc.out.drew).below hb1).alloc _) (by rw [Hl.out]; omega)
                   w5.heap.size _ [b', k', i', a'] (args[j].mapl (grow b f) m) (by rfl) (heap_alloc_new _ _) ⟨_, _, _, _, rfl, (hr1.weaken (fun q _ hq => hq.elim (fun h => ⟨.inl h, Hne.out q (by have := h.2; omega)⟩) (fun h => ⟨.inr (Nat.le_trans (show w.heap.size + 3 ≤ wr.drew.heap.size from hszp) h), fun e => by have := (Hacc.out.base_le q e).2; exact absurd this (Nat.not_lt.2 h)⟩))).keep ((Keep.refl _ _).alloc _)⟩ (by have := hb1.size; simp at this ⊢; omega) ?_
            intro gg cap w6 hacc2 hgrow hat hlt2
            have hK2 : Keep (fun q => v.ownBlock ≠ some q) wr w6 := (hK1.alloc _).grown hgrow (fun _ hr hf => hf hr)
            have o2 := hout.push hb1 hgrow (Hne.out _ (by omega))
            have o1 := hres.push hb1 hgrow (Hne.out _ (by omega))
            have o0 := hbox.push hb1 hgrow (Hne.out _ (by omega))
            have B6 := below_push hb (by omega) hb1 hgrow (fun q hq => by have := (Hacc.out.base_le q hq).1; omega)
            have hS : (w6).cell? ⟨w.heap.size, 3, none⟩ = some (.slice (some ⟨bl, off, none⟩) args.length c) ∧ (w6).cell? ⟨w.heap.size + 1 + 1, 3, none⟩ = some v ∧ (w6).cell? ⟨bl, off + j * 4, none⟩ = some (.slice (PA j) (PN j) (PC j)) ∧ (w6).cell? ⟨bl, off + j * 4 + 1, none⟩ = some (.int .i64 (Kd j)) ∧ (w6).cell? ⟨bl, off + j * 4 + 2, none⟩ = some (.int .i64 (Ix j)) ∧ (w6).cell? ⟨bl, off + j * 4 + 3, none⟩ = some (.slice (A j) (N j) (C j)) := ⟨o0.cell (i := 3) rfl, o2.cell (i := 3) rfl, hK2 _ _ _ Hbl.out e1, hK2 _ _ _ Hbl.out e2, hK2 _ _ _ Hbl.out e3, hK2 _ _ _ Hbl.out e4⟩
            have p2 := o2.free 3
            have Hacc2 := Lib.hid hacc2; clear hacc2
            refine hK.out _ _ (fun _ => hS) ?_
            clear hK K
            try simp only [Act.put, List.setIfInBounds_toArray, List.set_cons_zero, List.set_cons_succ, List.getElem_toArray, List.getElem_cons_zero, List.getElem_cons_succ]
            refine wpN_take (i := 13) (v := ?v44) rfl (by kernel_rfl) (fun _ _ _ h => h) hS (Or.inl ⟨by rfl, ?hy44⟩) ?hr44
            case hy44 => (intro wS hSw; (try dsimp only at hSw); go_simp; (try with_reducible rfl))
            try simp only [Act.put, List.setIfInBounds_toArray, List.set_cons_zero, List.set_cons_succ, List.getElem_toArray, List.getElem_cons_zero, List.getElem_cons_succ]
            refine wpN_step (i := 14) (by kernel_rfl) rfl (fun K hK => ?_)
            go_simp
            refine hK.out _ _ (fun h => absurd h (by decide)) ?_
            clear hK K
            try simp only [Act.put, List.setIfInBounds_toArray, List.set_cons_zero, List.set_cons_succ, List.getElem_toArray, List.getElem_cons_zero, List.getElem_cons_succ]
            refine wpN_done (by kernel_rfl) ?_
            refine NoPanic.normal ?_
            go_wp2_with fail
            refine ⟨⟨j + 1, _, by go_num, by omega, B6.setCell (by simp <;> omega) _, o0.far _ _ (by simp <;> omega), o1.far _ _ (by simp <;> omega), o2.set 3 _, ?_⟩, by simp [intOf]; omega⟩
            have h := Hacc2.out
            rw [Htk.out]
            exact h.setCell ⟨w.heap.size + 1 + 1, 3, none⟩ _ (by simp <;> omega) (by simp <;> omega)
          · obtain ⟨va, vc, hv⟩ := Hacc.out.len_shape
            rw [Tm.mapls_len, List.length_take, Nat.min_eq_left hj] at hv
            subst hv
            have d1 : wr.cell? ⟨w.heap.size + 1 + 1, 0, none⟩ = some (.slice pa binds.length pc) := hout.cell rfl
            have d2 : wr.cell? ⟨w.heap.size + 1 + 1, 1, none⟩ = some (.int .i64 0) := hout.cell rfl
            have d3 : wr.cell? ⟨w.heap.size + 1 + 1, 2, none⟩ = some (.int .i64 i) := hout.cell rfl
            have r0 : wr.cell? ⟨w.heap.size + 1, 0, none⟩ = some (.slice none 0 0) := hres.cell rfl
            have r1 : wr.cell? ⟨w.heap.size + 1, 1, none⟩ = some (.int .i64 0) := hres.cell rfl
            have r2 : wr.cell? ⟨w.heap.size + 1, 2, none⟩ = some (.int .i64 0) := hres.cell rfl
            have r3 : wr.cell? ⟨w.heap.size + 1, 3, none⟩ = some (.slice none 0 0) := hres.cell rfl
            have f0 := hres.free 0
            have f1 := hres.free 1
            have f2 := hres.free 2
            have f3 := hres.free 3
            go_wp2_with fail
            refine bodyPost_ret (v := .agg #[.slice pa binds.length pc, .int .i64 0, .int .i64 i, .slice va j vc]) (by simp [results, Try.results120, go_sem, r0, r1, r2, r3]) rfl ?_
            have h := Hacc.out
            rw [List.take_of_length_le (by omega)] at h
            have hA := (((h.setCell ⟨w.heap.size + 1, 0, none⟩ (.slice pa binds.length pc) (by simp <;> omega) (by simp <;> omega)).setCell ⟨w.heap.size + 1, 1, none⟩ (.int .i64 0) (by simp <;> omega) (by simp <;> omega)).setCell ⟨w.heap.size + 1, 2, none⟩ (.int .i64 i) (by simp <;> omega) (by simp <;> omega)).setCell ⟨w.heap.size + 1, 3, none⟩ (.slice va j vc) (by simp <;> omega) (by simp <;> omega)
            have KR := ((((((Keep.refl (fun q => F q ∧ q < w.heap.size) w).below hb).setCell ⟨w.heap.size + 1, 0, none⟩ (.slice pa binds.length pc) (by simp <;> omega)).setCell ⟨w.heap.size + 1, 1, none⟩ (.int .i64 0) (by simp <;> omega)).setCell ⟨w.heap.size + 1, 2, none⟩ (.int .i64 i) (by simp <;> omega)).setCell ⟨w.heap.size + 1, 3, none⟩ (.slice va j vc) (by simp <;> omega))
            rw [HX.out]
            exact ⟨_, _, _, _, rfl, isTm_mk ((Hb.out.keep KR).weaken (by decide) fun q _ h => .inl h.1) (hA.sl (F' := fun q => F q ∨ w.heap.size ≤ q) (fun q _ hq => hq.elim (fun h => .inl h.1) (fun h => .inr (by omega))) (fun q hq => .inr (by omega))) 0 i, (((hb.setCell (by simp <;> omega) _).setCell (by simp <;> omega) _).setCell (by simp <;> omega) _).setCell (by simp <;> omega) _⟩
  · have hk0 : (k == 0) = false := by simpa using hk
    have HX : Hid (X = Tm.mk binds k i (Tm.mapls (grow b f) args m)) := by show _ = _; rw [← hX, Tm.mapl_eq _ binds k i args n m hmm]; rw [if_neg (fun h => hk h.1)]
    clear hX
    go_enter Try.func120, Try.ntmps120
    go_wp2_with fail
    obtain ⟨w4, hw4⟩ : ∃ w4, ((w.alloc (.cells #[.slice pa binds.length pc, .int .i64 k, .int .i64 i, .slice a args.length c] 29)).alloc (.cells #[.slice none 0 0, .int .i64 0, .int .i64 0, .slice none 0 0] 29)).alloc (.cells #[.slice pa binds.length pc, .int .i64 k, .int .i64 i, .slice none 0 0] 29) = w4 := ⟨_, rfl⟩
    have B4 : Below w.heap.size w w4 := by rw [← hw4]; exact (((Below.refl _ _).alloc (Nat.le_refl _) _).alloc (by simp) _).alloc (by simp; omega) _
    have x1 : Blk w4 w.heap.size #[.slice pa binds.length pc, .int .i64 k, .int .i64 i, .slice a args.length c] 29 := by rw [← hw4]; exact ((Blk.new _ _ _ rfl).alloc _).alloc _
    have x2 : Blk w4 (w.heap.size + 1) #[.slice none 0 0, .int .i64 0, .int .i64 0, .slice none 0 0] 29 := by rw [← hw4]; exact (Blk.new _ _ _ (by simp)).alloc _
    have x3 : Blk w4 (w.heap.size + 1 + 1) #[.slice pa binds.length pc, .int .i64 k, .int .i64 i, .slice none 0 0] 29 := by rw [← hw4]; exact Blk.new _ _ _ (by simp)
    try rw [hw4]
    clear hw4
    go_loopw [11] (fun ii wr => ∃ (j : Nat) (v : Value), ii = .int .i64 j ∧ j ≤ args.length ∧
        Below w.heap.size w wr ∧ Blk wr w.heap.size #[.slice pa binds.length pc, .int .i64 k, .int .i64 i, .slice a args.length c] 29 ∧ Blk wr (w.heap.size + 1) #[.slice none 0 0, .int .i64 0, .int .i64 0, .slice none 0 0] 29 ∧ Blk wr (w.heap.size + 1 + 1) #[.slice pa binds.length pc, .int .i64 k, .int .i64 i, v] 29 ∧
        Acc rpTm 29 (w.heap.size + 3) (fun q => (F q ∧ q < w.heap.size) ∨ w.heap.size + 3 ≤ q) wr v (Tm.mapls (grow b f) (args.take j) m)) (fun ii _ => args.length - (intOf ii).toNat)
    case atStart => exact ⟨0, _, rfl, by omega, B4, x1, x2, x3, Acc.nil _ _ _ _ _⟩
    case round =>
      clear B4 x1 x2 x3
      obtain ⟨j, v, rfl, hj, hb, hbox, hres, hout, hacc⟩ := hrel
      have c0 : wr.cell? ⟨w.heap.size, 3, none⟩ = some (.slice a args.length c) := hbox.cell rfl
      have d0 : wr.cell? ⟨w.heap.size + 1 + 1, 3, none⟩ = some v := hout.cell rfl
      have hszp := hout.lt
      have Hacc := Lib.hid hacc; clear hacc
      by_cases hlt : j < args.length
      · obtain ⟨rfl, hF⟩ := ha (by omega)
        clear ha
        have hkp : Keep (fun q => F q ∧ q < w.heap.size) w wr := (Keep.refl _ _).below hb
        have e1 := hkp _ _ _ hF (h1 j hlt)
        have e2 := hkp _ _ _ hF (h2 j hlt)
        have e3 := hkp _ _ _ hF (h3 j hlt)
        have e4 := hkp _ _ _ hF (h4 j hlt)
        have hlt0 : (0 : Int) ≤ (j : Int) := Int.natCast_nonneg _
        have hlt1 : (j : Int) < (args.length : Int) := by omega
        have Hbl : Hid (v.ownBlock ≠ some bl) := fun e => by have := (Hacc.out.base_le bl e).1; have := hF.2; omega
        have Hl : Hid ((Tm.mapls (grow b f) (args.take j) m).length = j) := by show _ = _; rw [Tm.mapls_len, List.length_take]; omega
        have Hne : Hid (∀ q, q < w.heap.size + 3 → v.ownBlock ≠ some q) := fun q hq e => by have := (Hacc.out.base_le q e).1; omega
        have Htk := Lib.hid (Tm.mapls_take (grow b f) args m j hlt)
        go_wp2_with fail
        refine wp_region_noPanic (wp_region_need (S := fun w' => w'.cell? ⟨w.heap.size, 3, none⟩ = some (.slice (some ⟨bl, off, none⟩) args.length c) ∧ w'.cell? ⟨w.heap.size + 1 + 1, 3, none⟩ = some v ∧ w'.cell? ⟨bl, off + j * 4, none⟩ = some (.slice (PA j) (PN j) (PC j)) ∧ w'.cell? ⟨bl, off + j * 4 + 1, none⟩ = some (.int .i64 (Kd j)) ∧ w'.cell? ⟨bl, off + j * 4 + 2, none⟩ = some (.int .i64 (Ix j)) ∧ w'.cell? ⟨bl, off + j * 4 + 3, none⟩ = some (.slice (A j) (N j) (C j))) (by kernel_rfl) ?_)
        have hS : (wr.drew).cell? ⟨w.heap.size, 3, none⟩ = some (.slice (some ⟨bl, off, none⟩) args.length c) ∧ (wr.drew).cell? ⟨w.heap.size + 1 + 1, 3, none⟩ = some v ∧ (wr.drew).cell? ⟨bl, off + j * 4, none⟩ = some (.slice (PA j) (PN j) (PC j)) ∧ (wr.drew).cell? ⟨bl, off + j * 4 + 1, none⟩ = some (.int .i64 (Kd j)) ∧ (wr.drew).cell? ⟨bl, off + j * 4 + 2, none⟩ = some (.int .i64 (Ix j)) ∧ (wr.drew).cell? ⟨bl, off + j * 4 + 3, none⟩ = some (.slice (A j) (N j) (C j)) := ⟨c0, d0, e1, e2, e3, e4⟩
        refine wpN_take (i := 0) (v := ?v45) rfl (by kernel_rfl) (fun _ _ _ h => h) hS (Or.inl ⟨by rfl, ?hy45⟩) ?hr45
        case hy45 => (intro wS hSw; (try dsimp only at hSw); go_simp; (try with_reducible rfl))
        try simp only [Act.put, List.setIfInBounds_toArray, List.set_cons_zero, List.set_cons_succ, List.getElem_toArray, List.getElem_cons_zero, List.getElem_cons_succ]
        refine wpN_take (i := 1) (v := ?v46) rfl (by kernel_rfl) (fun _ _ _ h => h) hS (Or.inl ⟨by rfl, ?hy46⟩) ?hr46
        case hy46 => (intro wS hSw; (try dsimp only at hSw); go_simp; (try with_reducible rfl))
        try simp only [Act.put, List.setIfInBounds_toArray, List.set_cons_zero, List.set_cons_succ, List.getElem_toArray, List.getElem_cons_zero, List.getElem_cons_succ]
        refine wpN_take (i := 2) (v := ?v47) rfl (by kernel_rfl) (fun _ _ _ h => h) hS (Or.inl ⟨by rfl, ?hy47⟩) ?hr47
        case hy47 => (intro wS hSw; (try dsimp only at hSw); go_simp; (try with_reducible rfl))
        try simp only [Act.put, List.setIfInBounds_toArray, List.set_cons_zero, List.set_cons_succ, List.getElem_toArray, List.getElem_cons_zero, List.getElem_cons_succ]
        refine wpN_take (i := 3) (v := ?v48) rfl (by kernel_rfl) (fun _ _ _ h => h) hS (Or.inl ⟨by rfl, ?hy48⟩) ?hr48
        case hy48 => (intro wS hSw; (try dsimp only at hSw); go_simp; (try with_reducible rfl))
        try simp only [Act.put, List.setIfInBounds_toArray, List.set_cons_zero, List.set_cons_succ, List.getElem_toArray, List.getElem_cons_zero, List.getElem_cons_succ]
        refine wpN_take (i := 4) (v := ?v49) rfl (by kernel_rfl) (fun _ _ _ h => h) hS (Or.inl ⟨by rfl, ?hy49⟩) ?hr49
        case hy49 => (intro wS hSw; (try dsimp only at hSw); go_simp; (try with_reducible rfl))
        try simp only [Act.put, List.setIfInBounds_toArray, List.set_cons_zero, List.set_cons_succ, List.getElem_toArray, List.getElem_cons_zero, List.getElem_cons_succ]
        refine wpN_take (i := 5) (v := ?v50) rfl (by kernel_rfl) (fun _ _ _ h => h) hS (Or.inl ⟨by rfl, ?hy50⟩) ?hr50
        case hy50 => (intro wS hSw; (try dsimp only at hSw); go_simp; (try with_reducible rfl))
        try simp only [Act.put, List.setIfInBounds_toArray, List.set_cons_zero, List.set_cons_succ, List.getElem_toArray, List.getElem_cons_zero, List.getElem_cons_succ]
        refine wpN_take (i := 6) (v := ?v51) rfl (by kernel_rfl) (fun _ _ _ h => h) hS (Or.inl ⟨by rfl, ?hy51⟩) ?hr51
        case hy51 => (intro wS hSw; (try dsimp only at hSw); go_simp; (try with_reducible rfl))
        try simp only [Act.put, List.setIfInBounds_toArray, List.set_cons_zero, List.set_cons_succ, List.getElem_toArray, List.getElem_cons_zero, List.getElem_cons_succ]
        refine wpN_take (i := 7) (v := ?v52) rfl (by kernel_rfl) (fun _ _ _ h => h) hS (Or.inl ⟨by rfl, ?hy52⟩) ?hr52
        case hy52 => (intro wS hSw; (try dsimp only at hSw); go_simp; (try with_reducible rfl))
        try simp only [Act.put, List.setIfInBounds_toArray, List.set_cons_zero, List.set_cons_succ, List.getElem_toArray, List.getElem_cons_zero, List.getElem_cons_succ]
        refine wpN_take (i := 8) (v := ?v53) rfl (by kernel_rfl) (fun _ _ _ h => h) hS (Or.inl ⟨by rfl, ?hy53⟩) ?hr53
        case hy53 => (intro wS hSw; (try dsimp only at hSw); go_simp; (try with_reducible rfl))
        try simp only [Act.put, List.setIfInBounds_toArray, List.set_cons_zero, List.set_cons_succ, List.getElem_toArray, List.getElem_cons_zero, List.getElem_cons_succ]
        refine wpN_take (i := 9) (v := ?v54) rfl (by kernel_rfl) (fun _ _ _ h => h) hS (Or.inl ⟨by rfl, ?hy54⟩) ?hr54
        case hy54 => (intro wS hSw; (try dsimp only at hSw); go_simp; (try with_reducible rfl))
        try simp only [Act.put, List.setIfInBounds_toArray, List.set_cons_zero, List.set_cons_succ, List.getElem_toArray, List.getElem_cons_zero, List.getElem_cons_succ]
        refine wpN_step (i := 10) (by kernel_rfl) rfl (fun K hK => ?_)
        go_simp
        refine (Hih.out j hlt _ (hkp.drew)).mono ?_
        rintro e w5 ⟨b', k', i', a', rfl, hr1, hb1⟩
        have hK1 : Keep (fun q => v.ownBlock ≠ some q) wr w5 := ((Keep.refl _ _).drew).below hb1
        have hS : (w5).cell? ⟨w.heap.size, 3, none⟩ = some (.slice (some ⟨bl, off, none⟩) args.length c) ∧ (w5).cell? ⟨w.heap.size + 1 + 1, 3, none⟩ = some v ∧ (w5).cell? ⟨bl, off + j * 4, none⟩ = some (.slice (PA j) (PN j) (PC j)) ∧ (w5).cell? ⟨bl, off + j * 4 + 1, none⟩ = some (.int .i64 (Kd j)) ∧ (w5).cell? ⟨bl, off + j * 4 + 2, none⟩ = some (.int .i64 (Ix j)) ∧ (w5).cell? ⟨bl, off + j * 4 + 3, none⟩ = some (.slice (A j) (N j) (C j)) := ⟨(Blk.below (w := wr.drew) hbox hb1).cell rfl, (Blk.below (w := wr.drew) hout hb1).cell rfl, hK1 _ _ _ Hbl.out e1, hK1 _ _ _ Hbl.out e2, hK1 _ _ _ Hbl.out e3, hK1 _ _ _ Hbl.out e4⟩
        refine hK.out _ _ (fun _ => hS) ?_
        clear hK K
        try simp only [Act.put, List.setIfInBounds_toArray, List.set_cons_zero, List.set_cons_succ, List.getElem_toArray, List.getElem_cons_zero, List.getElem_cons_succ]
        refine wpN_step (i := 11) (by kernel_rfl) rfl (fun K hK => ?_)
        go_simp
        have hS : (w5.alloc (.cells #[b', k', i', a'] 29)).cell? ⟨w.heap.size, 3, none⟩ = some (.slice (some ⟨bl, off, none⟩) args.length c) ∧ (w5.alloc (.cells #[b', k', i', a'] 29)).cell? ⟨w.heap.size + 1 + 1, 3, none⟩ = some v ∧ (w5.alloc (.cells #[b', k', i', a'] 29)).cell? ⟨bl, off + j * 4, none⟩ = some (.slice (PA j) (PN j) (PC j)) ∧ (w5.alloc (.cells #[b', k', i', a'] 29)).cell? ⟨bl, off + j * 4 + 1, none⟩ = some (.int .i64 (Kd j)) ∧ (w5.alloc (.cells #[b', k', i', a'] 29)).cell? ⟨bl, off + j * 4 + 2, none⟩ = some (.int .i64 (Ix j)) ∧ (w5.alloc (.cells #[b', k', i', a'] 29)).cell? ⟨bl, off + j * 4 + 3, none⟩ = some (.slice (A j) (N j) (C j)) := ⟨((Blk.below (w := wr.drew) hbox hb1).alloc _).cell rfl, ((Blk.below (w := wr.drew) hout hb1).alloc _).cell rfl, (hK1.alloc _) _ _ _ Hbl.out e1, (hK1.alloc _) _ _ _ Hbl.out e2, (hK1.alloc _) _ _ _ Hbl.out e3, (hK1.alloc _) _ _ _ Hbl.out e4⟩
        refine hK.out _ _ (fun _ => hS) ?_
        clear hK K
        try simp only [Act.put, List.setIfInBounds_toArray, List.set_cons_zero, List.set_cons_succ, List.getElem_toArray, List.getElem_cons_zero, List.getElem_cons_succ]
        refine wpN_step (i := 12) (by kernel_rfl) rfl (fun K hK => ?_)
        refine step_push rpTm (by decide) (by rfl) _ _ _ (by rfl) (w.heap.size + 3) 29 i2 _ 64 Try.underlying27 hi2 hz0 hz1 hz2 rfl (by decide)
               (fun q => (F q ∧ q < w.heap.size) ∨ w.heap.size + 3 ≤ q) v (Tm.mapls (grow b f) (args.take j) m) (by rfl) (((Hacc.out.drew).below hb1).alloc _) (by rw [Hl.out]; omega)
               w5.heap.size _ [b', k', i', a'] (args[j].mapl (grow b f) m) (by rfl) (heap_alloc_new _ _) ⟨_, _, _, _, rfl, (hr1.weaken (fun q _ hq => hq.elim (fun h => ⟨.inl h, Hne.out q (by have := h.2; omega)⟩) (fun h => ⟨.inr (Nat.le_trans (show w.heap.size + 3 ≤ wr.drew.heap.size from hszp) h), fun e => by have := (Hacc.out.base_le q e).2; exact absurd this (Nat.not_lt.2 h)⟩))).keep ((Keep.refl _ _).alloc _)⟩ (by have := hb1.size; simp at this ⊢; omega) ?_
        intro gg cap w6 hacc2 hgrow hat hlt2
        have hK2 : Keep (fun q => v.ownBlock ≠ some q) wr w6 := (hK1.alloc _).grown hgrow (fun _ hr hf => hf hr)
        have o2 := hout.push hb1 hgrow (Hne.out _ (by omega))
        have o1 := hres.push hb1 hgrow (Hne.out _ (by omega))
        have o0 := hbox.push hb1 hgrow (Hne.out _ (by omega))
        have B6 := below_push hb (by omega) hb1 hgrow (fun q hq => by have := (Hacc.out.base_le q hq).1; omega)
        have hS : (w6).cell? ⟨w.heap.size, 3, none⟩ = some (.slice (some ⟨bl, off, none⟩) args.length c) ∧ (w6).cell? ⟨w.heap.size + 1 + 1, 3, none⟩ = some v ∧ (w6).cell? ⟨bl, off + j * 4, none⟩ = some (.slice (PA j) (PN j) (PC j)) ∧ (w6).cell? ⟨bl, off + j * 4 + 1, none⟩ = some (.int .i64 (Kd j)) ∧ (w6).cell? ⟨bl, off + j * 4 + 2, none⟩ = some (.int .i64 (Ix j)) ∧ (w6).cell? ⟨bl, off + j * 4 + 3, none⟩ = some (.slice (A j) (N j) (C j)) := ⟨o0.cell (i := 3) rfl, o2.cell (i := 3) rfl, hK2 _ _ _ Hbl.out e1, hK2 _ _ _ Hbl.out e2, hK2 _ _ _ Hbl.out e3, hK2 _ _ _ Hbl.out e4⟩
        have p2 := o2.free 3
        have Hacc2 := Lib.hid hacc2; clear hacc2
        refine hK.out _ _ (fun _ => hS) ?_
        clear hK K
        try simp only [Act.put, List.setIfInBounds_toArray, List.set_cons_zero, List.set_cons_succ, List.getElem_toArray, List.getElem_cons_zero, List.getElem_cons_succ]
        refine wpN_take (i := 13) (v := ?v55) rfl (by kernel_rfl) (fun _ _ _ h => h) hS (Or.inl ⟨by rfl, ?hy55⟩) ?hr55
        case hy55 => (intro wS hSw; (try dsimp only at hSw); go_simp; (try with_reducible rfl))
        try simp only [Act.put, List.setIfInBounds_toArray, List.set_cons_zero, List.set_cons_succ, List.getElem_toArray, List.getElem_cons_zero, List.getElem_cons_succ]
        refine wpN_step (i := 14) (by kernel_rfl) rfl (fun K hK => ?_)
        go_simp
        refine hK.out _ _ (fun h => absurd h (by decide)) ?_
        clear hK K
        try simp only [Act.put, List.setIfInBounds_toArray, List.set_cons_zero, List.set_cons_succ, List.getElem_toArray, List.getElem_cons_zero, List.getElem_cons_succ]
        refine wpN_done (by kernel_rfl) ?_
        refine NoPanic.normal ?_
        go_wp2_with fail
        refine ⟨⟨j + 1, _, by go_num, by omega, B6.setCell (by simp <;> omega) _, o0.far _ _ (by simp <;> omega), o1.far _ _ (by simp <;> omega), o2.set 3 _, ?_⟩, by simp [intOf]; omega⟩
        have h := Hacc2.out
        rw [Htk.out]
        exact h.setCell ⟨w.heap.size + 1 + 1, 3, none⟩ _ (by simp <;> omega) (by simp <;> omega)
      · obtain ⟨va, vc, hv⟩ := Hacc.out.len_shape
        rw [Tm.mapls_len, List.length_take, Nat.min_eq_left hj] at hv
        subst hv
        have d1 : wr.cell? ⟨w.heap.size + 1 + 1, 0, none⟩ = some (.slice pa binds.length pc) := hout.cell rfl
        have d2 : wr.cell? ⟨w.heap.size + 1 + 1, 1, none⟩ = some (.int .i64 k) := hout.cell rfl
        have d3 : wr.cell? ⟨w.heap.size + 1 + 1, 2, none⟩ = some (.int .i64 i) := hout.cell rfl
        have r0 : wr.cell? ⟨w.heap.size + 1, 0, none⟩ = some (.slice none 0 0) := hres.cell rfl
        have r1 : wr.cell? ⟨w.heap.size + 1, 1, none⟩ = some (.int .i64 0) := hres.cell rfl
        have r2 : wr.cell? ⟨w.heap.size + 1, 2, none⟩ = some (.int .i64 0) := hres.cell rfl
        have r3 : wr.cell? ⟨w.heap.size + 1, 3, none⟩ = some (.slice none 0 0) := hres.cell rfl
        have f0 := hres.free 0
        have f1 := hres.free 1
        have f2 := hres.free 2
        have f3 := hres.free 3
        go_wp2_with fail
        refine bodyPost_ret (v := .agg #[.slice pa binds.length pc, .int .i64 k, .int .i64 i, .slice va j vc]) (by simp [results, Try.results120, go_sem, r0, r1, r2, r3]) rfl ?_
        have h := Hacc.out
        rw [List.take_of_length_le (by omega)] at h
        have hA := (((h.setCell ⟨w.heap.size + 1, 0, none⟩ (.slice pa binds.length pc) (by simp <;> omega) (by simp <;> omega)).setCell ⟨w.heap.size + 1, 1, none⟩ (.int .i64 k) (by simp <;> omega) (by simp <;> omega)).setCell ⟨w.heap.size + 1, 2, none⟩ (.int .i64 i) (by simp <;> omega) (by simp <;> omega)).setCell ⟨w.heap.size + 1, 3, none⟩ (.slice va j vc) (by simp <;> omega) (by simp <;> omega)
        have KR := ((((((Keep.refl (fun q => F q ∧ q < w.heap.size) w).below hb).setCell ⟨w.heap.size + 1, 0, none⟩ (.slice pa binds.length pc) (by simp <;> omega)).setCell ⟨w.heap.size + 1, 1, none⟩ (.int .i64 k) (by simp <;> omega)).setCell ⟨w.heap.size + 1, 2, none⟩ (.int .i64 i) (by simp <;> omega)).setCell ⟨w.heap.size + 1, 3, none⟩ (.slice va j vc) (by simp <;> omega))
        rw [HX.out]
        exact ⟨_, _, _, _, rfl, isTm_mk ((Hb.out.keep KR).weaken (by decide) fun q _ h => .inl h.1) (hA.sl (F' := fun q => F q ∨ w.heap.size ≤ q) (fun q _ hq => hq.elim (fun h => .inl h.1) (fun h => .inr (by omega))) (fun q hq => .inr (by omega))) k i, (((hb.setCell (by simp <;> omega) _).setCell (by simp <;> omega) _).setCell (by simp <;> omega) _).setCell (by simp <;> omega) _⟩
end Go.Proofs.Ytejpgifofkiofaa

