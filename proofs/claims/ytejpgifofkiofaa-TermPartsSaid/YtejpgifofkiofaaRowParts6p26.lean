/-
  The document's order of types.
-/
import Derived.Test.YtejpgifofkiofaaRowParts6p25
import Derived.Test.YtejpgifofkiofaaRowParts6p4
set_option linter.unusedVariables false
set_option linter.unusedSimpArgs false
namespace Go.Proofs.Ytejpgifofkiofaa
open Go.RowKit

namespace Ty
theorem cmp_size {t u : Ty} (h : t.size ≠ u.size) : cmp t u = sgn t.size u.size := by
  cases t; cases u
  rw [cmp_mk, orl_assoc, orl_assoc, orl_ne (by rw [Ne, sgn_zero]; omega)]
theorem cmp_len {l l' : List Ty} {b b' : Int} (h : (mk l b).size = (mk l' b').size) (h' : l.length ≠ l'.length) : cmp (.mk l b) (.mk l' b') = sgn l.length l'.length := by
  rw [cmp_mk, orl_assoc, orl_assoc, sgn_zero.2 (by omega), orl_zero, orl_ne (by rw [Ne, sgn_zero]; omega)]
theorem cmp_in {l l' : List Ty} {b b' : Int} (h : (mk l b).size = (mk l' b').size) (h' : l.length = l'.length) : cmp (.mk l b) (.mk l' b') = orl (cmps l l') (sgn b b') := by
  rw [cmp_mk, sgn_zero.2 (by omega), orl_zero, sgn_zero.2 (by omega), orl_zero]
theorem cmps_drop {l l' : List Ty} {k : Nat} (h : k < l.length) (h' : k < l'.length) : cmps (l.drop k) (l'.drop k) = orl (cmp l[k] l'[k]) (cmps (l.drop (k + 1)) (l'.drop (k + 1))) := by
  rw [List.drop_eq_getElem_cons h, List.drop_eq_getElem_cons h', cmps_cons]
end Ty

def CmpRef (t : Ty) : Prop := ∀ (F : Nat → Prop) (w0 : World) (s b : Value), IsTy F w0 s b t → ∀ (F' : Nat → Prop) (w0' : World) (s' b' : Value) (u : Ty), IsTy F' w0' s' b' u → ∀ w : World, Keep F w0 w → Keep F' w0' w → t.size ≤ 1000000 → u.size ≤ 1000000 →
    Calls Try.prog 55 #[.agg #[s, b], .agg #[s', b']] w (RetI (Ty.cmp t u) w)

theorem sizes_get {l : List Ty} {b : Int} (h : (Ty.mk l b).size ≤ 1000000) (i : Nat) (hi : i < l.length) : l[i].size ≤ 1000000 := by have := Ty.size_get (b := b) i hi; omega

set_option maxRecDepth 100000 in
set_option maxHeartbeats 1600000 in
theorem compare_r : ∀ t : Ty, CmpRef t := Ty.ind fun args base ih => by
  intro F w0 s b ht F' w0' s' b' u hu w hw hw' hz hz'
  obtain ⟨args', base'⟩ := u
  have Hs := Lib.hid fun (w : World) (hw : Keep F w0 w) => size_r ht w hz hw
  have Hs' := Lib.hid fun (w : World) (hw : Keep F' w0' w) => size_r hu w hz' hw
  obtain ⟨rfl, hs⟩ := ht.inv
  obtain ⟨rfl, hs'⟩ := hu.inv
  obtain ⟨a, c, rfl⟩ := sl_shape' hs
  obtain ⟨a', c', rfl⟩ := sl_shape' hs'
  obtain ⟨_, hm, bl, off, A, N, C, B, ha, h1, h2, h3⟩ := sl_cells' hs
  obtain ⟨_, hm', bl', off', A', N', C', B', ha', h1', h2', h3'⟩ := sl_cells' hs'
  clear hs hs' ht hu
  unfold maxLen at hm hm'
  simp only [args_mk', base_mk'] at *
  have H3 : Hid (∀ i (h : i < args.length) (h' : i < args'.length) (w : World), Keep F w0 w → Keep F' w0' w → Calls Try.prog 55 #[.agg #[.slice (A i) (N i) (C i), .int .i64 (B i)], .agg #[.slice (A' i) (N' i) (C' i), .int .i64 (B' i)]] w (RetI (Ty.cmp args[i] args'[i]) w)) :=
    fun i h h' w hw hw' => ih _ (List.getElem_mem h) _ _ _ _ (h3 i h) _ _ _ _ _ (h3' i h') w hw hw' (sizes_get hz i h) (sizes_get hz' i h')
  clear h3 h3' ih
  obtain ⟨z, hz0⟩ : ∃ z, (Ty.mk args base).size = z := ⟨_, rfl⟩
  obtain ⟨z', hz0'⟩ : ∃ z', (Ty.mk args' base').size = z' := ⟨_, rfl⟩
  obtain ⟨r, hr⟩ : ∃ r, Ty.cmp (.mk args base) (.mk args' base') = r := ⟨_, rfl⟩
  have Hc1 := Lib.hid fun h => (Ty.cmp_size (t := .mk args base) (u := .mk args' base') h)
  have Hc2 := Lib.hid fun h h' => (Ty.cmp_len (l := args) (l' := args') (b := base) (b' := base') h h')
  have Hc3 := Lib.hid fun h h' => (Ty.cmp_in (l := args) (l' := args') (b := base) (b' := base') h h')
  rw [hr, hz0, hz0'] at Hc1
  rw [hr, hz0, hz0'] at Hc2
  rw [hr, hz0, hz0'] at Hc3
  rw [hz0] at Hs hz
  rw [hz0'] at Hs' hz'
  rw [hr]
  clear hr hz0 hz0'
  obtain ⟨wB, hwB⟩ : ∃ wB, (w.alloc (.cells #[.slice a args.length c, .int .i64 base] 26)).alloc (.cells #[.slice a' args'.length c', .int .i64 base'] 26) = wB := ⟨_, rfl⟩
  have B0 : Below w.heap.size w wB := by rw [← hwB]; exact ((Below.refl _ _).alloc (Nat.le_refl _) _).alloc (by simp) _
  have x0 : Blk wB w.heap.size #[.slice a args.length c, .int .i64 base] 26 := by rw [← hwB]; exact (Blk.new _ _ _ rfl).alloc _
  have x1 : Blk wB (w.heap.size + 1) #[.slice a' args'.length c', .int .i64 base'] 26 := by rw [← hwB]; exact Blk.new _ _ _ (by simp)
  go_enter Try.func55, Try.ntmps55
  go_wp2_with fail
  clear hwB
  refine wp_region_noPanic (wp_region_need (S := fun w' => w'.cell? ⟨w.heap.size, 0, none⟩ = some (.slice a args.length c) ∧ w'.cell? ⟨w.heap.size, 1, none⟩ = some (.int .i64 base) ∧ w'.cell? ⟨w.heap.size + 1, 0, none⟩ = some (.slice a' args'.length c') ∧ w'.cell? ⟨w.heap.size + 1, 1, none⟩ = some (.int .i64 base')) (by kernel_rfl) ?_)
  have hS : (wB.drew).cell? ⟨w.heap.size, 0, none⟩ = some (.slice a args.length c) ∧ (wB.drew).cell? ⟨w.heap.size, 1, none⟩ = some (.int .i64 base) ∧ (wB.drew).cell? ⟨w.heap.size + 1, 0, none⟩ = some (.slice a' args'.length c') ∧ (wB.drew).cell? ⟨w.heap.size + 1, 1, none⟩ = some (.int .i64 base') := ⟨x0.drew.cell rfl, x0.drew.cell rfl, x1.drew.cell rfl, x1.drew.cell rfl⟩
  refine wpN_take (i := 0) (v := ?v1) rfl (by kernel_rfl) (fun _ _ _ h => h) hS (Or.inl ⟨by rfl, ?hy1⟩) ?hr1
  case hy1 => (intro wS hSw; (try dsimp only at hSw); go_simp; (try with_reducible rfl))
  try simp only [Act.put, List.setIfInBounds_toArray, List.set_cons_zero, List.set_cons_succ, List.getElem_toArray, List.getElem_cons_zero, List.getElem_cons_succ]
  refine wpN_take (i := 2) (v := ?v2) rfl (by kernel_rfl) (fun _ _ _ h => h) hS (Or.inl ⟨by rfl, ?hy2⟩) ?hr2
  case hy2 => (intro wS hSw; (try dsimp only at hSw); go_simp; (try with_reducible rfl))
  try simp only [Act.put, List.setIfInBounds_toArray, List.set_cons_zero, List.set_cons_succ, List.getElem_toArray, List.getElem_cons_zero, List.getElem_cons_succ]
  refine wpN_step (i := 1) (by kernel_rfl) rfl (fun K hK => ?_)
  go_simp
  refine (Hs.out _ (hw.below B0).drew).mono ?_
  rintro e w1 ⟨rfl, hb1⟩
  have B1 := B0.drew.trans (hb1.mono B0.size)
  have y0 := x0.drew.below hb1
  have y1 := x1.drew.below hb1
  have hS : (w1).cell? ⟨w.heap.size, 0, none⟩ = some (.slice a args.length c) ∧ (w1).cell? ⟨w.heap.size, 1, none⟩ = some (.int .i64 base) ∧ (w1).cell? ⟨w.heap.size + 1, 0, none⟩ = some (.slice a' args'.length c') ∧ (w1).cell? ⟨w.heap.size + 1, 1, none⟩ = some (.int .i64 base') := ⟨y0.cell rfl, y0.cell rfl, y1.cell rfl, y1.cell rfl⟩
  refine hK.out _ _ (fun _ => hS) ?_
  clear hK K
  try simp only [Act.put, List.setIfInBounds_toArray, List.set_cons_zero, List.set_cons_succ, List.getElem_toArray, List.getElem_cons_zero, List.getElem_cons_succ]
  refine wpN_step (i := 3) (by kernel_rfl) rfl (fun K hK => ?_)
  go_simp
  refine (Hs'.out _ (hw'.below B1)).mono ?_
  rintro e w2 ⟨rfl, hb2⟩
  have B2 := B1.trans (hb2.mono B1.size)
  have z0 := y0.below hb2
  have z1 := y1.below hb2
  have hS : (w2).cell? ⟨w.heap.size, 0, none⟩ = some (.slice a args.length c) ∧ (w2).cell? ⟨w.heap.size, 1, none⟩ = some (.int .i64 base) ∧ (w2).cell? ⟨w.heap.size + 1, 0, none⟩ = some (.slice a' args'.length c') ∧ (w2).cell? ⟨w.heap.size + 1, 1, none⟩ = some (.int .i64 base') := ⟨z0.cell rfl, z0.cell rfl, z1.cell rfl, z1.cell rfl⟩
  refine hK.out _ _ (fun _ => hS) ?_
  clear hK K
  try simp only [Act.put, List.setIfInBounds_toArray, List.set_cons_zero, List.set_cons_succ, List.getElem_toArray, List.getElem_cons_zero, List.getElem_cons_succ]
  refine wpN_take (i := 4) (v := ?v3) rfl (by kernel_rfl) (fun _ _ _ h => h) hS (Or.inl ⟨by rfl, ?hy3⟩) ?hr3
  case hy3 => (intro wS hSw; (try dsimp only at hSw); go_simp; (try with_reducible rfl))
  try simp only [Act.put, List.setIfInBounds_toArray, List.set_cons_zero, List.set_cons_succ, List.getElem_toArray, List.getElem_cons_zero, List.getElem_cons_succ]
  refine wpN_done (by kernel_rfl) ?_
  refine NoPanic.normal ?_
  clear x0 x1 y0 y1 B0 B1 hb1 hb2
  by_cases hzz : z = z'
  rotate_left
  · have hzi : ¬ (z : Int) = (z' : Int) := by omega
    have hg : ((z : Int) == (z' : Int)) = false := by simpa using hzi
    have hg' : ((z : Int) != (z' : Int)) = true := by simpa using hzi
    have Hr := Lib.hid (Hc1.out hzz)
    go_wp2_with fail
    refine wp_region_noPanic (wp_region_need (S := fun w' => w'.cell? ⟨w.heap.size, 0, none⟩ = some (.slice a args.length c) ∧ w'.cell? ⟨w.heap.size, 1, none⟩ = some (.int .i64 base) ∧ w'.cell? ⟨w.heap.size + 1, 0, none⟩ = some (.slice a' args'.length c') ∧ w'.cell? ⟨w.heap.size + 1, 1, none⟩ = some (.int .i64 base')) (by kernel_rfl) ?_)
    have hS : (w2.drew).cell? ⟨w.heap.size, 0, none⟩ = some (.slice a args.length c) ∧ (w2.drew).cell? ⟨w.heap.size, 1, none⟩ = some (.int .i64 base) ∧ (w2.drew).cell? ⟨w.heap.size + 1, 0, none⟩ = some (.slice a' args'.length c') ∧ (w2.drew).cell? ⟨w.heap.size + 1, 1, none⟩ = some (.int .i64 base') := ⟨z0.drew.cell rfl, z0.drew.cell rfl, z1.drew.cell rfl, z1.drew.cell rfl⟩
    refine wpN_take (i := 0) (v := ?v4) rfl (by kernel_rfl) (fun _ _ _ h => h) hS (Or.inl ⟨by rfl, ?hy4⟩) ?hr4
    case hy4 => (intro wS hSw; (try dsimp only at hSw); go_simp; (try with_reducible rfl))
    try simp only [Act.put, List.setIfInBounds_toArray, List.set_cons_zero, List.set_cons_succ, List.getElem_toArray, List.getElem_cons_zero, List.getElem_cons_succ]
    refine wpN_take (i := 2) (v := ?v5) rfl (by kernel_rfl) (fun _ _ _ h => h) hS (Or.inl ⟨by rfl, ?hy5⟩) ?hr5
    case hy5 => (intro wS hSw; (try dsimp only at hSw); go_simp; (try with_reducible rfl))
    try simp only [Act.put, List.setIfInBounds_toArray, List.set_cons_zero, List.set_cons_succ, List.getElem_toArray, List.getElem_cons_zero, List.getElem_cons_succ]
    refine wpN_step (i := 1) (by kernel_rfl) rfl (fun K hK => ?_)
    go_simp
    refine (Hs.out _ (hw.below B2).drew).mono ?_
    rintro e w3 ⟨rfl, hb3⟩
    have B3 := B2.drew.trans (hb3.mono B2.size)
    have y0 := z0.drew.below hb3
    have y1 := z1.drew.below hb3
    have hS : (w3).cell? ⟨w.heap.size, 0, none⟩ = some (.slice a args.length c) ∧ (w3).cell? ⟨w.heap.size, 1, none⟩ = some (.int .i64 base) ∧ (w3).cell? ⟨w.heap.size + 1, 0, none⟩ = some (.slice a' args'.length c') ∧ (w3).cell? ⟨w.heap.size + 1, 1, none⟩ = some (.int .i64 base') := ⟨y0.cell rfl, y0.cell rfl, y1.cell rfl, y1.cell rfl⟩
    refine hK.out _ _ (fun _ => hS) ?_
    clear hK K
    try simp only [Act.put, List.setIfInBounds_toArray, List.set_cons_zero, List.set_cons_succ, List.getElem_toArray, List.getElem_cons_zero, List.getElem_cons_succ]
    refine wpN_step (i := 3) (by kernel_rfl) rfl (fun K hK => ?_)
    go_simp
    refine (Hs'.out _ (hw'.below B3)).mono ?_
    rintro e w4 ⟨rfl, hb4⟩
    have B4 := B3.trans (hb4.mono B3.size)
    have u0 := y0.below hb4
    have u1 := y1.below hb4
    have hS : (w4).cell? ⟨w.heap.size, 0, none⟩ = some (.slice a args.length c) ∧ (w4).cell? ⟨w.heap.size, 1, none⟩ = some (.int .i64 base) ∧ (w4).cell? ⟨w.heap.size + 1, 0, none⟩ = some (.slice a' args'.length c') ∧ (w4).cell? ⟨w.heap.size + 1, 1, none⟩ = some (.int .i64 base') := ⟨u0.cell rfl, u0.cell rfl, u1.cell rfl, u1.cell rfl⟩
    refine hK.out _ _ (fun _ => hS) ?_
    clear hK K
    try simp only [Act.put, List.setIfInBounds_toArray, List.set_cons_zero, List.set_cons_succ, List.getElem_toArray, List.getElem_cons_zero, List.getElem_cons_succ]
    refine wpN_step (i := 4) (by kernel_rfl) rfl (fun K hK => ?_)
    go_simp
    refine (sign_r _ _ _).mono ?_
    rintro e w5 ⟨rfl, hb5⟩
    have B5 := B4.trans (hb5.mono B4.size)
    have t0 := u0.below hb5
    have t1 := u1.below hb5
    have hS : (w5).cell? ⟨w.heap.size, 0, none⟩ = some (.slice a args.length c) ∧ (w5).cell? ⟨w.heap.size, 1, none⟩ = some (.int .i64 base) ∧ (w5).cell? ⟨w.heap.size + 1, 0, none⟩ = some (.slice a' args'.length c') ∧ (w5).cell? ⟨w.heap.size + 1, 1, none⟩ = some (.int .i64 base') := ⟨t0.cell rfl, t0.cell rfl, t1.cell rfl, t1.cell rfl⟩
    refine hK.out _ _ (fun _ => hS) ?_
    clear hK K
    try simp only [Act.put, List.setIfInBounds_toArray, List.set_cons_zero, List.set_cons_succ, List.getElem_toArray, List.getElem_cons_zero, List.getElem_cons_succ]
    refine wpN_step (i := 5) (by kernel_rfl) rfl (fun K hK => ?_)
    go_simp
    refine hK.out _ _ (fun h => absurd h (by decide)) ?_
    clear hK K
    try simp only [Act.put, List.setIfInBounds_toArray, List.set_cons_zero, List.set_cons_succ, List.getElem_toArray, List.getElem_cons_zero, List.getElem_cons_succ]
    refine wpN_done (by kernel_rfl) ?_
    refine NoPanic.normal ?_
    go_wp2_with fail
    go_ret
    exact ⟨by rw [Hr.out]; rfl, B5⟩
  · subst hzz
    have hg : ((z : Int) == (z : Int)) = true := by simp
    have hg' : ((z : Int) != (z : Int)) = false := by simp
    have c0 : w2.cell? ⟨w.heap.size, 0, none⟩ = some (.slice a args.length c) := z0.cell rfl
    have c1 : w2.cell? ⟨w.heap.size + 1, 0, none⟩ = some (.slice a' args'.length c') := z1.cell rfl
    by_cases hll : args.length = args'.length
    rotate_left
    · have hli : ¬ (args.length : Int) = (args'.length : Int) := by omega
      have hh : ((args.length : Int) == (args'.length : Int)) = false := by simpa using hli
      have hh' : ((args.length : Int) != (args'.length : Int)) = true := by simpa using hli
      have Hr := Lib.hid (Hc2.out rfl hll)
      go_wp2_with fail
      refine (sign_r _ _ _).mono ?_
      rintro e w5 ⟨rfl, hb5⟩
      go_wp2_with fail
      go_ret
      exact ⟨by rw [Hr.out]; rfl, B2.trans (hb5.mono B2.size)⟩
    · have Hll := Lib.hid hll
      have Hr := Lib.hid (Hc3.out rfl hll)
      have hh : ((args.length : Int) == (args'.length : Int)) = true := by rw [hll]; simp
      have hh' : ((args.length : Int) != (args'.length : Int)) = false := by rw [hll]; simp
      clear hll
      go_wp2_with fail
      go_loopw [5] (fun i wr => ∃ k : Nat, i = .int .i64 k ∧ k ≤ args.length ∧ Hid (r = orl (Ty.cmps (args.drop k) (args'.drop k)) (sgn base base')) ∧ Below w.heap.size w wr ∧ Blk wr w.heap.size #[.slice a args.length c, .int .i64 base] 26 ∧ Blk wr (w.heap.size + 1) #[.slice a' args'.length c', .int .i64 base'] 26) (fun i _ => args.length - (intOf i).toNat)
      case atStart => exact ⟨0, rfl, by omega, Hr.out, B2, z0, z1⟩
      case round =>
        clear B2 z0 z1 c0 c1
        obtain ⟨k, rfl, hk, hr, hb, hbox, hbox'⟩ := hrel
        have c0 : wr.cell? ⟨w.heap.size, 0, none⟩ = some (.slice a args.length c) := hbox.cell rfl
        have c0' : wr.cell? ⟨w.heap.size + 1, 0, none⟩ = some (.slice a' args'.length c') := hbox'.cell rfl
        have d0 : wr.cell? ⟨w.heap.size, 1, none⟩ = some (.int .i64 base) := hbox.cell rfl
        have d0' : wr.cell? ⟨w.heap.size + 1, 1, none⟩ = some (.int .i64 base') := hbox'.cell rfl
        have hlt0 := hbox'.lt
        by_cases hlt : k < args.length
        · have hlt' : k < args'.length := by rw [← Hll.out]; exact hlt
          obtain ⟨rfl, hF⟩ := ha (by omega)
          obtain ⟨rfl, hF'⟩ := ha' (by omega)
          have e1 : wr.cell? ⟨bl, off + k * 2, none⟩ = some (.slice (A k) (N k) (C k)) := (hw.below hb) _ _ _ hF (h1 k hlt)
          have e2 : wr.cell? ⟨bl, off + k * 2 + 1, none⟩ = some (.int .i64 (B k)) := (hw.below hb) _ _ _ hF (h2 k hlt)
          have e1' : wr.cell? ⟨bl', off' + k * 2, none⟩ = some (.slice (A' k) (N' k) (C' k)) := (hw'.below hb) _ _ _ hF' (h1' k hlt')
          have e2' : wr.cell? ⟨bl', off' + k * 2 + 1, none⟩ = some (.int .i64 (B' k)) := (hw'.below hb) _ _ _ hF' (h2' k hlt')
          have i0 : (0 : Int) ≤ (k : Int) := Int.natCast_nonneg _
          have i1 : (k : Int) < (args.length : Int) := by omega
          have i2 : (k : Int) < (args'.length : Int) := by omega
          have Hd := Lib.hid (Ty.cmps_drop hlt hlt')
          go_wp2_with fail
          refine wp_region_noPanic (wp_region_need (S := fun w' => w'.cell? ⟨w.heap.size, 0, none⟩ = some (.slice (some ⟨bl, off, none⟩) args.length c) ∧ w'.cell? ⟨w.heap.size + 1, 0, none⟩ = some (.slice (some ⟨bl', off', none⟩) args'.length c') ∧ w'.cell? ⟨bl, off + k * 2, none⟩ = some (.slice (A k) (N k) (C k)) ∧ w'.cell? ⟨bl, off + k * 2 + 1, none⟩ = some (.int .i64 (B k)) ∧ w'.cell? ⟨bl', off' + k * 2, none⟩ = some (.slice (A' k) (N' k) (C' k)) ∧ w'.cell? ⟨bl', off' + k * 2 + 1, none⟩ = some (.int .i64 (B' k))) (by kernel_rfl) ?_)
          have hS : (wr.drew).cell? ⟨w.heap.size, 0, none⟩ = some (.slice (some ⟨bl, off, none⟩) args.length c) ∧ (wr.drew).cell? ⟨w.heap.size + 1, 0, none⟩ = some (.slice (some ⟨bl', off', none⟩) args'.length c') ∧ (wr.drew).cell? ⟨bl, off + k * 2, none⟩ = some (.slice (A k) (N k) (C k)) ∧ (wr.drew).cell? ⟨bl, off + k * 2 + 1, none⟩ = some (.int .i64 (B k)) ∧ (wr.drew).cell? ⟨bl', off' + k * 2, none⟩ = some (.slice (A' k) (N' k) (C' k)) ∧ (wr.drew).cell? ⟨bl', off' + k * 2 + 1, none⟩ = some (.int .i64 (B' k)) := ⟨c0, c0', e1, e2, e1', e2'⟩
          refine wpN_take (i := 0) (v := ?v6) rfl (by kernel_rfl) (fun _ _ _ h => h) hS (Or.inl ⟨by rfl, ?hy6⟩) ?hr6
          case hy6 => (intro wS hSw; (try dsimp only at hSw); go_simp; (try with_reducible rfl))
          try simp only [Act.put, List.setIfInBounds_toArray, List.set_cons_zero, List.set_cons_succ, List.getElem_toArray, List.getElem_cons_zero, List.getElem_cons_succ]
          refine wpN_take (i := 1) (v := ?v7) rfl (by kernel_rfl) (fun _ _ _ h => h) hS (Or.inl ⟨by rfl, ?hy7⟩) ?hr7
          case hy7 => (intro wS hSw; (try dsimp only at hSw); go_simp; (try with_reducible rfl))
          try simp only [Act.put, List.setIfInBounds_toArray, List.set_cons_zero, List.set_cons_succ, List.getElem_toArray, List.getElem_cons_zero, List.getElem_cons_succ]
          refine wpN_take (i := 2) (v := ?v8) rfl (by kernel_rfl) (fun _ _ _ h => h) hS (Or.inl ⟨by rfl, ?hy8⟩) ?hr8
          case hy8 => (intro wS hSw; (try dsimp only at hSw); go_simp; (try with_reducible rfl))
          try simp only [Act.put, List.setIfInBounds_toArray, List.set_cons_zero, List.set_cons_succ, List.getElem_toArray, List.getElem_cons_zero, List.getElem_cons_succ]
          refine wpN_take (i := 3) (v := ?v9) rfl (by kernel_rfl) (fun _ _ _ h => h) hS (Or.inl ⟨by rfl, ?hy9⟩) ?hr9
          case hy9 => (intro wS hSw; (try dsimp only at hSw); go_simp; (try with_reducible rfl))
          try simp only [Act.put, List.setIfInBounds_toArray, List.set_cons_zero, List.set_cons_succ, List.getElem_toArray, List.getElem_cons_zero, List.getElem_cons_succ]
          refine wpN_take (i := 4) (v := ?v10) rfl (by kernel_rfl) (fun _ _ _ h => h) hS (Or.inl ⟨by rfl, ?hy10⟩) ?hr10
          case hy10 => (intro wS hSw; (try dsimp only at hSw); go_simp; (try with_reducible rfl))
          try simp only [Act.put, List.setIfInBounds_toArray, List.set_cons_zero, List.set_cons_succ, List.getElem_toArray, List.getElem_cons_zero, List.getElem_cons_succ]
          refine wpN_take (i := 5) (v := ?v11) rfl (by kernel_rfl) (fun _ _ _ h => h) hS (Or.inl ⟨by rfl, ?hy11⟩) ?hr11
          case hy11 => (intro wS hSw; (try dsimp only at hSw); go_simp; (try with_reducible rfl))
          try simp only [Act.put, List.setIfInBounds_toArray, List.set_cons_zero, List.set_cons_succ, List.getElem_toArray, List.getElem_cons_zero, List.getElem_cons_succ]
          refine wpN_take (i := 6) (v := ?v12) rfl (by kernel_rfl) (fun _ _ _ h => h) hS (Or.inl ⟨by rfl, ?hy12⟩) ?hr12
          case hy12 => (intro wS hSw; (try dsimp only at hSw); go_simp; (try with_reducible rfl))
          try simp only [Act.put, List.setIfInBounds_toArray, List.set_cons_zero, List.set_cons_succ, List.getElem_toArray, List.getElem_cons_zero, List.getElem_cons_succ]
          refine wpN_take (i := 7) (v := ?v13) rfl (by kernel_rfl) (fun _ _ _ h => h) hS (Or.inl ⟨by rfl, ?hy13⟩) ?hr13
          case hy13 => (intro wS hSw; (try dsimp only at hSw); go_simp; (try with_reducible rfl))
          try simp only [Act.put, List.setIfInBounds_toArray, List.set_cons_zero, List.set_cons_succ, List.getElem_toArray, List.getElem_cons_zero, List.getElem_cons_succ]
          refine wpN_take (i := 8) (v := ?v14) rfl (by kernel_rfl) (fun _ _ _ h => h) hS (Or.inl ⟨by rfl, ?hy14⟩) ?hr14
          case hy14 => (intro wS hSw; (try dsimp only at hSw); go_simp; (try with_reducible rfl))
          try simp only [Act.put, List.setIfInBounds_toArray, List.set_cons_zero, List.set_cons_succ, List.getElem_toArray, List.getElem_cons_zero, List.getElem_cons_succ]
          refine wpN_take (i := 9) (v := ?v15) rfl (by kernel_rfl) (fun _ _ _ h => h) hS (Or.inl ⟨by rfl, ?hy15⟩) ?hr15
          case hy15 => (intro wS hSw; (try dsimp only at hSw); go_simp; (try with_reducible rfl))
          try simp only [Act.put, List.setIfInBounds_toArray, List.set_cons_zero, List.set_cons_succ, List.getElem_toArray, List.getElem_cons_zero, List.getElem_cons_succ]
          refine wpN_step (i := 10) (by kernel_rfl) rfl (fun K hK => ?_)
          go_simp
          refine (H3.out k hlt hlt' _ (hw.below hb).drew (hw'.below hb).drew).mono ?_
          rintro e w1 ⟨rfl, hb1⟩
          have hB : Below w.heap.size w w1 := hb.drew.trans (hb1.mono (by simp; omega))
          have hKp : Keep (fun _ => True) wr w1 := ((Keep.refl _ _).drew).below hb1
          have hS : (w1).cell? ⟨w.heap.size, 0, none⟩ = some (.slice (some ⟨bl, off, none⟩) args.length c) ∧ (w1).cell? ⟨w.heap.size + 1, 0, none⟩ = some (.slice (some ⟨bl', off', none⟩) args'.length c') ∧ (w1).cell? ⟨bl, off + k * 2, none⟩ = some (.slice (A k) (N k) (C k)) ∧ (w1).cell? ⟨bl, off + k * 2 + 1, none⟩ = some (.int .i64 (B k)) ∧ (w1).cell? ⟨bl', off' + k * 2, none⟩ = some (.slice (A' k) (N' k) (C' k)) ∧ (w1).cell? ⟨bl', off' + k * 2 + 1, none⟩ = some (.int .i64 (B' k)) := ⟨hKp _ _ _ trivial c0, hKp _ _ _ trivial c0', hKp _ _ _ trivial e1, hKp _ _ _ trivial e2, hKp _ _ _ trivial e1', hKp _ _ _ trivial e2'⟩
          have hx := Blk.below (w := wr.drew) hbox hb1
          have hx' := Blk.below (w := wr.drew) hbox' hb1
          rw [Hd.out] at hr
          clear Hd
          generalize Ty.cmp args[k] args'[k] = x at *
          refine hK.out _ _ (fun _ => hS) ?_
          clear hK K
          try simp only [Act.put, List.setIfInBounds_toArray, List.set_cons_zero, List.set_cons_succ, List.getElem_toArray, List.getElem_cons_zero, List.getElem_cons_succ]
          refine wpN_step (i := 11) (by kernel_rfl) rfl (fun K hK => ?_)
          go_simp
          refine hK.out _ _ (fun h => absurd h (by decide)) ?_
          clear hK K
          try simp only [Act.put, List.setIfInBounds_toArray, List.set_cons_zero, List.set_cons_succ, List.getElem_toArray, List.getElem_cons_zero, List.getElem_cons_succ]
          refine wpN_done (by kernel_rfl) ?_
          refine NoPanic.normal ?_
          by_cases h0 : x = 0
          · subst h0
            go_wp2_with fail
            go_roundw
            case rel => exact ⟨k + 1, by go_num, by omega, by rw [orl_zero] at hr; exact hr, hB, hx, hx'⟩
            case measure => simp [intOf]; omega
          · have g1 : (x == 0) = false := by simpa using h0
            have g2 : (x != 0) = true := by simpa using h0
            go_wp2_with fail
            go_ret
            rw [orl_assoc, orl_ne h0] at hr
            exact ⟨by rw [hr.out]; rfl, hB⟩
        · have hr2 : Hid (r = sgn base base') := by
            have h := hr.out
            rw [List.drop_of_length_le (show args.length ≤ k by omega), Ty.cmps_nil, orl_zero] at h
            exact h
          go_wp2_with fail
          refine (sign_r _ _ _).mono ?_
          rintro e w5 ⟨rfl, hb5⟩
          go_wp2_with fail
          go_ret
          exact ⟨by rw [hr2.out]; rfl, hb.trans (hb5.mono hb.size)⟩
end Go.Proofs.Ytejpgifofkiofaa

