/-
  Whether two terms are the same, as the reference asks it.
-/
import Derived.Test.YtejpgifofkiofaaRowParts6p10
import Derived.Test.YtejpgifofkiofaaRowParts6p3
set_option linter.unusedVariables false
set_option linter.unusedSimpArgs false
namespace Go.Proofs.Ytejpgifofkiofaa
open Go.RowKit

theorem take_eq_end {α : Type} {l r : List α} {k : Nat} (h : l.take k = r.take k) (hk : l.length ≤ k) (hr : r.length ≤ k) : l = r := by
  rwa [List.take_of_length_le hk, List.take_of_length_le hr] at h

set_option maxRecDepth 100000 in
set_option maxHeartbeats 1600000 in
theorem types_r {F F' : Nat → Prop} {w0 w0' : World} {v v' : Value} {l l' : List Ty} (h : IsSl rpTy F w0 v l) (h' : IsSl rpTy F' w0' v' l') (w : World) (hw : Keep F w0 w) (hw' : Keep F' w0' w) :
    Calls Try.prog 85 #[v, v'] w (RetB (l = l') w) := by
  obtain ⟨a, c, rfl⟩ := sl_shape' h
  obtain ⟨a', c', rfl⟩ := sl_shape' h'
  obtain ⟨_, hm, bl, off, A, N, C, B, ha, h1, h2, h3⟩ := sl_cells' h
  obtain ⟨_, hm', bl', off', A', N', C', B', ha', h1', h2', h3'⟩ := sl_cells' h'
  clear h h'
  unfold maxLen at hm hm'
  have H3 := Lib.hid h3
  have H3' := Lib.hid h3'
  clear h3 h3'
  by_cases hll : l.length = l'.length
  rotate_left
  · have hli : ¬ (l.length : Int) = (l'.length : Int) := by omega
    have hg : ((l.length : Int) == (l'.length : Int)) = false := by simpa using hli
    have hg' : ((l.length : Int) != (l'.length : Int)) = true := by simpa using hli
    go_enter Try.func85, Try.ntmps85
    go_wp2_with fail
    go_ret
    refine ⟨false, ?_, rfl, Below.refl _ _⟩
    simp; intro h; rw [h] at hll; exact hll rfl
  have Hll := Lib.hid hll
  have hg : ((l.length : Int) == (l'.length : Int)) = true := by rw [hll]; simp
  have hg' : ((l.length : Int) != (l'.length : Int)) = false := by rw [hll]; simp
  clear hll
  go_enter Try.func85, Try.ntmps85
  go_wp2_with fail
  go_loopw [5] (fun i wr => ∃ k : Nat, i = .int .i64 k ∧ k ≤ l.length ∧ Hid (l.take k = l'.take k) ∧ Below w.heap.size w wr) (fun i _ => l.length - (intOf i).toNat)
  case atStart => exact ⟨0, rfl, by omega, rfl, Below.refl _ _⟩
  case round =>
    obtain ⟨k, rfl, hk, hall, hb⟩ := hrel
    have hsz := hb.size
    by_cases hlt : k < l.length
    · have hlt' : k < l'.length := by rw [← Hll.out]; exact hlt
      obtain ⟨rfl, hF⟩ := ha (by omega)
      obtain ⟨rfl, hF'⟩ := ha' (by omega)
      have e1 := (hw.below hb) _ _ _ hF (h1 k hlt)
      have e2 := (hw.below hb) _ _ _ hF (h2 k hlt)
      have e1' := (hw'.below hb) _ _ _ hF' (h1' k hlt')
      have e2' := (hw'.below hb) _ _ _ hF' (h2' k hlt')
      have i0 : (0 : Int) ≤ (k : Int) := Int.natCast_nonneg _
      have i1 : (k : Int) < (l.length : Int) := by omega
      have i2 : (k : Int) < (l'.length : Int) := by omega
      go_wp2_with fail
      refine wp_region_noPanic (wp_region_need (S := fun w' => w'.cell? ⟨bl, off + k * 2, none⟩ = some (.slice (A k) (N k) (C k)) ∧ w'.cell? ⟨bl, off + k * 2 + 1, none⟩ = some (.int .i64 (B k)) ∧ w'.cell? ⟨bl', off' + k * 2, none⟩ = some (.slice (A' k) (N' k) (C' k)) ∧ w'.cell? ⟨bl', off' + k * 2 + 1, none⟩ = some (.int .i64 (B' k))) (by kernel_rfl) ?_)
      have hS : (wr.drew).cell? ⟨bl, off + k * 2, none⟩ = some (.slice (A k) (N k) (C k)) ∧ (wr.drew).cell? ⟨bl, off + k * 2 + 1, none⟩ = some (.int .i64 (B k)) ∧ (wr.drew).cell? ⟨bl', off' + k * 2, none⟩ = some (.slice (A' k) (N' k) (C' k)) ∧ (wr.drew).cell? ⟨bl', off' + k * 2 + 1, none⟩ = some (.int .i64 (B' k)) := ⟨e1, e2, e1', e2'⟩
      refine wpN_take (i := 0) (v := ?v1) rfl (by kernel_rfl) (fun _ _ _ h => h) hS (Or.inl ⟨by rfl, ?hy1⟩) ?hr1
      case hy1 => (intro wS hSw; (try dsimp only at hSw); go_simp; (try with_reducible rfl))
      try simp only [Act.put, List.setIfInBounds_toArray, List.set_cons_zero, List.set_cons_succ, List.getElem_toArray, List.getElem_cons_zero, List.getElem_cons_succ]
      refine wpN_take (i := 1) (v := ?v2) rfl (by kernel_rfl) (fun _ _ _ h => h) hS (Or.inl ⟨by rfl, ?hy2⟩) ?hr2
      case hy2 => (intro wS hSw; (try dsimp only at hSw); go_simp; (try with_reducible rfl))
      try simp only [Act.put, List.setIfInBounds_toArray, List.set_cons_zero, List.set_cons_succ, List.getElem_toArray, List.getElem_cons_zero, List.getElem_cons_succ]
      refine wpN_take (i := 2) (v := ?v3) rfl (by kernel_rfl) (fun _ _ _ h => h) hS (Or.inl ⟨by rfl, ?hy3⟩) ?hr3
      case hy3 => (intro wS hSw; (try dsimp only at hSw); go_simp; (try with_reducible rfl))
      try simp only [Act.put, List.setIfInBounds_toArray, List.set_cons_zero, List.set_cons_succ, List.getElem_toArray, List.getElem_cons_zero, List.getElem_cons_succ]
      refine wpN_take (i := 3) (v := ?v4) rfl (by kernel_rfl) (fun _ _ _ h => h) hS (Or.inl ⟨by rfl, ?hy4⟩) ?hr4
      case hy4 => (intro wS hSw; (try dsimp only at hSw); go_simp; (try with_reducible rfl))
      try simp only [Act.put, List.setIfInBounds_toArray, List.set_cons_zero, List.set_cons_succ, List.getElem_toArray, List.getElem_cons_zero, List.getElem_cons_succ]
      refine wpN_take (i := 4) (v := ?v5) rfl (by kernel_rfl) (fun _ _ _ h => h) hS (Or.inl ⟨by rfl, ?hy5⟩) ?hr5
      case hy5 => (intro wS hSw; (try dsimp only at hSw); go_simp; (try with_reducible rfl))
      try simp only [Act.put, List.setIfInBounds_toArray, List.set_cons_zero, List.set_cons_succ, List.getElem_toArray, List.getElem_cons_zero, List.getElem_cons_succ]
      refine wpN_take (i := 5) (v := ?v6) rfl (by kernel_rfl) (fun _ _ _ h => h) hS (Or.inl ⟨by rfl, ?hy6⟩) ?hr6
      case hy6 => (intro wS hSw; (try dsimp only at hSw); go_simp; (try with_reducible rfl))
      try simp only [Act.put, List.setIfInBounds_toArray, List.set_cons_zero, List.set_cons_succ, List.getElem_toArray, List.getElem_cons_zero, List.getElem_cons_succ]
      refine wpN_take (i := 6) (v := ?v7) rfl (by kernel_rfl) (fun _ _ _ h => h) hS (Or.inl ⟨by rfl, ?hy7⟩) ?hr7
      case hy7 => (intro wS hSw; (try dsimp only at hSw); go_simp; (try with_reducible rfl))
      try simp only [Act.put, List.setIfInBounds_toArray, List.set_cons_zero, List.set_cons_succ, List.getElem_toArray, List.getElem_cons_zero, List.getElem_cons_succ]
      refine wpN_take (i := 7) (v := ?v8) rfl (by kernel_rfl) (fun _ _ _ h => h) hS (Or.inl ⟨by rfl, ?hy8⟩) ?hr8
      case hy8 => (intro wS hSw; (try dsimp only at hSw); go_simp; (try with_reducible rfl))
      try simp only [Act.put, List.setIfInBounds_toArray, List.set_cons_zero, List.set_cons_succ, List.getElem_toArray, List.getElem_cons_zero, List.getElem_cons_succ]
      refine wpN_step (i := 8) (by kernel_rfl) rfl (fun K hK => ?_)
      go_simp
      refine (same_r (H3.out k hlt) (H3'.out k hlt') _ (hw.below hb).drew (hw'.below hb).drew).mono ?_
      rintro e w1 ⟨r, hr, rfl, hb1⟩
      have hB : Below w.heap.size w w1 := hb.drew.trans (hb1.mono (by simp; omega))
      have hKp : Keep (fun _ => True) wr w1 := ((Keep.refl _ _).drew).below hb1
      have hS : (w1).cell? ⟨bl, off + k * 2, none⟩ = some (.slice (A k) (N k) (C k)) ∧ (w1).cell? ⟨bl, off + k * 2 + 1, none⟩ = some (.int .i64 (B k)) ∧ (w1).cell? ⟨bl', off' + k * 2, none⟩ = some (.slice (A' k) (N' k) (C' k)) ∧ (w1).cell? ⟨bl', off' + k * 2 + 1, none⟩ = some (.int .i64 (B' k)) := ⟨hKp _ _ _ trivial e1, hKp _ _ _ trivial e2, hKp _ _ _ trivial e1', hKp _ _ _ trivial e2'⟩
      cases r
      · have Hr := Lib.hid (no_of hr); clear hr
        refine hK.out _ _ (fun _ => hS) ?_
        clear hK K
        try simp only [Act.put, List.setIfInBounds_toArray, List.set_cons_zero, List.set_cons_succ, List.getElem_toArray, List.getElem_cons_zero, List.getElem_cons_succ]
        refine wpN_take (i := 9) (v := ?v9) rfl (by kernel_rfl) (fun _ _ _ h => h) hS (Or.inl ⟨by rfl, ?hy9⟩) ?hr9
        case hy9 => (intro wS hSw; (try dsimp only at hSw); go_simp; (try with_reducible rfl))
        try simp only [Act.put, List.setIfInBounds_toArray, List.set_cons_zero, List.set_cons_succ, List.getElem_toArray, List.getElem_cons_zero, List.getElem_cons_succ]
        refine wpN_done (by kernel_rfl) ?_
        refine NoPanic.normal ?_
        go_wp2_with fail
        go_ret
        refine ⟨false, ?_, rfl, hB⟩
        simp
        intro h
        subst h
        exact Hr.out rfl
      · have Hr := Lib.hid (yes_of hr); clear hr
        refine hK.out _ _ (fun _ => hS) ?_
        clear hK K
        try simp only [Act.put, List.setIfInBounds_toArray, List.set_cons_zero, List.set_cons_succ, List.getElem_toArray, List.getElem_cons_zero, List.getElem_cons_succ]
        refine wpN_take (i := 9) (v := ?v10) rfl (by kernel_rfl) (fun _ _ _ h => h) hS (Or.inl ⟨by rfl, ?hy10⟩) ?hr10
        case hy10 => (intro wS hSw; (try dsimp only at hSw); go_simp; (try with_reducible rfl))
        try simp only [Act.put, List.setIfInBounds_toArray, List.set_cons_zero, List.set_cons_succ, List.getElem_toArray, List.getElem_cons_zero, List.getElem_cons_succ]
        refine wpN_done (by kernel_rfl) ?_
        refine NoPanic.normal ?_
        go_wp2_with fail
        go_roundw
        case rel => exact ⟨k + 1, by go_num, by omega, take_eq_succ hlt hlt' hall.out Hr.out, hB⟩
        case measure => simp [intOf]; omega
    · go_wp2_with fail
      go_ret
      refine ⟨true, ?_, rfl, hb⟩
      have h := take_eq_end hall.out (by omega) (by have := Hll.out; omega)
      simp [h]

def SameTm (t : Tm) : Prop := ∀ (F : Nat → Prop) (w0 : World) (b k i a : Value), IsTm F w0 b k i a t → ∀ (F' : Nat → Prop) (w0' : World) (b' k' i' a' : Value) (u : Tm), IsTm F' w0' b' k' i' a' u → ∀ w : World, Keep F w0 w → Keep F' w0' w →
    Calls Try.prog 19 #[.agg #[b, k, i, a], .agg #[b', k', i', a']] w (RetB (t = u) w)

theorem tm_eq {b b' : List Ty} {k k' i i' : Int} {a a' : List Tm} : Tm.mk b k i a = Tm.mk b' k' i' a' ↔ b = b' ∧ k = k' ∧ i = i' ∧ a = a' := by simp

set_option maxRecDepth 100000 in
set_option maxHeartbeats 1600000 in
theorem same6_r : ∀ t : Tm, SameTm t := Tm.ind fun binds k i1 args ih => by
  intro F w0 b k0 i0 a ht F' w0' b' k0' i0' a' u hu w hw hw'
  obtain ⟨binds', k', i', args'⟩ := u
  obtain ⟨rfl, rfl, hb, hs⟩ := ht.inv
  obtain ⟨rfl, rfl, hb', hs'⟩ := hu.inv
  have Hty := Lib.hid fun (w : World) (hw : Keep F w0 w) (hw' : Keep F' w0' w) => types_r hb hb' w hw hw'
  obtain ⟨pa, pc, rfl⟩ := hb.shape
  obtain ⟨pa', pc', rfl⟩ := hb'.shape
  obtain ⟨a, c, rfl⟩ := hs.shape
  obtain ⟨a', c', rfl⟩ := hs'.shape
  obtain ⟨_, hm, bl, off, PA, A, PN, PC, N, C, Kd, Ix, ha, h1, h2, h3, h4, h5⟩ := sl_cells6 hs
  obtain ⟨_, hm', bl', off', PA', A', PN', PC', N', C', Kd', Ix', ha', h1', h2', h3', h4', h5'⟩ := sl_cells6 hs'
  clear hb hb' hs hs' ht hu
  unfold maxLen at hm hm'
  simp only [Tm.binds, Tm.kind, Tm.index, Tm.args] at *
  have H5 : Hid (∀ j (h : j < args.length) (h' : j < args'.length) (w : World), Keep F w0 w → Keep F' w0' w → Calls Try.prog 19 #[.agg #[.slice (PA j) (PN j) (PC j), .int .i64 (Kd j), .int .i64 (Ix j), .slice (A j) (N j) (C j)], .agg #[.slice (PA' j) (PN' j) (PC' j), .int .i64 (Kd' j), .int .i64 (Ix' j), .slice (A' j) (N' j) (C' j)]] w (RetB (args[j] = args'[j]) w)) :=
    fun j h h' w hw hw' => ih _ (List.getElem_mem h) _ _ _ _ _ _ (h5 j h) _ _ _ _ _ _ _ (h5' j h') w hw hw'
  clear h5 h5' ih
  obtain ⟨pr, hpr⟩ : ∃ pr : Prop, (Tm.mk binds k i1 args = Tm.mk binds' k' i' args') = pr := ⟨_, rfl⟩
  have Ht : Hid (pr ↔ binds = binds' ∧ k = k' ∧ i1 = i' ∧ args = args') := by rw [← hpr]; exact tm_eq
  rw [hpr]
  clear hpr
  by_cases hk : k = k'
  rotate_left
  · have hg : (k == k') = false := by simpa using hk
    have hg' : (k != k') = true := by simpa using hk
    go_enter Try.func19, Try.ntmps19
    go_wp2_with fail
    go_ret
    exact ⟨false, by rw [Ht.out]; simp [hk], rfl, ((Below.refl _ _).alloc (Nat.le_refl _) _).alloc (by simp) _⟩
  subst hk
  by_cases hi : i1 = i'
  rotate_left
  · have hg : (i1 == i') = false := by simpa using hi
    have hg' : (i1 != i') = true := by simpa using hi
    go_enter Try.func19, Try.ntmps19
    go_wp2_with fail
    go_ret
    exact ⟨false, by rw [Ht.out]; simp [hi], rfl, ((Below.refl _ _).alloc (Nat.le_refl _) _).alloc (by simp) _⟩
  subst hi
  by_cases hll : args.length = args'.length
  rotate_left
  · have hli : ¬ (args.length : Int) = (args'.length : Int) := by omega
    have hg : ((args.length : Int) == (args'.length : Int)) = false := by simpa using hli
    have hg' : ((args.length : Int) != (args'.length : Int)) = true := by simpa using hli
    go_enter Try.func19, Try.ntmps19
    go_wp2_with fail
    go_ret
    refine ⟨false, ?_, rfl, ((Below.refl _ _).alloc (Nat.le_refl _) _).alloc (by simp) _⟩
    rw [Ht.out]; simp; intro _ h; rw [h] at hll; exact hll rfl
  have Hll := Lib.hid hll
  have hg : ((args.length : Int) == (args'.length : Int)) = true := by rw [hll]; simp
  have hg' : ((args.length : Int) != (args'.length : Int)) = false := by rw [hll]; simp
  clear hll
  go_enter Try.func19, Try.ntmps19
  go_wp2_with fail
  have B2 := ((Below.refl w.heap.size w).alloc (Nat.le_refl _) (.cells #[.slice pa binds.length pc, .int .i64 k, .int .i64 i1, .slice a args.length c] 29)).alloc (by simp) (.cells #[.slice pa' binds'.length pc', .int .i64 k, .int .i64 i1, .slice a' args'.length c'] 29)
  have X0 := (Blk.new w #[.slice pa binds.length pc, .int .i64 k, .int .i64 i1, .slice a args.length c] 29 rfl).alloc (.cells #[.slice pa' binds'.length pc', .int .i64 k, .int .i64 i1, .slice a' args'.length c'] 29)
  have X1 := Blk.new (w.alloc (.cells #[.slice pa binds.length pc, .int .i64 k, .int .i64 i1, .slice a args.length c] 29)) #[.slice pa' binds'.length pc', .int .i64 k, .int .i64 i1, .slice a' args'.length c'] 29 (n := w.heap.size + 1) (by simp)
  refine (Hty.out _ (hw.below B2) (hw'.below B2)).mono ?_
  rintro e w3 ⟨r, hr, rfl, hb3⟩
  have B3 := B2.trans (hb3.mono (by simp; omega))
  have x0 := X0.below hb3
  have x1 := X1.below hb3
  clear X0 X1 B2 hb3
  have c0 : w3.cell? ⟨w.heap.size, 3, none⟩ = some (.slice a args.length c) := x0.cell rfl
  have c0' : w3.cell? ⟨w.heap.size + 1, 3, none⟩ = some (.slice a' args'.length c') := x1.cell rfl
  cases r
  · have Hr := Lib.hid (no_of hr); clear hr
    go_wp2_with fail
    go_ret
    exact ⟨false, by rw [Ht.out]; simp [Hr.out], rfl, B3⟩
  · have Hr := Lib.hid (yes_of hr); clear hr
    go_wp2_with fail
    go_loopw [5] (fun i wr => ∃ j : Nat, i = .int .i64 j ∧ j ≤ args.length ∧ Hid (args.take j = args'.take j) ∧ Below w.heap.size w wr ∧ Blk wr w.heap.size #[.slice pa binds.length pc, .int .i64 k, .int .i64 i1, .slice a args.length c] 29 ∧ Blk wr (w.heap.size + 1) #[.slice pa' binds'.length pc', .int .i64 k, .int .i64 i1, .slice a' args'.length c'] 29) (fun i _ => args.length - (intOf i).toNat)
    case atStart => exact ⟨0, rfl, by omega, rfl, B3, x0, x1⟩
    case round =>
      clear B3 x0 x1 c0 c0'
      obtain ⟨j, rfl, hj, hall, hb, hbox, hbox'⟩ := hrel
      have c0 : wr.cell? ⟨w.heap.size, 3, none⟩ = some (.slice a args.length c) := hbox.cell rfl
      have c0' : wr.cell? ⟨w.heap.size + 1, 3, none⟩ = some (.slice a' args'.length c') := hbox'.cell rfl
      have hlt0 := hbox'.lt
      by_cases hlt : j < args.length
      · have hlt' : j < args'.length := by rw [← Hll.out]; exact hlt
        obtain ⟨rfl, hF⟩ := ha (by omega)
        obtain ⟨rfl, hF'⟩ := ha' (by omega)
        have e1 := (hw.below hb) _ _ _ hF (h1 j hlt)
        have e2 := (hw.below hb) _ _ _ hF (h2 j hlt)
        have e3 := (hw.below hb) _ _ _ hF (h3 j hlt)
        have e4 := (hw.below hb) _ _ _ hF (h4 j hlt)
        have e1' := (hw'.below hb) _ _ _ hF' (h1' j hlt')
        have e2' := (hw'.below hb) _ _ _ hF' (h2' j hlt')
        have e3' := (hw'.below hb) _ _ _ hF' (h3' j hlt')
        have e4' := (hw'.below hb) _ _ _ hF' (h4' j hlt')
        have g0 : (0 : Int) ≤ (j : Int) := Int.natCast_nonneg _
        have g1 : (j : Int) < (args.length : Int) := by omega
        have g2 : (j : Int) < (args'.length : Int) := by omega
        go_wp2_with fail
        refine wp_region_noPanic (wp_region_need (S := fun w' => w'.cell? ⟨w.heap.size, 3, none⟩ = some (.slice (some ⟨bl, off, none⟩) args.length c) ∧ w'.cell? ⟨w.heap.size + 1, 3, none⟩ = some (.slice (some ⟨bl', off', none⟩) args'.length c') ∧ w'.cell? ⟨bl, off + j * 4, none⟩ = some (.slice (PA j) (PN j) (PC j)) ∧ w'.cell? ⟨bl, off + j * 4 + 1, none⟩ = some (.int .i64 (Kd j)) ∧ w'.cell? ⟨bl, off + j * 4 + 2, none⟩ = some (.int .i64 (Ix j)) ∧ w'.cell? ⟨bl, off + j * 4 + 3, none⟩ = some (.slice (A j) (N j) (C j)) ∧ w'.cell? ⟨bl', off' + j * 4, none⟩ = some (.slice (PA' j) (PN' j) (PC' j)) ∧ w'.cell? ⟨bl', off' + j * 4 + 1, none⟩ = some (.int .i64 (Kd' j)) ∧ w'.cell? ⟨bl', off' + j * 4 + 2, none⟩ = some (.int .i64 (Ix' j)) ∧ w'.cell? ⟨bl', off' + j * 4 + 3, none⟩ = some (.slice (A' j) (N' j) (C' j))) (by kernel_rfl) ?_)
        have hS : (wr.drew).cell? ⟨w.heap.size, 3, none⟩ = some (.slice (some ⟨bl, off, none⟩) args.length c) ∧ (wr.drew).cell? ⟨w.heap.size + 1, 3, none⟩ = some (.slice (some ⟨bl', off', none⟩) args'.length c') ∧ (wr.drew).cell? ⟨bl, off + j * 4, none⟩ = some (.slice (PA j) (PN j) (PC j)) ∧ (wr.drew).cell? ⟨bl, off + j * 4 + 1, none⟩ = some (.int .i64 (Kd j)) ∧ (wr.drew).cell? ⟨bl, off + j * 4 + 2, none⟩ = some (.int .i64 (Ix j)) ∧ (wr.drew).cell? ⟨bl, off + j * 4 + 3, none⟩ = some (.slice (A j) (N j) (C j)) ∧ (wr.drew).cell? ⟨bl', off' + j * 4, none⟩ = some (.slice (PA' j) (PN' j) (PC' j)) ∧ (wr.drew).cell? ⟨bl', off' + j * 4 + 1, none⟩ = some (.int .i64 (Kd' j)) ∧ (wr.drew).cell? ⟨bl', off' + j * 4 + 2, none⟩ = some (.int .i64 (Ix' j)) ∧ (wr.drew).cell? ⟨bl', off' + j * 4 + 3, none⟩ = some (.slice (A' j) (N' j) (C' j)) := ⟨c0, c0', e1, e2, e3, e4, e1', e2', e3', e4'⟩
        refine wpN_take (i := 0) (v := ?v11) rfl (by kernel_rfl) (fun _ _ _ h => h) hS (Or.inl ⟨by rfl, ?hy11⟩) ?hr11
        case hy11 => (intro wS hSw; (try dsimp only at hSw); go_simp; (try with_reducible rfl))
        try simp only [Act.put, List.setIfInBounds_toArray, List.set_cons_zero, List.set_cons_succ, List.getElem_toArray, List.getElem_cons_zero, List.getElem_cons_succ]
        refine wpN_take (i := 1) (v := ?v12) rfl (by kernel_rfl) (fun _ _ _ h => h) hS (Or.inl ⟨by rfl, ?hy12⟩) ?hr12
        case hy12 => (intro wS hSw; (try dsimp only at hSw); go_simp; (try with_reducible rfl))
        try simp only [Act.put, List.setIfInBounds_toArray, List.set_cons_zero, List.set_cons_succ, List.getElem_toArray, List.getElem_cons_zero, List.getElem_cons_succ]
        refine wpN_take (i := 2) (v := ?v13) rfl (by kernel_rfl) (fun _ _ _ h => h) hS (Or.inl ⟨by rfl, ?hy13⟩) ?hr13
        case hy13 => (intro wS hSw; (try dsimp only at hSw); go_simp; (try with_reducible rfl))
        try simp only [Act.put, List.setIfInBounds_toArray, List.set_cons_zero, List.set_cons_succ, List.getElem_toArray, List.getElem_cons_zero, List.getElem_cons_succ]
        refine wpN_take (i := 3) (v := ?v14) rfl (by kernel_rfl) (fun _ _ _ h => h) hS (Or.inl ⟨by rfl, ?hy14⟩) ?hr14
        case hy14 => (intro wS hSw; (try dsimp only at hSw); go_simp; (try with_reducible rfl))
        try simp only [Act.put, List.setIfInBounds_toArray, List.set_cons_zero, List.set_cons_succ, List.getElem_toArray, List.getElem_cons_zero, List.getElem_cons_succ]
        refine wpN_take (i := 4) (v := ?v15) rfl (by kernel_rfl) (fun _ _ _ h => h) hS (Or.inl ⟨by rfl, ?hy15⟩) ?hr15
        case hy15 => (intro wS hSw; (try dsimp only at hSw); go_simp; (try with_reducible rfl))
        try simp only [Act.put, List.setIfInBounds_toArray, List.set_cons_zero, List.set_cons_succ, List.getElem_toArray, List.getElem_cons_zero, List.getElem_cons_succ]
        refine wpN_take (i := 5) (v := ?v16) rfl (by kernel_rfl) (fun _ _ _ h => h) hS (Or.inl ⟨by rfl, ?hy16⟩) ?hr16
        case hy16 => (intro wS hSw; (try dsimp only at hSw); go_simp; (try with_reducible rfl))
        try simp only [Act.put, List.setIfInBounds_toArray, List.set_cons_zero, List.set_cons_succ, List.getElem_toArray, List.getElem_cons_zero, List.getElem_cons_succ]
        refine wpN_take (i := 6) (v := ?v17) rfl (by kernel_rfl) (fun _ _ _ h => h) hS (Or.inl ⟨by rfl, ?hy17⟩) ?hr17
        case hy17 => (intro wS hSw; (try dsimp only at hSw); go_simp; (try with_reducible rfl))
        try simp only [Act.put, List.setIfInBounds_toArray, List.set_cons_zero, List.set_cons_succ, List.getElem_toArray, List.getElem_cons_zero, List.getElem_cons_succ]
        refine wpN_take (i := 7) (v := ?v18) rfl (by kernel_rfl) (fun _ _ _ h => h) hS (Or.inl ⟨by rfl, ?hy18⟩) ?hr18
        case hy18 => (intro wS hSw; (try dsimp only at hSw); go_simp; (try with_reducible rfl))
        try simp only [Act.put, List.setIfInBounds_toArray, List.set_cons_zero, List.set_cons_succ, List.getElem_toArray, List.getElem_cons_zero, List.getElem_cons_succ]
        refine wpN_take (i := 8) (v := ?v19) rfl (by kernel_rfl) (fun _ _ _ h => h) hS (Or.inl ⟨by rfl, ?hy19⟩) ?hr19
        case hy19 => (intro wS hSw; (try dsimp only at hSw); go_simp; (try with_reducible rfl))
        try simp only [Act.put, List.setIfInBounds_toArray, List.set_cons_zero, List.set_cons_succ, List.getElem_toArray, List.getElem_cons_zero, List.getElem_cons_succ]
        refine wpN_take (i := 9) (v := ?v20) rfl (by kernel_rfl) (fun _ _ _ h => h) hS (Or.inl ⟨by rfl, ?hy20⟩) ?hr20
        case hy20 => (intro wS hSw; (try dsimp only at hSw); go_simp; (try with_reducible rfl))
        try simp only [Act.put, List.setIfInBounds_toArray, List.set_cons_zero, List.set_cons_succ, List.getElem_toArray, List.getElem_cons_zero, List.getElem_cons_succ]
        refine wpN_step (i := 10) (by kernel_rfl) rfl (fun K hK => ?_)
        go_simp
        refine (H5.out j hlt hlt' _ (hw.below hb).drew (hw'.below hb).drew).mono ?_
        rintro e w1 ⟨r, hr, rfl, hb1⟩
        have hB : Below w.heap.size w w1 := hb.drew.trans (hb1.mono (by simp; omega))
        have hKp : Keep (fun _ => True) wr w1 := ((Keep.refl _ _).drew).below hb1
        have hS : (w1).cell? ⟨w.heap.size, 3, none⟩ = some (.slice (some ⟨bl, off, none⟩) args.length c) ∧ (w1).cell? ⟨w.heap.size + 1, 3, none⟩ = some (.slice (some ⟨bl', off', none⟩) args'.length c') ∧ (w1).cell? ⟨bl, off + j * 4, none⟩ = some (.slice (PA j) (PN j) (PC j)) ∧ (w1).cell? ⟨bl, off + j * 4 + 1, none⟩ = some (.int .i64 (Kd j)) ∧ (w1).cell? ⟨bl, off + j * 4 + 2, none⟩ = some (.int .i64 (Ix j)) ∧ (w1).cell? ⟨bl, off + j * 4 + 3, none⟩ = some (.slice (A j) (N j) (C j)) ∧ (w1).cell? ⟨bl', off' + j * 4, none⟩ = some (.slice (PA' j) (PN' j) (PC' j)) ∧ (w1).cell? ⟨bl', off' + j * 4 + 1, none⟩ = some (.int .i64 (Kd' j)) ∧ (w1).cell? ⟨bl', off' + j * 4 + 2, none⟩ = some (.int .i64 (Ix' j)) ∧ (w1).cell? ⟨bl', off' + j * 4 + 3, none⟩ = some (.slice (A' j) (N' j) (C' j)) := ⟨hKp _ _ _ trivial c0, hKp _ _ _ trivial c0', hKp _ _ _ trivial e1, hKp _ _ _ trivial e2, hKp _ _ _ trivial e3, hKp _ _ _ trivial e4, hKp _ _ _ trivial e1', hKp _ _ _ trivial e2', hKp _ _ _ trivial e3', hKp _ _ _ trivial e4'⟩
        have hx := Blk.below (w := wr.drew) hbox hb1
        have hx' := Blk.below (w := wr.drew) hbox' hb1
        cases r
        · have Hr2 := Lib.hid (no_of hr); clear hr
          refine hK.out _ _ (fun _ => hS) ?_
          clear hK K
          try simp only [Act.put, List.setIfInBounds_toArray, List.set_cons_zero, List.set_cons_succ, List.getElem_toArray, List.getElem_cons_zero, List.getElem_cons_succ]
          refine wpN_take (i := 11) (v := ?v21) rfl (by kernel_rfl) (fun _ _ _ h => h) hS (Or.inl ⟨by rfl, ?hy21⟩) ?hr21
          case hy21 => (intro wS hSw; (try dsimp only at hSw); go_simp; (try with_reducible rfl))
          try simp only [Act.put, List.setIfInBounds_toArray, List.set_cons_zero, List.set_cons_succ, List.getElem_toArray, List.getElem_cons_zero, List.getElem_cons_succ]
          refine wpN_done (by kernel_rfl) ?_
          refine NoPanic.normal ?_
          go_wp2_with fail
          go_ret
          refine ⟨false, ?_, rfl, hB⟩
          rw [Ht.out]
          simp
          intro _ h
          subst h
          exact Hr2.out rfl
        · have Hr2 := Lib.hid (yes_of hr); clear hr
          refine hK.out _ _ (fun _ => hS) ?_
          clear hK K
          try simp only [Act.put, List.setIfInBounds_toArray, List.set_cons_zero, List.set_cons_succ, List.getElem_toArray, List.getElem_cons_zero, List.getElem_cons_succ]
          refine wpN_take (i := 11) (v := ?v22) rfl (by kernel_rfl) (fun _ _ _ h => h) hS (Or.inl ⟨by rfl, ?hy22⟩) ?hr22
          case hy22 => (intro wS hSw; (try dsimp only at hSw); go_simp; (try with_reducible rfl))
          try simp only [Act.put, List.setIfInBounds_toArray, List.set_cons_zero, List.set_cons_succ, List.getElem_toArray, List.getElem_cons_zero, List.getElem_cons_succ]
          refine wpN_done (by kernel_rfl) ?_
          refine NoPanic.normal ?_
          go_wp2_with fail
          go_roundw
          case rel => exact ⟨j + 1, by go_num, by omega, take_eq_succ hlt hlt' hall.out Hr2.out, hB, hx, hx'⟩
          case measure => simp [intOf]; omega
      · go_wp2_with fail
        go_ret
        refine ⟨true, ?_, rfl, hb⟩
        have h := take_eq_end hall.out (by omega) (by have := Hll.out; omega)
        rw [Ht.out]
        simp [h, Hr.out]
end Go.Proofs.Ytejpgifofkiofaa

