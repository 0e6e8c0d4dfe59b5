/-
  Whether two terms are the same, as the reference asks it. Long forms and their heads, as the reference tells them.
-/
import Derived.Test.YtejpgifofkiofaaRowEachp6
import Derived.Test.YtejpgifofkiofaaRowEachp2
import Derived.Test.YtejpgifofkiofaaRowEachp8
set_option linter.unusedVariables false
set_option linter.unusedSimpArgs false
namespace Go.Proofs.Ytejpgifofkiofaa
open Go.RowKit

theorem take_eq_end {α : Type} {l r : List α} {k : Nat} (h : l.take k = r.take k) (hk : l.length ≤ k) (hr : r.length ≤ k) : l = r := by
  rwa [List.take_of_length_le hk, List.take_of_length_le hr] at h

set_option maxRecDepth 100000 in
set_option maxHeartbeats 1600000 in
theorem types_r {F F' : Nat → Prop} {w0 w0' : World} {v v' : Value} {l l' : List Ty} (h : IsSl rpTy F w0 v l) (h' : IsSl rpTy F' w0' v' l') (w : World) (hw : Keep F w0 w) (hw' : Keep F' w0' w) :
    Calls Try.prog 85 #[v, v'] w (RetB (l = l') w) := by
  obtain ⟨a, c, rfl⟩ := sl_shape' h
  obtain ⟨a', c', rfl⟩ := sl_shape' h'
  obtain ⟨_, hm, bl, off, A, N, C, B, ha, h1, h2, h3⟩ := sl_cells' h
  obtain ⟨_, hm', bl', off', A', N', C', B', ha', h1', h2', h3'⟩ := sl_cells' h'
  clear h h'
  unfold maxLen at hm hm'
  have H3 := Lib.hid h3
  have H3' := Lib.hid h3'
  clear h3 h3'
  by_cases hll : l.length = l'.length
  rotate_left
  · have hli : ¬ (l.length : Int) = (l'.length : Int) := by omega
    have hg : ((l.length : Int) == (l'.length : Int)) = false := by simpa using hli
    have hg' : ((l.length : Int) != (l'.length : Int)) = true := by simpa using hli
    go_enter Try.func85, Try.ntmps85
    go_wp2_with fail
    go_ret
    refine ⟨false, ?_, rfl, Below.refl _ _⟩
    simp; intro h; rw [h] at hll; exact hll rfl
  have Hll := Lib.hid hll
  have hg : ((l.length : Int) == (l'.length : Int)) = true := by rw [hll]; simp
  have hg' : ((l.length : Int) != (l'.length : Int)) = false := by rw [hll]; simp
  clear hll
  go_enter Try.func85, Try.ntmps85
  go_wp2_with fail
  go_loopw [5] (fun i wr => ∃ k : Nat, i = .int .i64 k ∧ k ≤ l.length ∧ Hid (l.take k = l'.take k) ∧ Below w.heap.size w wr) (fun i _ => l.length - (intOf i).toNat)
  case atStart => exact ⟨0, rfl, by omega, rfl, Below.refl _ _⟩
  case round =>
    obtain ⟨k, rfl, hk, hall, hb⟩ := hrel
    have hsz := hb.size
    by_cases hlt : k < l.length
    · have hlt' : k < l'.length := by rw [← Hll.out]; exact hlt
      obtain ⟨rfl, hF⟩ := ha (by omega)
      obtain ⟨rfl, hF'⟩ := ha' (by omega)
      have e1 := (hw.below hb) _ _ _ hF (h1 k hlt)
      have e2 := (hw.below hb) _ _ _ hF (h2 k hlt)
      have e1' := (hw'.below hb) _ _ _ hF' (h1' k hlt')
      have e2' := (hw'.below hb) _ _ _ hF' (h2' k hlt')
      have i0 : (0 : Int) ≤ (k : Int) := Int.natCast_nonneg _
      have i1 : (k : Int) < (l.length : Int) := by omega
      have i2 : (k : Int) < (l'.length : Int) := by omega
      go_wp2_with fail
      refine wp_region_noPanic (wp_region_need (S := fun w' => w'.cell? ⟨bl, off + k * 2, none⟩ = some (.slice (A k) (N k) (C k)) ∧ w'.cell? ⟨bl, off + k * 2 + 1, none⟩ = some (.int .i64 (B k)) ∧ w'.cell? ⟨bl', off' + k * 2, none⟩ = some (.slice (A' k) (N' k) (C' k)) ∧ w'.cell? ⟨bl', off' + k * 2 + 1, none⟩ = some (.int .i64 (B' k))) (by kernel_rfl) ?_)
      have hS : (wr.drew).cell? ⟨bl, off + k * 2, none⟩ = some (.slice (A k) (N k) (C k)) ∧ (wr.drew).cell? ⟨bl, off + k * 2 + 1, none⟩ = some (.int .i64 (B k)) ∧ (wr.drew).cell? ⟨bl', off' + k * 2, none⟩ = some (.slice (A' k) (N' k) (C' k)) ∧ (wr.drew).cell? ⟨bl', off' + k * 2 + 1, none⟩ = some (.int .i64 (B' k)) := ⟨e1, e2, e1', e2'⟩
      refine wpN_take (i := 0) (v := ?v1) rfl (by kernel_rfl) (fun _ _ _ h => h) hS (Or.inl ⟨by rfl, ?hy1⟩) ?hr1
      case hy1 => (intro wS hSw; (try dsimp only at hSw); go_simp; (try with_reducible rfl))
      try simp only [Act.put, List.setIfInBounds_toArray, List.set_cons_zero, List.set_cons_succ, List.getElem_toArray, List.getElem_cons_zero, List.getElem_cons_succ]
      refine wpN_take (i := 1) (v := ?v2) rfl (by kernel_rfl) (fun _ _ _ h => h) hS (Or.inl ⟨by rfl, ?hy2⟩) ?hr2
      case hy2 => (intro wS hSw; (try dsimp only at hSw); go_simp; (try with_reducible rfl))
      try simp only [Act.put, List.setIfInBounds_toArray, List.set_cons_zero, List.set_cons_succ, List.getElem_toArray, List.getElem_cons_zero, List.getElem_cons_succ]
      refine wpN_take (i := 2) (v := ?v3) rfl (by kernel_rfl) (fun _ _ _ h => h) hS (Or.inl ⟨by rfl, ?hy3⟩) ?hr3
      case hy3 => (intro wS hSw; (try dsimp only at hSw); go_simp; (try with_reducible rfl))
      try simp only [Act.put, List.setIfInBounds_toArray, List.set_cons_zero, List.set_cons_succ, List.getElem_toArray, List.getElem_cons_zero, List.getElem_cons_succ]
      refine wpN_take (i := 3) (v := ?v4) rfl (by kernel_rfl) (fun _ _ _ h => h) hS (Or.inl ⟨by rfl, ?hy4⟩) ?hr4
      case hy4 => (intro wS hSw; (try dsimp only at hSw); go_simp; (try with_reducible rfl))
      try simp only [Act.put, List.setIfInBounds_toArray, List.set_cons_zero, List.set_cons_succ, List.getElem_toArray, List.getElem_cons_zero, List.getElem_cons_succ]
      refine wpN_take (i := 4) (v := ?v5) rfl (by kernel_rfl) (fun _ _ _ h => h) hS (Or.inl ⟨by rfl, ?hy5⟩) ?hr5
      case hy5 => (intro wS hSw; (try dsimp only at hSw); go_simp; (try with_reducible rfl))
      try simp only [Act.put, List.setIfInBounds_toArray, List.set_cons_zero, List.set_cons_succ, List.getElem_toArray, List.getElem_cons_zero, List.getElem_cons_succ]
      refine wpN_take (i := 5) (v := ?v6) rfl (by kernel_rfl) (fun _ _ _ h => h) hS (Or.inl ⟨by rfl, ?hy6⟩) ?hr6
      case hy6 => (intro wS hSw; (try dsimp only at hSw); go_simp; (try with_reducible rfl))
      try simp only [Act.put, List.setIfInBounds_toArray, List.set_cons_zero, List.set_cons_succ, List.getElem_toArray, List.getElem_cons_zero, List.getElem_cons_succ]
      refine wpN_take (i := 6) (v := ?v7) rfl (by kernel_rfl) (fun _ _ _ h => h) hS (Or.inl ⟨by rfl, ?hy7⟩) ?hr7
      case hy7 => (intro wS hSw; (try dsimp only at hSw); go_simp; (try with_reducible rfl))
      try simp only [Act.put, List.setIfInBounds_toArray, List.set_cons_zero, List.set_cons_succ, List.getElem_toArray, List.getElem_cons_zero, List.getElem_cons_succ]
      refine wpN_take (i := 7) (v := ?v8) rfl (by kernel_rfl) (fun _ _ _ h => h) hS (Or.inl ⟨by rfl, ?hy8⟩) ?hr8
      case hy8 => (intro wS hSw; (try dsimp only at hSw); go_simp; (try with_reducible rfl))
      try simp only [Act.put, List.setIfInBounds_toArray, List.set_cons_zero, List.set_cons_succ, List.getElem_toArray, List.getElem_cons_zero, List.getElem_cons_succ]
      refine wpN_step (i := 8) (by kernel_rfl) rfl (fun K hK => ?_)
      go_simp
      refine (same_r (H3.out k hlt) (H3'.out k hlt') _ (hw.below hb).drew (hw'.below hb).drew).mono ?_
      rintro e w1 ⟨r, hr, rfl, hb1⟩
      have hB : Below w.heap.size w w1 := hb.drew.trans (hb1.mono (by simp; omega))
      have hKp : Keep (fun _ => True) wr w1 := ((Keep.refl _ _).drew).below hb1
      have hS : (w1).cell? ⟨bl, off + k * 2, none⟩ = some (.slice (A k) (N k) (C k)) ∧ (w1).cell? ⟨bl, off + k * 2 + 1, none⟩ = some (.int .i64 (B k)) ∧ (w1).cell? ⟨bl', off' + k * 2, none⟩ = some (.slice (A' k) (N' k) (C' k)) ∧ (w1).cell? ⟨bl', off' + k * 2 + 1, none⟩ = some (.int .i64 (B' k)) := ⟨hKp _ _ _ trivial e1, hKp _ _ _ trivial e2, hKp _ _ _ trivial e1', hKp _ _ _ trivial e2'⟩
      cases r
      · have Hr := Lib.hid (no_of hr); clear hr
        refine hK.out _ _ (fun _ => hS) ?_
        clear hK K
        try simp only [Act.put, List.setIfInBounds_toArray, List.set_cons_zero, List.set_cons_succ, List.getElem_toArray, List.getElem_cons_zero, List.getElem_cons_succ]
        refine wpN_take (i := 9) (v := ?v9) rfl (by kernel_rfl) (fun _ _ _ h => h) hS (Or.inl ⟨by rfl, ?hy9⟩) ?hr9
        case hy9 => (intro wS hSw; (try dsimp only at hSw); go_simp; (try with_reducible rfl))
        try simp only [Act.put, List.setIfInBounds_toArray, List.set_cons_zero, List.set_cons_succ, List.getElem_toArray, List.getElem_cons_zero, List.getElem_cons_succ]
        refine wpN_done (by kernel_rfl) ?_
        refine NoPanic.normal ?_
        go_wp2_with fail
        go_ret
        refine ⟨false, ?_, rfl, hB⟩
        simp
        intro h
        subst h
        exact Hr.out rfl
      · have Hr := Lib.hid (yes_of hr); clear hr
        refine hK.out _ _ (fun _ => hS) ?_
        clear hK K
        try simp only [Act.put, List.setIfInBounds_toArray, List.set_cons_zero, List.set_cons_succ, List.getElem_toArray, List.getElem_cons_zero, List.getElem_cons_succ]
        refine wpN_take (i := 9) (v := ?v10) rfl (by kernel_rfl) (fun _ _ _ h => h) hS (Or.inl ⟨by rfl, ?hy10⟩) ?hr10
        case hy10 => (intro wS hSw; (try dsimp only at hSw); go_simp; (try with_reducible rfl))
        try simp only [Act.put, List.setIfInBounds_toArray, List.set_cons_zero, List.set_cons_succ, List.getElem_toArray, List.getElem_cons_zero, List.getElem_cons_succ]
        refine wpN_done (by kernel_rfl) ?_
        refine NoPanic.normal ?_
        go_wp2_with fail
        go_roundw
        case rel => exact ⟨k + 1, by go_num, by omega, take_eq_succ hlt hlt' hall.out Hr.out, hB⟩
        case measure => simp [intOf]; omega
    · go_wp2_with fail
      go_ret
      refine ⟨true, ?_, rfl, hb⟩
      have h := take_eq_end hall.out (by omega) (by have := Hll.out; omega)
      simp [h]

def SameTm (t : Tm) : Prop := ∀ (F : Nat → Prop) (w0 : World) (b k i a : Value), IsTm F w0 b k i a t → ∀ (F' : Nat → Prop) (w0' : World) (b' k' i' a' : Value) (u : Tm), IsTm F' w0' b' k' i' a' u → ∀ w : World, Keep F w0 w → Keep F' w0' w →
    Calls Try.prog 19 #[.agg #[b, k, i, a], .agg #[b', k', i', a']] w (RetB (t = u) w)

theorem tm_eq {b b' : List Ty} {k k' i i' : Int} {a a' : List Tm} : Tm.mk b k i a = Tm.mk b' k' i' a' ↔ b = b' ∧ k = k' ∧ i = i' ∧ a = a' := by simp

set_option maxRecDepth 100000 in
set_option maxHeartbeats 1600000 in
theorem same6_r : ∀ t : Tm, SameTm t := Tm.ind fun binds k i1 args ih => by
  intro F w0 b k0 i0 a ht F' w0' b' k0' i0' a' u hu w hw hw'
  obtain ⟨binds', k', i', args'⟩ := u
  obtain ⟨rfl, rfl, hb, hs⟩ := ht.inv
  obtain ⟨rfl, rfl, hb', hs'⟩ := hu.inv
  have Hty := Lib.hid fun (w : World) (hw : Keep F w0 w) (hw' : Keep F' w0' w) => types_r hb hb' w hw hw'
  obtain ⟨pa, pc, rfl⟩ := hb.shape
  obtain ⟨pa', pc', rfl⟩ := hb'.shape
  obtain ⟨a, c, rfl⟩ := hs.shape
  obtain ⟨a', c', rfl⟩ := hs'.shape
  obtain ⟨_, hm, bl, off, PA, A, PN, PC, N, C, Kd, Ix, ha, h1, h2, h3, h4, h5⟩ := sl_cells6 hs
  obtain ⟨_, hm', bl', off', PA', A', PN', PC', N', C', Kd', Ix', ha', h1', h2', h3', h4', h5'⟩ := sl_cells6 hs'
  clear hb hb' hs hs' ht hu
  unfold maxLen at hm hm'
  simp only [Tm.binds, Tm.kind, Tm.index, Tm.args] at *
  have H5 : Hid (∀ j (h : j < args.length) (h' : j < args'.length) (w : World), Keep F w0 w → Keep F' w0' w → Calls Try.prog 19 #[.agg #[.slice (PA j) (PN j) (PC j), .int .i64 (Kd j), .int .i64 (Ix j), .slice (A j) (N j) (C j)], .agg #[.slice (PA' j) (PN' j) (PC' j), .int .i64 (Kd' j), .int .i64 (Ix' j), .slice (A' j) (N' j) (C' j)]] w (RetB (args[j] = args'[j]) w)) :=
    fun j h h' w hw hw' => ih _ (List.getElem_mem h) _ _ _ _ _ _ (h5 j h) _ _ _ _ _ _ _ (h5' j h') w hw hw'
  clear h5 h5' ih
  obtain ⟨pr, hpr⟩ : ∃ pr : Prop, (Tm.mk binds k i1 args = Tm.mk binds' k' i' args') = pr := ⟨_, rfl⟩
  have Ht : Hid (pr ↔ binds = binds' ∧ k = k' ∧ i1 = i' ∧ args = args') := by rw [← hpr]; exact tm_eq
  rw [hpr]
  clear hpr
  by_cases hk : k = k'
  rotate_left
  · have hg : (k == k') = false := by simpa using hk
    have hg' : (k != k') = true := by simpa using hk
    go_enter Try.func19, Try.ntmps19
    go_wp2_with fail
    go_ret
    exact ⟨false, by rw [Ht.out]; simp [hk], rfl, ((Below.refl _ _).alloc (Nat.le_refl _) _).alloc (by simp) _⟩
  subst hk
  by_cases hi : i1 = i'
  rotate_left
  · have hg : (i1 == i') = false := by simpa using hi
    have hg' : (i1 != i') = true := by simpa using hi
    go_enter Try.func19, Try.ntmps19
    go_wp2_with fail
    go_ret
    exact ⟨false, by rw [Ht.out]; simp [hi], rfl, ((Below.refl _ _).alloc (Nat.le_refl _) _).alloc (by simp) _⟩
  subst hi
  by_cases hll : args.length = args'.length
  rotate_left
  · have hli : ¬ (args.length : Int) = (args'.length : Int) := by omega
    have hg : ((args.length : Int) == (args'.length : Int)) = false := by simpa using hli
    have hg' : ((args.length : Int) != (args'.length : Int)) = true := by simpa using hli
    go_enter Try.func19, Try.ntmps19
    go_wp2_with fail
    go_ret
    refine ⟨false, ?_, rfl, ((Below.refl _ _).alloc (Nat.le_refl _) _).alloc (by simp) _⟩
    rw [Ht.out]; simp; intro _ h; rw [h] at hll; exact hll rfl
  have Hll := Lib.hid hll
  have hg : ((args.length : Int) == (args'.length : Int)) = true := by rw [hll]; simp
  have hg' : ((args.length : Int) != (args'.length : Int)) = false := by rw [hll]; simp
  clear hll
  go_enter Try.func19, Try.ntmps19
  go_wp2_with fail
  have B2 := ((Below.refl w.heap.size w).alloc (Nat.le_refl _) (.cells #[.slice pa binds.length pc, .int .i64 k, .int .i64 i1, .slice a args.length c] 29)).alloc (by simp) (.cells #[.slice pa' binds'.length pc', .int .i64 k, .int .i64 i1, .slice a' args'.length c'] 29)
  have X0 := (Blk.new w #[.slice pa binds.length pc, .int .i64 k, .int .i64 i1, .slice a args.length c] 29 rfl).alloc (.cells #[.slice pa' binds'.length pc', .int .i64 k, .int .i64 i1, .slice a' args'.length c'] 29)
  have X1 := Blk.new (w.alloc (.cells #[.slice pa binds.length pc, .int .i64 k, .int .i64 i1, .slice a args.length c] 29)) #[.slice pa' binds'.length pc', .int .i64 k, .int .i64 i1, .slice a' args'.length c'] 29 (n := w.heap.size + 1) (by simp)
  refine (Hty.out _ (hw.below B2) (hw'.below B2)).mono ?_
  rintro e w3 ⟨r, hr, rfl, hb3⟩
  have B3 := B2.trans (hb3.mono (by simp; omega))
  have x0 := X0.below hb3
  have x1 := X1.below hb3
  clear X0 X1 B2 hb3
  have c0 : w3.cell? ⟨w.heap.size, 3, none⟩ = some (.slice a args.length c) := x0.cell rfl
  have c0' : w3.cell? ⟨w.heap.size + 1, 3, none⟩ = some (.slice a' args'.length c') := x1.cell rfl
  cases r
  · have Hr := Lib.hid (no_of hr); clear hr
    go_wp2_with fail
    go_ret
    exact ⟨false, by rw [Ht.out]; simp [Hr.out], rfl, B3⟩
  · have Hr := Lib.hid (yes_of hr); clear hr
    go_wp2_with fail
    go_loopw [5] (fun i wr => ∃ j : Nat, i = .int .i64 j ∧ j ≤ args.length ∧ Hid (args.take j = args'.take j) ∧ Below w.heap.size w wr ∧ Blk wr w.heap.size #[.slice pa binds.length pc, .int .i64 k, .int .i64 i1, .slice a args.length c] 29 ∧ Blk wr (w.heap.size + 1) #[.slice pa' binds'.length pc', .int .i64 k, .int .i64 i1, .slice a' args'.length c'] 29) (fun i _ => args.length - (intOf i).toNat)
    case atStart => exact ⟨0, rfl, by omega, rfl, B3, x0, x1⟩
    case round =>
      clear B3 x0 x1 c0 c0'
      obtain ⟨j, rfl, hj, hall, hb, hbox, hbox'⟩ := hrel
      have c0 : wr.cell? ⟨w.heap.size, 3, none⟩ = some (.slice a args.length c) := hbox.cell rfl
      have c0' : wr.cell? ⟨w.heap.size + 1, 3, none⟩ = some (.slice a' args'.length c') := hbox'.cell rfl
      have hlt0 := hbox'.lt
      by_cases hlt : j < args.length
      · have hlt' : j < args'.length := by rw [← Hll.out]; exact hlt
        obtain ⟨rfl, hF⟩ := ha (by omega)
        obtain ⟨rfl, hF'⟩ := ha' (by omega)
        have e1 := (hw.below hb) _ _ _ hF (h1 j hlt)
        have e2 := (hw.below hb) _ _ _ hF (h2 j hlt)
        have e3 := (hw.below hb) _ _ _ hF (h3 j hlt)
        have e4 := (hw.below hb) _ _ _ hF (h4 j hlt)
        have e1' := (hw'.below hb) _ _ _ hF' (h1' j hlt')
        have e2' := (hw'.below hb) _ _ _ hF' (h2' j hlt')
        have e3' := (hw'.below hb) _ _ _ hF' (h3' j hlt')
        have e4' := (hw'.below hb) _ _ _ hF' (h4' j hlt')
        have g0 : (0 : Int) ≤ (j : Int) := Int.natCast_nonneg _
        have g1 : (j : Int) < (args.length : Int) := by omega
        have g2 : (j : Int) < (args'.length : Int) := by omega
        go_wp2_with fail
        refine wp_region_noPanic (wp_region_need (S := fun w' => w'.cell? ⟨w.heap.size, 3, none⟩ = some (.slice (some ⟨bl, off, none⟩) args.length c) ∧ w'.cell? ⟨w.heap.size + 1, 3, none⟩ = some (.slice (some ⟨bl', off', none⟩) args'.length c') ∧ w'.cell? ⟨bl, off + j * 4, none⟩ = some (.slice (PA j) (PN j) (PC j)) ∧ w'.cell? ⟨bl, off + j * 4 + 1, none⟩ = some (.int .i64 (Kd j)) ∧ w'.cell? ⟨bl, off + j * 4 + 2, none⟩ = some (.int .i64 (Ix j)) ∧ w'.cell? ⟨bl, off + j * 4 + 3, none⟩ = some (.slice (A j) (N j) (C j)) ∧ w'.cell? ⟨bl', off' + j * 4, none⟩ = some (.slice (PA' j) (PN' j) (PC' j)) ∧ w'.cell? ⟨bl', off' + j * 4 + 1, none⟩ = some (.int .i64 (Kd' j)) ∧ w'.cell? ⟨bl', off' + j * 4 + 2, none⟩ = some (.int .i64 (Ix' j)) ∧ w'.cell? ⟨bl', off' + j * 4 + 3, none⟩ = some (.slice (A' j) (N' j) (C' j))) (by kernel_rfl) ?_)
        have hS : (wr.drew).cell? ⟨w.heap.size, 3, none⟩ = some (.slice (some ⟨bl, off, none⟩) args.length c) ∧ (wr.drew).cell? ⟨w.heap.size + 1, 3, none⟩ = some (.slice (some ⟨bl', off', none⟩) args'.length c') ∧ (wr.drew).cell? ⟨bl, off + j * 4, none⟩ = some (.slice (PA j) (PN j) (PC j)) ∧ (wr.drew).cell? ⟨bl, off + j * 4 + 1, none⟩ = some (.int .i64 (Kd j)) ∧ (wr.drew).cell? ⟨bl, off + j * 4 + 2, none⟩ = some (.int .i64 (Ix j)) ∧ (wr.drew).cell? ⟨bl, off + j * 4 + 3, none⟩ = some (.slice (A j) (N j) (C j)) ∧ (wr.drew).cell? ⟨bl', off' + j * 4, none⟩ = some (.slice (PA' j) (PN' j) (PC' j)) ∧ (wr.drew).cell? ⟨bl', off' + j * 4 + 1, none⟩ = some (.int .i64 (Kd' j)) ∧ (wr.drew).cell? ⟨bl', off' + j * 4 + 2, none⟩ = some (.int .i64 (Ix' j)) ∧ (wr.drew).cell? ⟨bl', off' + j * 4 + 3, none⟩ = some (.slice (A' j) (N' j) (C' j)) := ⟨c0, c0', e1, e2, e3, e4, e1', e2', e3', e4'⟩
        refine wpN_take (i := 0) (v := ?v11) rfl (by kernel_rfl) (fun _ _ _ h => h) hS (Or.inl ⟨by rfl, ?hy11⟩) ?hr11
        case hy11 => (intro wS hSw; (try dsimp only at hSw); go_simp; (try with_reducible rfl))
        try simp only [Act.put, List.setIfInBounds_toArray, List.set_cons_zero, List.set_cons_succ, List.getElem_toArray, List.getElem_cons_zero, List.getElem_cons_succ]
        refine wpN_take (i := 1) (v := ?v12) rfl (by kernel_rfl) (fun _ _ _ h => h) hS (Or.inl ⟨by rfl, ?hy12⟩) ?hr12
        case hy12 => (intro wS hSw; (try dsimp only at hSw); go_simp; (try with_reducible rfl))
        try simp only [Act.put, List.setIfInBounds_toArray, List.set_cons_zero, List.set_cons_succ, List.getElem_toArray, List.getElem_cons_zero, List.getElem_cons_succ]
        refine wpN_take (i := 2) (v := ?v13) rfl (by kernel_rfl) (fun _ _ _ h => h) hS (Or.inl ⟨by rfl, ?hy13⟩) ?hr13
        case hy13 => (intro wS hSw; (try dsimp only at hSw); go_simp; (try with_reducible rfl))
        try simp only [Act.put, List.setIfInBounds_toArray, List.set_cons_zero, List.set_cons_succ, List.getElem_toArray, List.getElem_cons_zero, List.getElem_cons_succ]
        refine wpN_take (i := 3) (v := ?v14) rfl (by kernel_rfl) (fun _ _ _ h => h) hS (Or.inl ⟨by rfl, ?hy14⟩) ?hr14
        case hy14 => (intro wS hSw; (try dsimp only at hSw); go_simp; (try with_reducible rfl))
        try simp only [Act.put, List.setIfInBounds_toArray, List.set_cons_zero, List.set_cons_succ, List.getElem_toArray, List.getElem_cons_zero, List.getElem_cons_succ]
        refine wpN_take (i := 4) (v := ?v15) rfl (by kernel_rfl) (fun _ _ _ h => h) hS (Or.inl ⟨by rfl, ?hy15⟩) ?hr15
        case hy15 => (intro wS hSw; (try dsimp only at hSw); go_simp; (try with_reducible rfl))
        try simp only [Act.put, List.setIfInBounds_toArray, List.set_cons_zero, List.set_cons_succ, List.getElem_toArray, List.getElem_cons_zero, List.getElem_cons_succ]
        refine wpN_take (i := 5) (v := ?v16) rfl (by kernel_rfl) (fun _ _ _ h => h) hS (Or.inl ⟨by rfl, ?hy16⟩) ?hr16
        case hy16 => (intro wS hSw; (try dsimp only at hSw); go_simp; (try with_reducible rfl))
        try simp only [Act.put, List.setIfInBounds_toArray, List.set_cons_zero, List.set_cons_succ, List.getElem_toArray, List.getElem_cons_zero, List.getElem_cons_succ]
        refine wpN_take (i := 6) (v := ?v17) rfl (by kernel_rfl) (fun _ _ _ h => h) hS (Or.inl ⟨by rfl, ?hy17⟩) ?hr17
        case hy17 => (intro wS hSw; (try dsimp only at hSw); go_simp; (try with_reducible rfl))
        try simp only [Act.put, List.setIfInBounds_toArray, List.set_cons_zero, List.set_cons_succ, List.getElem_toArray, List.getElem_cons_zero, List.getElem_cons_succ]
        refine wpN_take (i := 7) (v := ?v18) rfl (by kernel_rfl) (fun _ _ _ h => h) hS (Or.inl ⟨by rfl, ?hy18⟩) ?hr18
        case hy18 => (intro wS hSw; (try dsimp only at hSw); go_simp; (try with_reducible rfl))
        try simp only [Act.put, List.setIfInBounds_toArray, List.set_cons_zero, List.set_cons_succ, List.getElem_toArray, List.getElem_cons_zero, List.getElem_cons_succ]
        refine wpN_take (i := 8) (v := ?v19) rfl (by kernel_rfl) (fun _ _ _ h => h) hS (Or.inl ⟨by rfl, ?hy19⟩) ?hr19
        case hy19 => (intro wS hSw; (try dsimp only at hSw); go_simp; (try with_reducible rfl))
        try simp only [Act.put, List.setIfInBounds_toArray, List.set_cons_zero, List.set_cons_succ, List.getElem_toArray, List.getElem_cons_zero, List.getElem_cons_succ]
        refine wpN_take (i := 9) (v := ?v20) rfl (by kernel_rfl) (fun _ _ _ h => h) hS (Or.inl ⟨by rfl, ?hy20⟩) ?hr20
        case hy20 => (intro wS hSw; (try dsimp only at hSw); go_simp; (try with_reducible rfl))
        try simp only [Act.put, List.setIfInBounds_toArray, List.set_cons_zero, List.set_cons_succ, List.getElem_toArray, List.getElem_cons_zero, List.getElem_cons_succ]
        refine wpN_step (i := 10) (by kernel_rfl) rfl (fun K hK => ?_)
        go_simp
        refine (H5.out j hlt hlt' _ (hw.below hb).drew (hw'.below hb).drew).mono ?_
        rintro e w1 ⟨r, hr, rfl, hb1⟩
        have hB : Below w.heap.size w w1 := hb.drew.trans (hb1.mono (by simp; omega))
        have hKp : Keep (fun _ => True) wr w1 := ((Keep.refl _ _).drew).below hb1
        have hS : (w1).cell? ⟨w.heap.size, 3, none⟩ = some (.slice (some ⟨bl, off, none⟩) args.length c) ∧ (w1).cell? ⟨w.heap.size + 1, 3, none⟩ = some (.slice (some ⟨bl', off', none⟩) args'.length c') ∧ (w1).cell? ⟨bl, off + j * 4, none⟩ = some (.slice (PA j) (PN j) (PC j)) ∧ (w1).cell? ⟨bl, off + j * 4 + 1, none⟩ = some (.int .i64 (Kd j)) ∧ (w1).cell? ⟨bl, off + j * 4 + 2, none⟩ = some (.int .i64 (Ix j)) ∧ (w1).cell? ⟨bl, off + j * 4 + 3, none⟩ = some (.slice (A j) (N j) (C j)) ∧ (w1).cell? ⟨bl', off' + j * 4, none⟩ = some (.slice (PA' j) (PN' j) (PC' j)) ∧ (w1).cell? ⟨bl', off' + j * 4 + 1, none⟩ = some (.int .i64 (Kd' j)) ∧ (w1).cell? ⟨bl', off' + j * 4 + 2, none⟩ = some (.int .i64 (Ix' j)) ∧ (w1).cell? ⟨bl', off' + j * 4 + 3, none⟩ = some (.slice (A' j) (N' j) (C' j)) := ⟨hKp _ _ _ trivial c0, hKp _ _ _ trivial c0', hKp _ _ _ trivial e1, hKp _ _ _ trivial e2, hKp _ _ _ trivial e3, hKp _ _ _ trivial e4, hKp _ _ _ trivial e1', hKp _ _ _ trivial e2', hKp _ _ _ trivial e3', hKp _ _ _ trivial e4'⟩
        have hx := Blk.below (w := wr.drew) hbox hb1
        have hx' := Blk.below (w := wr.drew) hbox' hb1
        cases r
        · have Hr2 := Lib.hid (no_of hr); clear hr
          refine hK.out _ _ (fun _ => hS) ?_
          clear hK K
          try simp only [Act.put, List.setIfInBounds_toArray, List.set_cons_zero, List.set_cons_succ, List.getElem_toArray, List.getElem_cons_zero, List.getElem_cons_succ]
          refine wpN_take (i := 11) (v := ?v21) rfl (by kernel_rfl) (fun _ _ _ h => h) hS (Or.inl ⟨by rfl, ?hy21⟩) ?hr21
          case hy21 => (intro wS hSw; (try dsimp only at hSw); go_simp; (try with_reducible rfl))
          try simp only [Act.put, List.setIfInBounds_toArray, List.set_cons_zero, List.set_cons_succ, List.getElem_toArray, List.getElem_cons_zero, List.getElem_cons_succ]
          refine wpN_done (by kernel_rfl) ?_
          refine NoPanic.normal ?_
          go_wp2_with fail
          go_ret
          refine ⟨false, ?_, rfl, hB⟩
          rw [Ht.out]
          simp
          intro _ h
          subst h
          exact Hr2.out rfl
        · have Hr2 := Lib.hid (yes_of hr); clear hr
          refine hK.out _ _ (fun _ => hS) ?_
          clear hK K
          try simp only [Act.put, List.setIfInBounds_toArray, List.set_cons_zero, List.set_cons_succ, List.getElem_toArray, List.getElem_cons_zero, List.getElem_cons_succ]
          refine wpN_take (i := 11) (v := ?v22) rfl (by kernel_rfl) (fun _ _ _ h => h) hS (Or.inl ⟨by rfl, ?hy22⟩) ?hr22
          case hy22 => (intro wS hSw; (try dsimp only at hSw); go_simp; (try with_reducible rfl))
          try simp only [Act.put, List.setIfInBounds_toArray, List.set_cons_zero, List.set_cons_succ, List.getElem_toArray, List.getElem_cons_zero, List.getElem_cons_succ]
          refine wpN_done (by kernel_rfl) ?_
          refine NoPanic.normal ?_
          go_wp2_with fail
          go_roundw
          case rel => exact ⟨j + 1, by go_num, by omega, take_eq_succ hlt hlt' hall.out Hr2.out, hB, hx, hx'⟩
          case measure => simp [intOf]; omega
      · go_wp2_with fail
        go_ret
        refine ⟨true, ?_, rfl, hb⟩
        have h := take_eq_end hall.out (by omega) (by have := Hll.out; omega)
        rw [Ht.out]
        simp [h, Hr.out]
end Go.Proofs.Ytejpgifofkiofaa

namespace Go.Proofs.Ytejpgifofkiofaa
open Go.RowKit

namespace Tm
inductive Fit : Tm → Prop where
  | mk (b : List Ty) (k i : Int) (a : List Tm) (h0 : -9223372036854775808 ≤ i) (h1 : i ≤ 9223372036854775807) (h : ∀ t ∈ a, Fit t) : Fit (.mk b k i a)
theorem fit_iff {b : List Ty} {k i : Int} {a : List Tm} : Fit (.mk b k i a) ↔ -9223372036854775808 ≤ i ∧ i ≤ 9223372036854775807 ∧ ∀ t ∈ a, Fit t :=
  ⟨fun h => by cases h with | mk _ _ _ _ h0 h1 h => exact ⟨h0, h1, h⟩, fun ⟨h0, h1, h⟩ => .mk _ _ _ _ h0 h1 h⟩
def zero : Tm := .mk [] 0 0 []
def Long (t : Tm) : Prop := t.args = Ty.etas t.binds ∧ (t.kind = 0 → (t.binds.length : Int) ≤ t.index)
def headIx (t : Tm) : Int := if t.kind = 0 then t.index - (t.binds.length : Nat) else t.index
end Tm

def Ty.Eta (t : Ty) (k i : Int) : Tm := if k = 0 ∧ (i < 0 ∨ 1000 < i) then Tm.zero else Ty.eta t k i

theorem isTm_zero (F : Nat → Prop) (w : World) : IsTm F w (.slice none 0 0) (.int .i64 0) (.int .i64 0) (.slice none 0 0) Tm.zero := isTm_mk (isSl_nil _ _ _) (isSl_nil _ _ _) 0 0

def VarPost (t : Tm) (w : World) (e : Ending) (w' : World) : Prop := ∃ r : Bool, Hid (r = true ↔ t.Long) ∧ e = .returned (.tuple #[.agg #[.int .i64 (if r then t.kind else 0), .int .i64 (if r then t.headIx else 0)], .bool r]) ∧ Below w.heap.size w w'

set_option maxRecDepth 100000 in
set_option maxHeartbeats 1600000 in
theorem Eta_r {F : Nat → Prop} {w : World} {s b : Value} {t : Ty} (ht : IsTy F w s b t) (k i : Int) (hsz : t.size ≤ 1000000) :
    Calls Try.prog 21 #[.agg #[.int .i64 k, .int .i64 i], .agg #[s, b]] w (AnyTm F (Ty.Eta t k i) w) := by
  have ht' := ht.weaken (F' := fun q => F q ∧ q < w.heap.size) fun q h1 h2 => ⟨h2, h1⟩
  have he := fun (hr : k = 0 → -1000000 ≤ i ∧ i + t.args.length ≤ 9223372036854775807) (w' : World) (hw : Keep (fun q => F q ∧ q < w.heap.size) w w') => eta_r t _ w s b ht' k i w' hsz hw hr
  have hlen : t.args.length < t.size := by have := Ty.le_sizes t.args; cases t; simp [Ty.size, Ty.args] at *; omega
  obtain ⟨a, c, rfl, rfl⟩ := ht.shape
  clear ht ht'
  obtain ⟨tm, htm⟩ : ∃ tm, Ty.Eta t k i = tm := ⟨_, rfl⟩
  rw [htm]
  by_cases hk : k = 0
  · subst hk
    by_cases h0 : i < 0
    · have Htm := Lib.hid (show tm = Tm.zero by rw [← htm]; simp [Ty.Eta, h0])
      clear htm he hlen
      generalize t.args.length = n at *
      generalize t.base = tb at *
      go_enter Try.func21, Try.ntmps21
      go_wp2_with fail
      refine bodyPost_ret (v := .agg #[.slice none 0 0, .int .i64 0, .int .i64 0, .slice none 0 0]) (by simp [results, Try.results21, go_sem]) rfl ?_
      refine ⟨_, _, _, _, rfl, ?_, (((Below.refl _ _).alloc (Nat.le_refl _) _).alloc (by simp) _).alloc (by simp; omega) _⟩
      rw [Htm.out]
      exact isTm_zero _ _
    by_cases h1 : i > 1000
    · have Htm := Lib.hid (show tm = Tm.zero by rw [← htm]; have : 1000 < i := h1; simp [Ty.Eta, this])
      clear htm he hlen
      generalize t.args.length = n at *
      generalize t.base = tb at *
      go_enter Try.func21, Try.ntmps21
      go_wp2_with fail
      refine bodyPost_ret (v := .agg #[.slice none 0 0, .int .i64 0, .int .i64 0, .slice none 0 0]) (by simp [results, Try.results21, go_sem]) rfl ?_
      refine ⟨_, _, _, _, rfl, ?_, (((Below.refl _ _).alloc (Nat.le_refl _) _).alloc (by simp) _).alloc (by simp; omega) _⟩
      rw [Htm.out]
      exact isTm_zero _ _
    · have Htm : Hid (Ty.eta t 0 i = tm) := by show _ = _; rw [← htm]; simp [Ty.Eta, show ¬ 1000 < i from h1, h0]
      have He := Lib.hid (he fun _ => ⟨by omega, by omega⟩)
      rw [Htm.out] at He
      clear he Htm
      clear htm hlen
      generalize t.args.length = n at *
      generalize t.base = tb at *
      go_enter Try.func21, Try.ntmps21
      go_wp2_with fail
      obtain ⟨w3, hw3⟩ : ∃ w3, ((w.alloc (.cells #[.int .i64 0, .int .i64 i] 23)).alloc (.cells #[.slice a n c, .int .i64 tb] 26)).alloc (.cells #[.slice none 0 0, .int .i64 0, .int .i64 0, .slice none 0 0] 29) = w3 := ⟨_, rfl⟩
      have B3 : Below w.heap.size w w3 := by rw [← hw3]; exact (((Below.refl _ _).alloc (Nat.le_refl _) _).alloc (by simp) _).alloc (by simp; omega) _
      have x2 : Blk w3 (w.heap.size + 1 + 1) #[.slice none 0 0, .int .i64 0, .int .i64 0, .slice none 0 0] 29 := by rw [← hw3]; exact Blk.new _ _ _ (by simp)
      try rw [hw3]
      clear hw3
      refine (He.out w3 ((Keep.refl _ _).below B3)).mono ?_
      rintro e w4 ⟨b', k', i', a', rfl, hT, hb4⟩
      have y2 := x2.below hb4
      have B4 := B3.trans (hb4.mono B3.size)
      have hlt := x2.lt
      have r0 : w4.cell? ⟨w.heap.size + 1 + 1, 0, none⟩ = some (.slice none 0 0) := y2.cell rfl
      have r1 : w4.cell? ⟨w.heap.size + 1 + 1, 1, none⟩ = some (.int .i64 0) := y2.cell rfl
      have r2 : w4.cell? ⟨w.heap.size + 1 + 1, 2, none⟩ = some (.int .i64 0) := y2.cell rfl
      have r3 : w4.cell? ⟨w.heap.size + 1 + 1, 3, none⟩ = some (.slice none 0 0) := y2.cell rfl
      have f0 := y2.free 0
      have f1 := y2.free 1
      have f2 := y2.free 2
      have f3 := y2.free 3
      obtain ⟨pa, pc, qa, qc, rfl, rfl, rfl, rfl⟩ := hT.shape
      have HT := Lib.hid (hT.weaken (F' := fun q => (F q ∧ q < w.heap.size) ∨ w.heap.size + 3 ≤ q) fun q _ h => h.elim .inl (fun h => .inr (by omega)))
      clear hT
      generalize tm.binds.length = n1 at *
      generalize tm.args.length = n2 at *
      generalize tm.kind = n3 at *
      generalize tm.index = n4 at *
      go_wp2_with fail
      refine bodyPost_ret (v := .agg #[.slice pa n1 pc, .int .i64 n3, .int .i64 n4, .slice qa n2 qc]) (by simp [results, Try.results21, go_sem, r0, r1, r2, r3]) rfl ?_
      refine ⟨_, _, _, _, rfl, ?_, (((B4.setCell (by simp <;> omega) _).setCell (by simp <;> omega) _).setCell (by simp <;> omega) _).setCell (by simp <;> omega) _⟩
      exact ((((HT.out.keep ((Keep.refl _ _).setCell ⟨w.heap.size + 1 + 1, 0, none⟩ _ (by simp <;> omega))).keep ((Keep.refl _ _).setCell ⟨w.heap.size + 1 + 1, 1, none⟩ _ (by simp <;> omega))).keep ((Keep.refl _ _).setCell ⟨w.heap.size + 1 + 1, 2, none⟩ _ (by simp <;> omega))).keep ((Keep.refl _ _).setCell ⟨w.heap.size + 1 + 1, 3, none⟩ _ (by simp <;> omega))).weaken fun q _ h => h.elim (fun h => .inl h.1) (fun h => .inr (by omega))
  · have hk0 : (k == 0) = false := by simpa using hk
    have Htm : Hid (Ty.eta t k i = tm) := by show _ = _; rw [← htm]; simp [Ty.Eta, hk]
    have He := Lib.hid (he fun h => absurd h hk)
    rw [Htm.out] at He
    clear he Htm
    clear htm hlen
    generalize t.args.length = n at *
    generalize t.base = tb at *
    go_enter Try.func21, Try.ntmps21
    go_wp2_with fail
    obtain ⟨w3, hw3⟩ : ∃ w3, ((w.alloc (.cells #[.int .i64 k, .int .i64 i] 23)).alloc (.cells #[.slice a n c, .int .i64 tb] 26)).alloc (.cells #[.slice none 0 0, .int .i64 0, .int .i64 0, .slice none 0 0] 29) = w3 := ⟨_, rfl⟩
    have B3 : Below w.heap.size w w3 := by rw [← hw3]; exact (((Below.refl _ _).alloc (Nat.le_refl _) _).alloc (by simp) _).alloc (by simp; omega) _
    have x2 : Blk w3 (w.heap.size + 1 + 1) #[.slice none 0 0, .int .i64 0, .int .i64 0, .slice none 0 0] 29 := by rw [← hw3]; exact Blk.new _ _ _ (by simp)
    try rw [hw3]
    clear hw3
    refine (He.out w3 ((Keep.refl _ _).below B3)).mono ?_
    rintro e w4 ⟨b', k', i', a', rfl, hT, hb4⟩
    have y2 := x2.below hb4
    have B4 := B3.trans (hb4.mono B3.size)
    have hlt := x2.lt
    have r0 : w4.cell? ⟨w.heap.size + 1 + 1, 0, none⟩ = some (.slice none 0 0) := y2.cell rfl
    have r1 : w4.cell? ⟨w.heap.size + 1 + 1, 1, none⟩ = some (.int .i64 0) := y2.cell rfl
    have r2 : w4.cell? ⟨w.heap.size + 1 + 1, 2, none⟩ = some (.int .i64 0) := y2.cell rfl
    have r3 : w4.cell? ⟨w.heap.size + 1 + 1, 3, none⟩ = some (.slice none 0 0) := y2.cell rfl
    have f0 := y2.free 0
    have f1 := y2.free 1
    have f2 := y2.free 2
    have f3 := y2.free 3
    obtain ⟨pa, pc, qa, qc, rfl, rfl, rfl, rfl⟩ := hT.shape
    have HT := Lib.hid (hT.weaken (F' := fun q => (F q ∧ q < w.heap.size) ∨ w.heap.size + 3 ≤ q) fun q _ h => h.elim .inl (fun h => .inr (by omega)))
    clear hT
    generalize tm.binds.length = n1 at *
    generalize tm.args.length = n2 at *
    generalize tm.kind = n3 at *
    generalize tm.index = n4 at *
    go_wp2_with fail
    refine bodyPost_ret (v := .agg #[.slice pa n1 pc, .int .i64 n3, .int .i64 n4, .slice qa n2 qc]) (by simp [results, Try.results21, go_sem, r0, r1, r2, r3]) rfl ?_
    refine ⟨_, _, _, _, rfl, ?_, (((B4.setCell (by simp <;> omega) _).setCell (by simp <;> omega) _).setCell (by simp <;> omega) _).setCell (by simp <;> omega) _⟩
    exact ((((HT.out.keep ((Keep.refl _ _).setCell ⟨w.heap.size + 1 + 1, 0, none⟩ _ (by simp <;> omega))).keep ((Keep.refl _ _).setCell ⟨w.heap.size + 1 + 1, 1, none⟩ _ (by simp <;> omega))).keep ((Keep.refl _ _).setCell ⟨w.heap.size + 1 + 1, 2, none⟩ _ (by simp <;> omega))).keep ((Keep.refl _ _).setCell ⟨w.heap.size + 1 + 1, 3, none⟩ _ (by simp <;> omega))).weaken fun q _ h => h.elim (fun h => .inl h.1) (fun h => .inr (by omega))

set_option maxRecDepth 100000 in
set_option maxHeartbeats 1600000 in
theorem var_r {F : Nat → Prop} {w : World} {b k i a : Value} {t : Tm} (ht : IsTm F w b k i a t) (hsz : t.full ≤ 100000) (hfit : t.Fit) :
    Calls Try.prog 24 #[.agg #[b, k, i, a]] w (VarPost t w) := by
  obtain ⟨_, _, hb, _⟩ := ht.inv
  obtain ⟨pa, pc, qa, qc, rfl, rfl, rfl, rfl⟩ := ht.shape
  have Ht := Lib.hid ht; clear ht
  obtain ⟨binds, k, i, args⟩ := t
  simp only [Tm.binds, Tm.kind, Tm.index, Tm.args] at *
  rw [Tm.full_eq] at hsz
  obtain ⟨hi0, hi1, _⟩ := Tm.fit_iff.1 hfit
  have hnl : binds.length ≤ 100000 := by have := Ty.le_sizes binds; omega
  have HL : Hid ((Tm.mk binds k i args).Long ↔ args = Ty.etas binds ∧ (k = 0 → (binds.length : Int) ≤ i)) := Iff.rfl
  have HH : Hid ((Tm.mk binds k i args).headIx = if k = 0 then i - (binds.length : Nat) else i) := rfl
  have Hb := Lib.hid hb; clear hb hfit
  by_cases hk : k = 0
  · subst hk
    have hk0 : ((0 : Int) == 0) = true := rfl
    by_cases hlt : i < (binds.length : Int)
    · have HL2 : Hid (¬ (Tm.mk binds 0 i args).Long) := by show ¬ _; rw [HL.out]; intro h; have := h.2 rfl; omega
      go_enter Try.func24, Try.ntmps24
      go_wp2_with fail
      refine bodyPost_ret (v := .tuple #[.agg #[.int .i64 0, .int .i64 0], .bool false]) (by simp [results, Try.results24, go_sem]) rfl ?_
      exact ⟨false, ⟨fun h => absurd h (by decide), fun h => absurd h HL2.out⟩, rfl, (((Below.refl _ _).alloc (Nat.le_refl _) _).alloc (by simp) _).alloc (by simp; omega) _⟩
    · have hwr : IntKind.i64.wrap (i - (binds.length : Int)) = i - (binds.length : Int) := IntWalk.i64_in _ (by omega)
      obtain ⟨jx, hjx⟩ : ∃ jx : Int, i - (binds.length : Int) = jx := ⟨_, rfl⟩
      have HR : Hid (-1000000 ≤ jx ∧ jx + (binds.length : Nat) ≤ 9223372036854775807) := by show _ ∧ _; omega
      have HE : Hid (Ty.eta (.mk binds 0) 0 jx = .mk binds 0 i (Ty.etas binds)) := by show _ = _; rw [Ty.eta_eq, if_pos rfl, show jx + (binds.length : Int) = i by omega]
      have HI : Hid ((Tm.mk binds 0 i args).headIx = jx) := by show _ = _; rw [HH.out]; simp; omega
      rw [hjx] at hwr
      have HG : Hid ((0 : Int) = 0 → (binds.length : Int) ≤ i) := fun _ => by omega
      by_cases hbig : jx > 1000
      · rw [← hjx] at hwr
        try rw [hjx] at hwr
        go_enter Try.func24, Try.ntmps24
        go_wp2_with fail
        obtain ⟨w3, hw3⟩ : ∃ w3, ((w.alloc (.cells #[.slice pa binds.length pc, .int .i64 0, .int .i64 i, .slice qa args.length qc] 29)).alloc (.cells #[.int .i64 0, .int .i64 0] 23)).alloc (.cells #[.int .i64 0, .int .i64 jx] 23) = w3 := ⟨_, rfl⟩
        have B3 : Below w.heap.size w w3 := by rw [← hw3]; exact ((((Below.refl _ _).alloc (Nat.le_refl _) _).alloc (by simp) _).alloc (by simp; omega) _)
        have x0 : Blk w3 w.heap.size #[.slice pa binds.length pc, .int .i64 0, .int .i64 i, .slice qa args.length qc] 29 := by rw [← hw3]; exact ((Blk.new _ _ _ rfl).alloc _).alloc _
        have x1 : Blk w3 (w.heap.size + 1) #[.int .i64 0, .int .i64 0] 23 := by rw [← hw3]; exact (Blk.new _ _ _ (by simp)).alloc _
        have x2 : Blk w3 (w.heap.size + 1 + 1) #[.int .i64 0, .int .i64 jx] 23 := by rw [← hw3]; exact Blk.new _ _ _ (by simp)
        try rw [hw3]
        clear hw3
        have hlt3 := x2.lt
        have hbb := Lib.hid (isTy_mk ((Hb.out.weaken (F' := fun q => F q ∧ q < w.heap.size) (by decide) fun q h1 h2 => ⟨h2, h1⟩).keep ((Keep.refl _ _).below B3)) 0)
        refine (eta_r (.mk binds 0) _ _ _ _ hbb.out 0 jx w3 (by rw [Ty.size_eq]; omega) (Keep.refl _ _) (fun _ => HR.out)).mono ?_
        rintro e w4 ⟨b', k', i', a', rfl, hT, hb4⟩
        rw [HE.out] at hT
        have HTi := Lib.hid hT; clear hT
        obtain ⟨pa', pc', qa', qc', hq1, hq2, hq3, hq4⟩ := HTi.out.shape
        simp only [Tm.binds, Tm.kind, Tm.index, Tm.args] at hq1 hq2 hq3 hq4
        subst hq1 hq2 hq3 hq4
        obtain ⟨n3, hn3⟩ : ∃ n, (Ty.etas binds).length = n := ⟨_, rfl⟩
        rw [hn3] at HTi
        rw [hn3]
        clear hn3
        have y0 := x0.below hb4
        have y1 := x1.below hb4
        have y2 := x2.below hb4
        have B4 := B3.trans (hb4.mono B3.size)
        clear x0 x1 x2
        have hlt4 := y2.lt
        have hlt40 := y0.lt
        have hlt41 := y1.lt
        have c00 : w4.cell? ⟨w.heap.size, 0, none⟩ = some (.slice pa binds.length pc) := y0.cell rfl
        have c01 : w4.cell? ⟨w.heap.size, 1, none⟩ = some (.int .i64 0) := y0.cell rfl
        have c02 : w4.cell? ⟨w.heap.size, 2, none⟩ = some (.int .i64 i) := y0.cell rfl
        have c03 : w4.cell? ⟨w.heap.size, 3, none⟩ = some (.slice qa args.length qc) := y0.cell rfl
        have c10 : w4.cell? ⟨w.heap.size + 1, 0, none⟩ = some (.int .i64 0) := y1.cell rfl
        have c11 : w4.cell? ⟨w.heap.size + 1, 1, none⟩ = some (.int .i64 0) := y1.cell rfl
        have c20 : w4.cell? ⟨w.heap.size + 1 + 1, 0, none⟩ = some (.int .i64 0) := y2.cell rfl
        have c21 : w4.cell? ⟨w.heap.size + 1 + 1, 1, none⟩ = some (.int .i64 jx) := y2.cell rfl
        have f0 := y1.free 0
        have f1 := y1.free 1
        go_wp2_with fail
        obtain ⟨w5, hw5⟩ : ∃ w5, w4.alloc (.cells #[.slice pa' binds.length pc', .int .i64 0, .int .i64 i, .slice qa' n3 qc'] 29) = w5 := ⟨_, rfl⟩
        have b5 : Below w4.heap.size w4 w5 := by rw [← hw5]; exact (Below.refl _ _).alloc (Nat.le_refl _) _
        rw [hw5]
        clear hw5
        have B5 := B4.trans (b5.mono B4.size)
        refine (same6_r _ _ _ _ _ _ _ HTi.out _ _ _ _ _ _ _ Ht.out w5 ((Keep.refl _ _).below b5) ((Keep.refl _ _).below B5)).mono ?_
        rintro e w6 ⟨r, hr, rfl, hb6⟩
        have B6 := B5.trans (hb6.mono B5.size)
        have z1 := (y1.below b5).below hb6
        have z2 := (y2.below b5).below hb6
        clear y0 y1 y2 c00 c01 c02 c03 c10 c11 c20 c21 f0 f1 hlt4 hlt40 hlt41
        have c10 : w6.cell? ⟨w.heap.size + 1, 0, none⟩ = some (.int .i64 0) := z1.cell rfl
        have c11 : w6.cell? ⟨w.heap.size + 1, 1, none⟩ = some (.int .i64 0) := z1.cell rfl
        have c20 : w6.cell? ⟨w.heap.size + 1 + 1, 0, none⟩ = some (.int .i64 0) := z2.cell rfl
        have c21 : w6.cell? ⟨w.heap.size + 1 + 1, 1, none⟩ = some (.int .i64 jx) := z2.cell rfl
        have f0 := z1.free 0
        have f1 := z1.free 1
        have Hr := Lib.hid hr; clear hr
        cases r
        · have HLn : Hid (¬ (Tm.mk binds 0 i args).Long) := by show ¬ _; rw [HL.out]; intro h; exact absurd (Hr.out.2 (by rw [h.1])) (by decide)
          go_wp2_with fail
          refine bodyPost_ret (v := .tuple #[.agg #[.int .i64 0, .int .i64 0], .bool false]) (by simp [results, Try.results24, go_sem, c10, c11]) rfl ?_
          exact ⟨false, ⟨fun h => absurd h (by decide), fun h => absurd h HLn.out⟩, rfl, (B6.setCell (by simp <;> omega) _).setCell (by simp <;> omega) _⟩
        · have HLy : Hid ((Tm.mk binds 0 i args).Long) := by show Tm.Long _; rw [HL.out]; exact ⟨(tm_eq.1 (Hr.out.1 rfl)).2.2.2.symm, HG.out⟩
          go_wp2_with fail
          refine bodyPost_ret (v := .tuple #[.agg #[.int .i64 0, .int .i64 jx], .bool true]) (by simp [results, Try.results24, go_sem, c10, c11]) rfl ?_
          exact ⟨true, ⟨fun _ => HLy.out, fun _ => rfl⟩, by simp [HI.out, Tm.kind], (B6.setCell (by simp <;> omega) _).setCell (by simp <;> omega) _⟩
      · rw [← hjx] at hwr
        try rw [hjx] at hwr
        go_enter Try.func24, Try.ntmps24
        go_wp2_with fail
        obtain ⟨w3, hw3⟩ : ∃ w3, ((w.alloc (.cells #[.slice pa binds.length pc, .int .i64 0, .int .i64 i, .slice qa args.length qc] 29)).alloc (.cells #[.int .i64 0, .int .i64 0] 23)).alloc (.cells #[.int .i64 0, .int .i64 jx] 23) = w3 := ⟨_, rfl⟩
        have B3 : Below w.heap.size w w3 := by rw [← hw3]; exact ((((Below.refl _ _).alloc (Nat.le_refl _) _).alloc (by simp) _).alloc (by simp; omega) _)
        have x0 : Blk w3 w.heap.size #[.slice pa binds.length pc, .int .i64 0, .int .i64 i, .slice qa args.length qc] 29 := by rw [← hw3]; exact ((Blk.new _ _ _ rfl).alloc _).alloc _
        have x1 : Blk w3 (w.heap.size + 1) #[.int .i64 0, .int .i64 0] 23 := by rw [← hw3]; exact (Blk.new _ _ _ (by simp)).alloc _
        have x2 : Blk w3 (w.heap.size + 1 + 1) #[.int .i64 0, .int .i64 jx] 23 := by rw [← hw3]; exact Blk.new _ _ _ (by simp)
        try rw [hw3]
        clear hw3
        have hlt3 := x2.lt
        have hbb := Lib.hid (isTy_mk ((Hb.out.weaken (F' := fun q => F q ∧ q < w.heap.size) (by decide) fun q h1 h2 => ⟨h2, h1⟩).keep ((Keep.refl _ _).below B3)) 0)
        refine (eta_r (.mk binds 0) _ _ _ _ hbb.out 0 jx w3 (by rw [Ty.size_eq]; omega) (Keep.refl _ _) (fun _ => HR.out)).mono ?_
        rintro e w4 ⟨b', k', i', a', rfl, hT, hb4⟩
        rw [HE.out] at hT
        have HTi := Lib.hid hT; clear hT
        obtain ⟨pa', pc', qa', qc', hq1, hq2, hq3, hq4⟩ := HTi.out.shape
        simp only [Tm.binds, Tm.kind, Tm.index, Tm.args] at hq1 hq2 hq3 hq4
        subst hq1 hq2 hq3 hq4
        obtain ⟨n3, hn3⟩ : ∃ n, (Ty.etas binds).length = n := ⟨_, rfl⟩
        rw [hn3] at HTi
        rw [hn3]
        clear hn3
        have y0 := x0.below hb4
        have y1 := x1.below hb4
        have y2 := x2.below hb4
        have B4 := B3.trans (hb4.mono B3.size)
        clear x0 x1 x2
        have hlt4 := y2.lt
        have hlt40 := y0.lt
        have hlt41 := y1.lt
        have c00 : w4.cell? ⟨w.heap.size, 0, none⟩ = some (.slice pa binds.length pc) := y0.cell rfl
        have c01 : w4.cell? ⟨w.heap.size, 1, none⟩ = some (.int .i64 0) := y0.cell rfl
        have c02 : w4.cell? ⟨w.heap.size, 2, none⟩ = some (.int .i64 i) := y0.cell rfl
        have c03 : w4.cell? ⟨w.heap.size, 3, none⟩ = some (.slice qa args.length qc) := y0.cell rfl
        have c10 : w4.cell? ⟨w.heap.size + 1, 0, none⟩ = some (.int .i64 0) := y1.cell rfl
        have c11 : w4.cell? ⟨w.heap.size + 1, 1, none⟩ = some (.int .i64 0) := y1.cell rfl
        have c20 : w4.cell? ⟨w.heap.size + 1 + 1, 0, none⟩ = some (.int .i64 0) := y2.cell rfl
        have c21 : w4.cell? ⟨w.heap.size + 1 + 1, 1, none⟩ = some (.int .i64 jx) := y2.cell rfl
        have f0 := y1.free 0
        have f1 := y1.free 1
        go_wp2_with fail
        obtain ⟨w5, hw5⟩ : ∃ w5, w4.alloc (.cells #[.slice pa' binds.length pc', .int .i64 0, .int .i64 i, .slice qa' n3 qc'] 29) = w5 := ⟨_, rfl⟩
        have b5 : Below w4.heap.size w4 w5 := by rw [← hw5]; exact (Below.refl _ _).alloc (Nat.le_refl _) _
        rw [hw5]
        clear hw5
        have B5 := B4.trans (b5.mono B4.size)
        refine (same6_r _ _ _ _ _ _ _ HTi.out _ _ _ _ _ _ _ Ht.out w5 ((Keep.refl _ _).below b5) ((Keep.refl _ _).below B5)).mono ?_
        rintro e w6 ⟨r, hr, rfl, hb6⟩
        have B6 := B5.trans (hb6.mono B5.size)
        have z1 := (y1.below b5).below hb6
        have z2 := (y2.below b5).below hb6
        clear y0 y1 y2 c00 c01 c02 c03 c10 c11 c20 c21 f0 f1 hlt4 hlt40 hlt41
        have c10 : w6.cell? ⟨w.heap.size + 1, 0, none⟩ = some (.int .i64 0) := z1.cell rfl
        have c11 : w6.cell? ⟨w.heap.size + 1, 1, none⟩ = some (.int .i64 0) := z1.cell rfl
        have c20 : w6.cell? ⟨w.heap.size + 1 + 1, 0, none⟩ = some (.int .i64 0) := z2.cell rfl
        have c21 : w6.cell? ⟨w.heap.size + 1 + 1, 1, none⟩ = some (.int .i64 jx) := z2.cell rfl
        have f0 := z1.free 0
        have f1 := z1.free 1
        have Hr := Lib.hid hr; clear hr
        cases r
        · have HLn : Hid (¬ (Tm.mk binds 0 i args).Long) := by show ¬ _; rw [HL.out]; intro h; exact absurd (Hr.out.2 (by rw [h.1])) (by decide)
          go_wp2_with fail
          refine bodyPost_ret (v := .tuple #[.agg #[.int .i64 0, .int .i64 0], .bool false]) (by simp [results, Try.results24, go_sem, c10, c11]) rfl ?_
          exact ⟨false, ⟨fun h => absurd h (by decide), fun h => absurd h HLn.out⟩, rfl, (B6.setCell (by simp <;> omega) _).setCell (by simp <;> omega) _⟩
        · have HLy : Hid ((Tm.mk binds 0 i args).Long) := by show Tm.Long _; rw [HL.out]; exact ⟨(tm_eq.1 (Hr.out.1 rfl)).2.2.2.symm, HG.out⟩
          go_wp2_with fail
          refine bodyPost_ret (v := .tuple #[.agg #[.int .i64 0, .int .i64 jx], .bool true]) (by simp [results, Try.results24, go_sem, c10, c11]) rfl ?_
          exact ⟨true, ⟨fun _ => HLy.out, fun _ => rfl⟩, by simp [HI.out, Tm.kind], (B6.setCell (by simp <;> omega) _).setCell (by simp <;> omega) _⟩
  · have hk0 : (k == 0) = false := by simpa using hk
    have HE : Hid (Ty.eta (.mk binds 0) k i = .mk binds k i (Ty.etas binds)) := by show _ = _; rw [Ty.eta_eq, if_neg hk]
    have HI : Hid ((Tm.mk binds k i args).headIx = i) := by show _ = _; rw [HH.out, if_neg hk]
    have HG : Hid (k = 0 → (binds.length : Int) ≤ i) := fun h => absurd h hk
    go_enter Try.func24, Try.ntmps24
    go_wp2_with fail
    obtain ⟨w3, hw3⟩ : ∃ w3, ((w.alloc (.cells #[.slice pa binds.length pc, .int .i64 k, .int .i64 i, .slice qa args.length qc] 29)).alloc (.cells #[.int .i64 0, .int .i64 0] 23)).alloc (.cells #[.int .i64 k, .int .i64 i] 23) = w3 := ⟨_, rfl⟩
    have B3 : Below w.heap.size w w3 := by rw [← hw3]; exact ((((Below.refl _ _).alloc (Nat.le_refl _) _).alloc (by simp) _).alloc (by simp; omega) _)
    have x0 : Blk w3 w.heap.size #[.slice pa binds.length pc, .int .i64 k, .int .i64 i, .slice qa args.length qc] 29 := by rw [← hw3]; exact ((Blk.new _ _ _ rfl).alloc _).alloc _
    have x1 : Blk w3 (w.heap.size + 1) #[.int .i64 0, .int .i64 0] 23 := by rw [← hw3]; exact (Blk.new _ _ _ (by simp)).alloc _
    have x2 : Blk w3 (w.heap.size + 1 + 1) #[.int .i64 k, .int .i64 i] 23 := by rw [← hw3]; exact Blk.new _ _ _ (by simp)
    try rw [hw3]
    clear hw3
    have hlt3 := x2.lt
    have hbb := Lib.hid (isTy_mk ((Hb.out.weaken (F' := fun q => F q ∧ q < w.heap.size) (by decide) fun q h1 h2 => ⟨h2, h1⟩).keep ((Keep.refl _ _).below B3)) 0)
    refine (eta_r (.mk binds 0) _ _ _ _ hbb.out k i w3 (by rw [Ty.size_eq]; omega) (Keep.refl _ _) (fun h => absurd h hk)).mono ?_
    rintro e w4 ⟨b', k', i', a', rfl, hT, hb4⟩
    rw [HE.out] at hT
    have HTi := Lib.hid hT; clear hT
    obtain ⟨pa', pc', qa', qc', hq1, hq2, hq3, hq4⟩ := HTi.out.shape
    simp only [Tm.binds, Tm.kind, Tm.index, Tm.args] at hq1 hq2 hq3 hq4
    subst hq1 hq2 hq3 hq4
    obtain ⟨n3, hn3⟩ : ∃ n, (Ty.etas binds).length = n := ⟨_, rfl⟩
    rw [hn3] at HTi
    rw [hn3]
    clear hn3
    have y0 := x0.below hb4
    have y1 := x1.below hb4
    have y2 := x2.below hb4
    have B4 := B3.trans (hb4.mono B3.size)
    clear x0 x1 x2
    have hlt4 := y2.lt
    have hlt40 := y0.lt
    have hlt41 := y1.lt
    have c00 : w4.cell? ⟨w.heap.size, 0, none⟩ = some (.slice pa binds.length pc) := y0.cell rfl
    have c01 : w4.cell? ⟨w.heap.size, 1, none⟩ = some (.int .i64 k) := y0.cell rfl
    have c02 : w4.cell? ⟨w.heap.size, 2, none⟩ = some (.int .i64 i) := y0.cell rfl
    have c03 : w4.cell? ⟨w.heap.size, 3, none⟩ = some (.slice qa args.length qc) := y0.cell rfl
    have c10 : w4.cell? ⟨w.heap.size + 1, 0, none⟩ = some (.int .i64 0) := y1.cell rfl
    have c11 : w4.cell? ⟨w.heap.size + 1, 1, none⟩ = some (.int .i64 0) := y1.cell rfl
    have c20 : w4.cell? ⟨w.heap.size + 1 + 1, 0, none⟩ = some (.int .i64 k) := y2.cell rfl
    have c21 : w4.cell? ⟨w.heap.size + 1 + 1, 1, none⟩ = some (.int .i64 i) := y2.cell rfl
    have f0 := y1.free 0
    have f1 := y1.free 1
    go_wp2_with fail
    obtain ⟨w5, hw5⟩ : ∃ w5, w4.alloc (.cells #[.slice pa' binds.length pc', .int .i64 k, .int .i64 i, .slice qa' n3 qc'] 29) = w5 := ⟨_, rfl⟩
    have b5 : Below w4.heap.size w4 w5 := by rw [← hw5]; exact (Below.refl _ _).alloc (Nat.le_refl _) _
    rw [hw5]
    clear hw5
    have B5 := B4.trans (b5.mono B4.size)
    refine (same6_r _ _ _ _ _ _ _ HTi.out _ _ _ _ _ _ _ Ht.out w5 ((Keep.refl _ _).below b5) ((Keep.refl _ _).below B5)).mono ?_
    rintro e w6 ⟨r, hr, rfl, hb6⟩
    have B6 := B5.trans (hb6.mono B5.size)
    have z1 := (y1.below b5).below hb6
    have z2 := (y2.below b5).below hb6
    clear y0 y1 y2 c00 c01 c02 c03 c10 c11 c20 c21 f0 f1 hlt4 hlt40 hlt41
    have c10 : w6.cell? ⟨w.heap.size + 1, 0, none⟩ = some (.int .i64 0) := z1.cell rfl
    have c11 : w6.cell? ⟨w.heap.size + 1, 1, none⟩ = some (.int .i64 0) := z1.cell rfl
    have c20 : w6.cell? ⟨w.heap.size + 1 + 1, 0, none⟩ = some (.int .i64 k) := z2.cell rfl
    have c21 : w6.cell? ⟨w.heap.size + 1 + 1, 1, none⟩ = some (.int .i64 i) := z2.cell rfl
    have f0 := z1.free 0
    have f1 := z1.free 1
    have Hr := Lib.hid hr; clear hr
    cases r
    · have HLn : Hid (¬ (Tm.mk binds k i args).Long) := by show ¬ _; rw [HL.out]; intro h; exact absurd (Hr.out.2 (by rw [h.1])) (by decide)
      go_wp2_with fail
      refine bodyPost_ret (v := .tuple #[.agg #[.int .i64 0, .int .i64 0], .bool false]) (by simp [results, Try.results24, go_sem, c10, c11]) rfl ?_
      exact ⟨false, ⟨fun h => absurd h (by decide), fun h => absurd h HLn.out⟩, rfl, (B6.setCell (by simp <;> omega) _).setCell (by simp <;> omega) _⟩
    · have HLy : Hid ((Tm.mk binds k i args).Long) := by show Tm.Long _; rw [HL.out]; exact ⟨(tm_eq.1 (Hr.out.1 rfl)).2.2.2.symm, HG.out⟩
      go_wp2_with fail
      refine bodyPost_ret (v := .tuple #[.agg #[.int .i64 k, .int .i64 i], .bool true]) (by simp [results, Try.results24, go_sem, c10, c11]) rfl ?_
      exact ⟨true, ⟨fun _ => HLy.out, fun _ => rfl⟩, by simp [HI.out, Tm.kind], (B6.setCell (by simp <;> omega) _).setCell (by simp <;> omega) _⟩
end Go.Proofs.Ytejpgifofkiofaa

