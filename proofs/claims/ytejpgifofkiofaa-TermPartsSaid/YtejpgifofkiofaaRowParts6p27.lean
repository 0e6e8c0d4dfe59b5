/-
  The document's order of terms.
-/
import Derived.Test.YtejpgifofkiofaaRowParts6p25
import Derived.Test.YtejpgifofkiofaaRowParts6p26
import Derived.Test.YtejpgifofkiofaaRowParts6p10
set_option linter.unusedVariables false
set_option linter.unusedSimpArgs false
namespace Go.Proofs.Ytejpgifofkiofaa
open Go.RowKit

set_option maxRecDepth 100000 in
theorem size6_r : ∀ t : Tm, ∀ {F : Nat → Prop} {w0 : World} {b k i a : Value} (_ : IsTm F w0 b k i a t) (w : World), t.size ≤ 1000000 → Keep F w0 w → Calls Try.prog 75 #[.agg #[b, k, i, a]] w (RetI t.size w) := Tm.ind fun binds k0 i0 args ih => by
  intro F w0 b k i a ht w hsz hw
  obtain ⟨pa, pc, qa, qc, rfl, rfl, rfl, rfl⟩ := ht.shape
  simp only [Tm.binds, Tm.kind, Tm.index, Tm.args] at ht ⊢
  obtain ⟨_, _, _, hsl⟩ := ht.inv
  simp only [Tm.args] at hsl
  obtain ⟨_, hm, bl, off, PA, A, PN, PC, N', C, Kd, Ix, ha, h1, h2, h3, h4, h5⟩ := sl_cells6 hsl
  clear ht hsl hm
  have hlen : args.length ≤ 1000000 := by have := Tm.len_sizes args; rw [Tm.size_eq] at hsz; omega
  have Hsz : Hid (∀ i (h : i < args.length), args[i].size ≤ 1000000 ∧ Tm.sizes (args.take i) + args[i].size ≤ 1000000) := fun i h => by
    have := Tm.sizes_take args i h; have := Tm.sizes_take_le args (i + 1); rw [Tm.size_eq] at hsz; omega
  have Hend : Hid ((Tm.mk binds k0 i0 args).size = Tm.sizes args + 1) := Tm.size_eq _ _ _ _
  have Hih := Lib.hid ih; clear ih hsz
  go_enter Try.func75, Try.ntmps75
  go_wp2_with fail
  go_loopw [3, 4] (fun x i wr => ∃ k : Nat, i = .int .i64 k ∧ x = .int .i64 ((Tm.sizes (args.take k) : Int) + 1) ∧ k ≤ args.length ∧ Below w.heap.size w wr ∧ Blk wr w.heap.size #[.slice pa binds.length pc, .int .i64 k0, .int .i64 i0, .slice qa args.length qc] 29) (fun _ i _ => args.length - (intOf i).toNat)
  case atStart => exact ⟨0, rfl, rfl, by omega, (Below.refl _ _).alloc (Nat.le_refl _) _, Blk.new _ _ _ rfl⟩
  case round =>
    obtain ⟨k, rfl, rfl, hk, hb, hbox⟩ := hrel
    have c0 : wr.cell? ⟨w.heap.size, 3, none⟩ = some (.slice qa args.length qc) := hbox.cell rfl
    have hlt0 := hbox.lt
    by_cases hlt : k < args.length
    · obtain ⟨rfl, hF⟩ := ha (by omega)
      have e1 := (hw.below hb) _ _ _ hF (h1 k hlt)
      have e2 := (hw.below hb) _ _ _ hF (h2 k hlt)
      have e3 := (hw.below hb) _ _ _ hF (h3 k hlt)
      have e4 := (hw.below hb) _ _ _ hF (h4 k hlt)
      have hs : Tm.sizes (args.take k) ≤ 1000000 ∧ args[k].size ≤ 1000000 := by have := Hsz.out k hlt; omega
      go_wp2_with fail
      refine (Hih.out _ (List.getElem_mem hlt) (h5 k hlt) _ (Hsz.out k hlt).1 (hw.below hb)).mono ?_
      rintro e w1 ⟨rfl, hb1⟩
      go_wp2_with fail
      go_roundw
      case rel => exact ⟨k + 1, by go_num, by rw [Tm.sizes_take _ _ hlt]; go_num, by omega, hb.trans (hb1.mono (by omega)), hbox.below hb1⟩
      case measure => simp [intOf]; omega
    · go_wp2_with fail
      go_ret
      refine ⟨?_, hb⟩
      rw [Hend.out, List.take_of_length_le (by omega)]; rfl

def CmpRef6 (t : Tm) : Prop := ∀ (F : Nat → Prop) (w0 : World) (b k i a : Value), IsTm F w0 b k i a t → ∀ (F' : Nat → Prop) (w0' : World) (b' k' i' a' : Value) (u : Tm), IsTm F' w0' b' k' i' a' u → ∀ w : World, Keep F w0 w → Keep F' w0' w → t.full ≤ 400000 → u.full ≤ 400000 →
    Calls Try.prog 52 #[.agg #[b, k, i, a], .agg #[b', k', i', a']] w (RetI (Tm.cmp t u) w)

set_option maxRecDepth 100000 in
set_option maxHeartbeats 1600000 in
theorem compare6_r : ∀ t : Tm, CmpRef6 t := Tm.ind fun binds k i args ih => by
  intro F w0 b0 k0 i0 a0 ht F' w0' b0' k0' i0' a0' u hu w hw hw' hz hz'
  obtain ⟨binds', k', i', args'⟩ := u
  have Hs := Lib.hid fun (w : World) (hw : Keep F w0 w) => size6_r _ ht w (by have := Tm.size_le_full (.mk binds k i args); omega) hw
  have Hs' := Lib.hid fun (w : World) (hw : Keep F' w0' w) => size6_r _ hu w (by have := Tm.size_le_full (.mk binds' k' i' args'); omega) hw
  obtain ⟨rfl, rfl, hb, hs⟩ := ht.inv
  obtain ⟨rfl, rfl, hb', hs'⟩ := hu.inv
  obtain ⟨pa, pc, rfl⟩ := hb.shape
  obtain ⟨pa', pc', rfl⟩ := hb'.shape
  obtain ⟨a, c, rfl⟩ := hs.shape
  obtain ⟨a', c', rfl⟩ := hs'.shape
  obtain ⟨_, hm, bl, off, PA, A, PN, PC, N, C, Kd, Ix, ha, h1, h2, h3, h4, h5⟩ := sl_cells6 hs
  obtain ⟨_, hm', bl', off', PA', A', PN', PC', N', C', Kd', Ix', ha', h1', h2', h3', h4', h5'⟩ := sl_cells6 hs'
  obtain ⟨_, hn, br, oft, D, E, G, B, ga, g1, g2, g5⟩ := sl_cells' hb
  obtain ⟨_, hn', br', oft', D', E', G', B', ga', g1', g2', g5'⟩ := sl_cells' hb'
  clear hb hb' hs hs' ht hu
  unfold maxLen at hm hm' hn hn'
  simp only [Tm.binds, Tm.kind, Tm.index, Tm.args] at *
  have hbz : ∀ t ∈ binds, t.size ≤ 1000000 := fun t ht => by have := Ty.size_mem ht; rw [Tm.full_eq] at hz; omega
  have hbz' : ∀ t ∈ binds', t.size ≤ 1000000 := fun t ht => by have := Ty.size_mem ht; rw [Tm.full_eq] at hz'; omega
  have H5 : Hid (∀ j (h : j < args.length) (h' : j < args'.length) (w : World), Keep F w0 w → Keep F' w0' w → Calls Try.prog 52 #[.agg #[.slice (PA j) (PN j) (PC j), .int .i64 (Kd j), .int .i64 (Ix j), .slice (A j) (N j) (C j)], .agg #[.slice (PA' j) (PN' j) (PC' j), .int .i64 (Kd' j), .int .i64 (Ix' j), .slice (A' j) (N' j) (C' j)]] w (RetI (Tm.cmp args[j] args'[j]) w)) :=
    fun j h h' w hw hw' => ih _ (List.getElem_mem h) _ _ _ _ _ _ (h5 j h) _ _ _ _ _ _ _ (h5' j h') w hw hw' (by have := Tm.full_mem (List.getElem_mem h); rw [Tm.full_eq] at hz; omega) (by have := Tm.full_mem (List.getElem_mem h'); rw [Tm.full_eq] at hz'; omega)
  have G5 : Hid (∀ j (h : j < binds.length) (h' : j < binds'.length) (w : World), Keep F w0 w → Keep F' w0' w → Calls Try.prog 55 #[.agg #[.slice (D j) (E j) (G j), .int .i64 (B j)], .agg #[.slice (D' j) (E' j) (G' j), .int .i64 (B' j)]] w (RetI (Ty.cmp binds[j] binds'[j]) w)) :=
    fun j h h' w hw hw' => compare_r _ _ _ _ _ (g5 j h) _ _ _ _ _ (g5' j h') w hw hw' (hbz _ (List.getElem_mem h)) (hbz' _ (List.getElem_mem h'))
  clear h5 h5' g5 g5' ih hbz hbz' hz hz'
  obtain ⟨z, hz0⟩ : ∃ z, (Tm.mk binds k i args).size = z := ⟨_, rfl⟩
  obtain ⟨z', hz0'⟩ : ∃ z', (Tm.mk binds' k' i' args').size = z' := ⟨_, rfl⟩
  obtain ⟨r, hr⟩ : ∃ r, Tm.cmp (.mk binds k i args) (.mk binds' k' i' args') = r := ⟨_, rfl⟩
  have Hr := Lib.hid (Tm.cmp_mk binds k i args binds' k' i' args')
  rw [hr, hz0, hz0'] at Hr
  rw [hz0] at Hs
  rw [hz0'] at Hs'
  rw [hr]
  clear hr hz0 hz0'
  obtain ⟨wB, hwB⟩ : ∃ wB, (w.alloc (.cells #[.slice pa binds.length pc, .int .i64 k, .int .i64 i, .slice a args.length c] 29)).alloc (.cells #[.slice pa' binds'.length pc', .int .i64 k', .int .i64 i', .slice a' args'.length c'] 29) = wB := ⟨_, rfl⟩
  have B0 : Below w.heap.size w wB := by rw [← hwB]; exact ((Below.refl _ _).alloc (Nat.le_refl _) _).alloc (by simp) _
  have x0 : Blk wB w.heap.size #[.slice pa binds.length pc, .int .i64 k, .int .i64 i, .slice a args.length c] 29 := by rw [← hwB]; exact (Blk.new _ _ _ rfl).alloc _
  have x1 : Blk wB (w.heap.size + 1) #[.slice pa' binds'.length pc', .int .i64 k', .int .i64 i', .slice a' args'.length c'] 29 := by rw [← hwB]; exact Blk.new _ _ _ (by simp)
  go_enter Try.func52, Try.ntmps52
  go_wp2_with fail
  clear hwB
  refine wp_region_noPanic (wp_region_need (S := fun w' => w'.cell? ⟨w.heap.size, 0, none⟩ = some (.slice pa binds.length pc) ∧ w'.cell? ⟨w.heap.size, 1, none⟩ = some (.int .i64 k) ∧ w'.cell? ⟨w.heap.size, 2, none⟩ = some (.int .i64 i) ∧ w'.cell? ⟨w.heap.size, 3, none⟩ = some (.slice a args.length c) ∧ w'.cell? ⟨w.heap.size + 1, 0, none⟩ = some (.slice pa' binds'.length pc') ∧ w'.cell? ⟨w.heap.size + 1, 1, none⟩ = some (.int .i64 k') ∧ w'.cell? ⟨w.heap.size + 1, 2, none⟩ = some (.int .i64 i') ∧ w'.cell? ⟨w.heap.size + 1, 3, none⟩ = some (.slice a' args'.length c')) (by kernel_rfl) ?_)
  have hS : (wB.drew).cell? ⟨w.heap.size, 0, none⟩ = some (.slice pa binds.length pc) ∧ (wB.drew).cell? ⟨w.heap.size, 1, none⟩ = some (.int .i64 k) ∧ (wB.drew).cell? ⟨w.heap.size, 2, none⟩ = some (.int .i64 i) ∧ (wB.drew).cell? ⟨w.heap.size, 3, none⟩ = some (.slice a args.length c) ∧ (wB.drew).cell? ⟨w.heap.size + 1, 0, none⟩ = some (.slice pa' binds'.length pc') ∧ (wB.drew).cell? ⟨w.heap.size + 1, 1, none⟩ = some (.int .i64 k') ∧ (wB.drew).cell? ⟨w.heap.size + 1, 2, none⟩ = some (.int .i64 i') ∧ (wB.drew).cell? ⟨w.heap.size + 1, 3, none⟩ = some (.slice a' args'.length c') := ⟨x0.drew.cell rfl, x0.drew.cell rfl, x0.drew.cell rfl, x0.drew.cell rfl, x1.drew.cell rfl, x1.drew.cell rfl, x1.drew.cell rfl, x1.drew.cell rfl⟩
  refine wpN_take (i := 0) (v := ?v1) rfl (by kernel_rfl) (fun _ _ _ h => h) hS (Or.inl ⟨by rfl, ?hy1⟩) ?hr1
  case hy1 => (intro wS hSw; (try dsimp only at hSw); go_simp; (try with_reducible rfl))
  try simp only [Act.put, List.setIfInBounds_toArray, List.set_cons_zero, List.set_cons_succ, List.getElem_toArray, List.getElem_cons_zero, List.getElem_cons_succ]
  refine wpN_take (i := 2) (v := ?v2) rfl (by kernel_rfl) (fun _ _ _ h => h) hS (Or.inl ⟨by rfl, ?hy2⟩) ?hr2
  case hy2 => (intro wS hSw; (try dsimp only at hSw); go_simp; (try with_reducible rfl))
  try simp only [Act.put, List.setIfInBounds_toArray, List.set_cons_zero, List.set_cons_succ, List.getElem_toArray, List.getElem_cons_zero, List.getElem_cons_succ]
  refine wpN_step (i := 1) (by kernel_rfl) rfl (fun K hK => ?_)
  go_simp
  refine (Hs.out _ (hw.below B0).drew).mono ?_
  rintro e w1 ⟨rfl, hb1⟩
  have B1 := B0.drew.trans (hb1.mono B0.size)
  have y0 := x0.drew.below hb1
  have y1 := x1.drew.below hb1
  have hS : (w1).cell? ⟨w.heap.size, 0, none⟩ = some (.slice pa binds.length pc) ∧ (w1).cell? ⟨w.heap.size, 1, none⟩ = some (.int .i64 k) ∧ (w1).cell? ⟨w.heap.size, 2, none⟩ = some (.int .i64 i) ∧ (w1).cell? ⟨w.heap.size, 3, none⟩ = some (.slice a args.length c) ∧ (w1).cell? ⟨w.heap.size + 1, 0, none⟩ = some (.slice pa' binds'.length pc') ∧ (w1).cell? ⟨w.heap.size + 1, 1, none⟩ = some (.int .i64 k') ∧ (w1).cell? ⟨w.heap.size + 1, 2, none⟩ = some (.int .i64 i') ∧ (w1).cell? ⟨w.heap.size + 1, 3, none⟩ = some (.slice a' args'.length c') := ⟨y0.cell rfl, y0.cell rfl, y0.cell rfl, y0.cell rfl, y1.cell rfl, y1.cell rfl, y1.cell rfl, y1.cell rfl⟩
  refine hK.out _ _ (fun _ => hS) ?_
  clear hK K
  try simp only [Act.put, List.setIfInBounds_toArray, List.set_cons_zero, List.set_cons_succ, List.getElem_toArray, List.getElem_cons_zero, List.getElem_cons_succ]
  refine wpN_step (i := 3) (by kernel_rfl) rfl (fun K hK => ?_)
  go_simp
  refine (Hs'.out _ (hw'.below B1)).mono ?_
  rintro e w2 ⟨rfl, hb2⟩
  have B2 := B1.trans (hb2.mono B1.size)
  have z0 := y0.below hb2
  have z1 := y1.below hb2
  have hS : (w2).cell? ⟨w.heap.size, 0, none⟩ = some (.slice pa binds.length pc) ∧ (w2).cell? ⟨w.heap.size, 1, none⟩ = some (.int .i64 k) ∧ (w2).cell? ⟨w.heap.size, 2, none⟩ = some (.int .i64 i) ∧ (w2).cell? ⟨w.heap.size, 3, none⟩ = some (.slice a args.length c) ∧ (w2).cell? ⟨w.heap.size + 1, 0, none⟩ = some (.slice pa' binds'.length pc') ∧ (w2).cell? ⟨w.heap.size + 1, 1, none⟩ = some (.int .i64 k') ∧ (w2).cell? ⟨w.heap.size + 1, 2, none⟩ = some (.int .i64 i') ∧ (w2).cell? ⟨w.heap.size + 1, 3, none⟩ = some (.slice a' args'.length c') := ⟨z0.cell rfl, z0.cell rfl, z0.cell rfl, z0.cell rfl, z1.cell rfl, z1.cell rfl, z1.cell rfl, z1.cell rfl⟩
  refine hK.out _ _ (fun _ => hS) ?_
  clear hK K
  try simp only [Act.put, List.setIfInBounds_toArray, List.set_cons_zero, List.set_cons_succ, List.getElem_toArray, List.getElem_cons_zero, List.getElem_cons_succ]
  refine wpN_step (i := 4) (by kernel_rfl) rfl (fun K hK => ?_)
  go_simp
  refine (sign_r6 _ _ _).mono ?_
  rintro e w3 ⟨rfl, hb3⟩
  have B3 := B2.trans (hb3.mono B2.size)
  have y0 := z0.below hb3
  have y1 := z1.below hb3
  have hS : (w3).cell? ⟨w.heap.size, 0, none⟩ = some (.slice pa binds.length pc) ∧ (w3).cell? ⟨w.heap.size, 1, none⟩ = some (.int .i64 k) ∧ (w3).cell? ⟨w.heap.size, 2, none⟩ = some (.int .i64 i) ∧ (w3).cell? ⟨w.heap.size, 3, none⟩ = some (.slice a args.length c) ∧ (w3).cell? ⟨w.heap.size + 1, 0, none⟩ = some (.slice pa' binds'.length pc') ∧ (w3).cell? ⟨w.heap.size + 1, 1, none⟩ = some (.int .i64 k') ∧ (w3).cell? ⟨w.heap.size + 1, 2, none⟩ = some (.int .i64 i') ∧ (w3).cell? ⟨w.heap.size + 1, 3, none⟩ = some (.slice a' args'.length c') := ⟨y0.cell rfl, y0.cell rfl, y0.cell rfl, y0.cell rfl, y1.cell rfl, y1.cell rfl, y1.cell rfl, y1.cell rfl⟩
  refine hK.out _ _ (fun _ => hS) ?_
  clear hK K
  try simp only [Act.put, List.setIfInBounds_toArray, List.set_cons_zero, List.set_cons_succ, List.getElem_toArray, List.getElem_cons_zero, List.getElem_cons_succ]
  refine wpN_step (i := 5) (by kernel_rfl) rfl (fun K hK => ?_)
  go_simp
  refine hK.out _ _ (fun h => absurd h (by decide)) ?_
  clear hK K
  try simp only [Act.put, List.setIfInBounds_toArray, List.set_cons_zero, List.set_cons_succ, List.getElem_toArray, List.getElem_cons_zero, List.getElem_cons_succ]
  refine wpN_done (by kernel_rfl) ?_
  refine NoPanic.normal ?_
  clear x0 x1 z0 z1 B0 B1 B2 hb1 hb2 hb3
  clear hS
  by_cases hs1 : sgn z z' = 0
  rotate_left
  · have hrm : Hid (r = sgn z z') := by have h := Hr.out; rw [orl_ne hs1] at h; exact h
    have hB := B3
    have gm : (sgn (z : Int) z' == 0) = false := by simpa using hs1
    generalize sgn (z : Int) z' = mm at *
    go_wp2_with fail
    go_loopw [5, 6] (fun x ii wq => x = .int .i64 (mm) ∧ wq = w3) (fun _ _ _ => 0)
    case atStart => exact ⟨rfl, rfl⟩
    case round =>
      obtain ⟨hx, hwr⟩ := hrel
      have hwr := hwr.symm
      subst hwr
      have hx := hx.symm
      subst hx
      go_wp2_with fail
      go_loopw [5, 7] (fun x ii wq => x = .int .i64 (mm) ∧ wq = w3) (fun _ _ _ => 0)
      case atStart => exact ⟨rfl, rfl⟩
      case round =>
        obtain ⟨hx, hwr⟩ := hrel
        have hwr := hwr.symm
        subst hwr
        have hx := hx.symm
        subst hx
        go_wp2_with fail
        go_ret
        exact ⟨by rw [hrm.out]; rfl, hB⟩
  rw [hs1, orl_zero] at Hr
  rw [hs1]
  by_cases hs2 : sgn binds.length binds'.length = 0
  rotate_left
  · have hrm : Hid (r = sgn binds.length binds'.length) := by have h := Hr.out; rw [Tm.cmpB, orl_assoc, orl_ne hs2] at h; exact h
    have gm : (sgn (binds.length : Int) binds'.length == 0) = false := by simpa using hs2
    have c0 : w3.cell? ⟨w.heap.size, 0, none⟩ = some (.slice pa binds.length pc) := y0.cell rfl
    have c0' : w3.cell? ⟨w.heap.size + 1, 0, none⟩ = some (.slice pa' binds'.length pc') := y1.cell rfl
    go_wp2_with fail
    refine (sign_r6 _ _ _).mono ?_
    rintro e w4 ⟨rfl, hb4⟩
    have hB := B3.trans (hb4.mono B3.size)
    generalize sgn (binds.length : Int) binds'.length = mm at *
    go_wp2_with fail
    go_loopw [5, 6] (fun x ii wq => x = .int .i64 (mm) ∧ wq = w4) (fun _ _ _ => 0)
    case atStart => exact ⟨rfl, rfl⟩
    case round =>
      obtain ⟨hx, hwr⟩ := hrel
      have hwr := hwr.symm
      subst hwr
      have hx := hx.symm
      subst hx
      go_wp2_with fail
      go_loopw [5, 7] (fun x ii wq => x = .int .i64 (mm) ∧ wq = w4) (fun _ _ _ => 0)
      case atStart => exact ⟨rfl, rfl⟩
      case round =>
        obtain ⟨hx, hwr⟩ := hrel
        have hwr := hwr.symm
        subst hwr
        have hx := hx.symm
        subst hx
        go_wp2_with fail
        go_ret
        exact ⟨by rw [hrm.out]; rfl, hB⟩
  have Hll : Hid (binds.length = binds'.length) := by show _ = _; have := sgn_zero.1 hs2; omega
  have Hr2 : Hid (r = orl (Ty.cmps binds binds') (orl (sgn k k') (orl (sgn i i') (orl (sgn args.length args'.length) (Tm.cmps args args'))))) := by have h := Hr.out; rw [Tm.cmpB, hs2, orl_zero] at h; exact h
  clear Hr
  have c0 : w3.cell? ⟨w.heap.size, 0, none⟩ = some (.slice pa binds.length pc) := y0.cell rfl
  have c0' : w3.cell? ⟨w.heap.size + 1, 0, none⟩ = some (.slice pa' binds'.length pc') := y1.cell rfl
  go_wp2_with fail
  refine (sign_r6 _ _ _).mono ?_
  rintro e w4 ⟨rfl, hb4⟩
  rw [hs2]
  have B4 := B3.trans (hb4.mono B3.size)
  have x0 := y0.below hb4
  have x1 := y1.below hb4
  clear c0 c0' y0 y1 B3 hb4 hs2
  go_wp2_with fail
  go_loopw [5, 6] (fun x ii wr => ∃ (j : Nat) (m : Int), ii = .int .i64 j ∧ x = .int .i64 m ∧ j ≤ binds.length ∧ Hid (r = orl m (orl (Ty.cmps (binds.drop j) (binds'.drop j)) (orl (sgn k k') (orl (sgn i i') (orl (sgn args.length args'.length) (Tm.cmps args args')))))) ∧ Below w.heap.size w wr ∧ Blk wr w.heap.size #[.slice pa binds.length pc, .int .i64 k, .int .i64 i, .slice a args.length c] 29 ∧ Blk wr (w.heap.size + 1) #[.slice pa' binds'.length pc', .int .i64 k', .int .i64 i', .slice a' args'.length c'] 29) (fun _ ii _ => binds.length - (intOf ii).toNat)
  case atStart => exact ⟨0, 0, rfl, rfl, by omega, by simpa using Hr2, B4, x0, x1⟩
  case round =>
    clear B4 x0 x1 Hr2
    obtain ⟨j, m, rfl, hx, hj, hr, hB, y0, y1⟩ := hrel
    have hx := hx.symm
    subst hx
    by_cases hm0 : m = 0
    rotate_left
    · have hrm : Hid (r = m) := by have h := hr.out; rw [orl_ne hm0] at h; exact h
      have gm : (m == 0) = false := by simpa using hm0
      clear hr
      go_wp2_with fail
      go_loopw [5, 7] (fun x ii wq => x = .int .i64 (m) ∧ wq = wr) (fun _ _ _ => 0)
      case atStart => exact ⟨rfl, rfl⟩
      case round =>
        obtain ⟨hx, hwr⟩ := hrel
        have hwr := hwr.symm
        subst hwr
        have hx := hx.symm
        subst hx
        go_wp2_with fail
        go_ret
        exact ⟨by rw [hrm.out]; rfl, hB⟩
    subst hm0
    rw [orl_zero] at hr
    have i0 : (0 : Int) ≤ (j : Int) := Int.natCast_nonneg _
    have c0 : wr.cell? ⟨w.heap.size, 0, none⟩ = some (.slice pa binds.length pc) := y0.cell rfl
    have c0' : wr.cell? ⟨w.heap.size + 1, 0, none⟩ = some (.slice pa' binds'.length pc') := y1.cell rfl
    have c1 : wr.cell? ⟨w.heap.size, 1, none⟩ = some (.int .i64 k) := y0.cell rfl
    have c1' : wr.cell? ⟨w.heap.size + 1, 1, none⟩ = some (.int .i64 k') := y1.cell rfl
    have c2 : wr.cell? ⟨w.heap.size, 2, none⟩ = some (.int .i64 i) := y0.cell rfl
    have c2' : wr.cell? ⟨w.heap.size + 1, 2, none⟩ = some (.int .i64 i') := y1.cell rfl
    have c3 : wr.cell? ⟨w.heap.size, 3, none⟩ = some (.slice a args.length c) := y0.cell rfl
    have c3' : wr.cell? ⟨w.heap.size + 1, 3, none⟩ = some (.slice a' args'.length c') := y1.cell rfl
    have hsz := y1.lt
    by_cases hlt : j < binds.length
    · have hlt' : j < binds'.length := by rw [← Hll.out]; exact hlt
      obtain ⟨rfl, hF⟩ := ga (by omega)
      obtain ⟨rfl, hF'⟩ := ga' (by omega)
      have e1 : wr.cell? ⟨br, oft + j * 2, none⟩ = some (.slice (D j) (E j) (G j)) := (hw.below hB) _ _ _ hF (g1 j hlt)
      have e2 : wr.cell? ⟨br, oft + j * 2 + 1, none⟩ = some (.int .i64 (B j)) := (hw.below hB) _ _ _ hF (g2 j hlt)
      have e1' : wr.cell? ⟨br', oft' + j * 2, none⟩ = some (.slice (D' j) (E' j) (G' j)) := (hw'.below hB) _ _ _ hF' (g1' j hlt')
      have e2' : wr.cell? ⟨br', oft' + j * 2 + 1, none⟩ = some (.int .i64 (B' j)) := (hw'.below hB) _ _ _ hF' (g2' j hlt')
      have i1 : (j : Int) < (binds.length : Int) := by omega
      have i2 : (j : Int) < (binds'.length : Int) := by omega
      have Hd := Lib.hid (Ty.cmps_drop hlt hlt')
      go_wp2_with fail
      refine wp_region_noPanic (wp_region_need (S := fun w' => w'.cell? ⟨w.heap.size, 0, none⟩ = some (.slice (some ⟨br, oft, none⟩) binds.length pc) ∧ w'.cell? ⟨w.heap.size + 1, 0, none⟩ = some (.slice (some ⟨br', oft', none⟩) binds'.length pc') ∧ w'.cell? ⟨br, oft + j * 2, none⟩ = some (.slice (D j) (E j) (G j)) ∧ w'.cell? ⟨br, oft + j * 2 + 1, none⟩ = some (.int .i64 (B j)) ∧ w'.cell? ⟨br', oft' + j * 2, none⟩ = some (.slice (D' j) (E' j) (G' j)) ∧ w'.cell? ⟨br', oft' + j * 2 + 1, none⟩ = some (.int .i64 (B' j))) (by kernel_rfl) ?_)
      have hS : (wr.drew).cell? ⟨w.heap.size, 0, none⟩ = some (.slice (some ⟨br, oft, none⟩) binds.length pc) ∧ (wr.drew).cell? ⟨w.heap.size + 1, 0, none⟩ = some (.slice (some ⟨br', oft', none⟩) binds'.length pc') ∧ (wr.drew).cell? ⟨br, oft + j * 2, none⟩ = some (.slice (D j) (E j) (G j)) ∧ (wr.drew).cell? ⟨br, oft + j * 2 + 1, none⟩ = some (.int .i64 (B j)) ∧ (wr.drew).cell? ⟨br', oft' + j * 2, none⟩ = some (.slice (D' j) (E' j) (G' j)) ∧ (wr.drew).cell? ⟨br', oft' + j * 2 + 1, none⟩ = some (.int .i64 (B' j)) := ⟨c0, c0', e1, e2, e1', e2'⟩
      refine wpN_take (i := 0) (v := ?v3) rfl (by kernel_rfl) (fun _ _ _ h => h) hS (Or.inl ⟨by rfl, ?hy3⟩) ?hr3
      case hy3 => (intro wS hSw; (try dsimp only at hSw); go_simp; (try with_reducible rfl))
      try simp only [Act.put, List.setIfInBounds_toArray, List.set_cons_zero, List.set_cons_succ, List.getElem_toArray, List.getElem_cons_zero, List.getElem_cons_succ]
      refine wpN_take (i := 1) (v := ?v4) rfl (by kernel_rfl) (fun _ _ _ h => h) hS (Or.inl ⟨by rfl, ?hy4⟩) ?hr4
      case hy4 => (intro wS hSw; (try dsimp only at hSw); go_simp; (try with_reducible rfl))
      try simp only [Act.put, List.setIfInBounds_toArray, List.set_cons_zero, List.set_cons_succ, List.getElem_toArray, List.getElem_cons_zero, List.getElem_cons_succ]
      refine wpN_take (i := 2) (v := ?v5) rfl (by kernel_rfl) (fun _ _ _ h => h) hS (Or.inl ⟨by rfl, ?hy5⟩) ?hr5
      case hy5 => (intro wS hSw; (try dsimp only at hSw); go_simp; (try with_reducible rfl))
      try simp only [Act.put, List.setIfInBounds_toArray, List.set_cons_zero, List.set_cons_succ, List.getElem_toArray, List.getElem_cons_zero, List.getElem_cons_succ]
      refine wpN_take (i := 3) (v := ?v6) rfl (by kernel_rfl) (fun _ _ _ h => h) hS (Or.inl ⟨by rfl, ?hy6⟩) ?hr6
      case hy6 => (intro wS hSw; (try dsimp only at hSw); go_simp; (try with_reducible rfl))
      try simp only [Act.put, List.setIfInBounds_toArray, List.set_cons_zero, List.set_cons_succ, List.getElem_toArray, List.getElem_cons_zero, List.getElem_cons_succ]
      refine wpN_take (i := 4) (v := ?v7) rfl (by kernel_rfl) (fun _ _ _ h => h) hS (Or.inl ⟨by rfl, ?hy7⟩) ?hr7
      case hy7 => (intro wS hSw; (try dsimp only at hSw); go_simp; (try with_reducible rfl))
      try simp only [Act.put, List.setIfInBounds_toArray, List.set_cons_zero, List.set_cons_succ, List.getElem_toArray, List.getElem_cons_zero, List.getElem_cons_succ]
      refine wpN_take (i := 5) (v := ?v8) rfl (by kernel_rfl) (fun _ _ _ h => h) hS (Or.inl ⟨by rfl, ?hy8⟩) ?hr8
      case hy8 => (intro wS hSw; (try dsimp only at hSw); go_simp; (try with_reducible rfl))
      try simp only [Act.put, List.setIfInBounds_toArray, List.set_cons_zero, List.set_cons_succ, List.getElem_toArray, List.getElem_cons_zero, List.getElem_cons_succ]
      refine wpN_take (i := 6) (v := ?v9) rfl (by kernel_rfl) (fun _ _ _ h => h) hS (Or.inl ⟨by rfl, ?hy9⟩) ?hr9
      case hy9 => (intro wS hSw; (try dsimp only at hSw); go_simp; (try with_reducible rfl))
      try simp only [Act.put, List.setIfInBounds_toArray, List.set_cons_zero, List.set_cons_succ, List.getElem_toArray, List.getElem_cons_zero, List.getElem_cons_succ]
      refine wpN_take (i := 7) (v := ?v10) rfl (by kernel_rfl) (fun _ _ _ h => h) hS (Or.inl ⟨by rfl, ?hy10⟩) ?hr10
      case hy10 => (intro wS hSw; (try dsimp only at hSw); go_simp; (try with_reducible rfl))
      try simp only [Act.put, List.setIfInBounds_toArray, List.set_cons_zero, List.set_cons_succ, List.getElem_toArray, List.getElem_cons_zero, List.getElem_cons_succ]
      refine wpN_take (i := 8) (v := ?v11) rfl (by kernel_rfl) (fun _ _ _ h => h) hS (Or.inl ⟨by rfl, ?hy11⟩) ?hr11
      case hy11 => (intro wS hSw; (try dsimp only at hSw); go_simp; (try with_reducible rfl))
      try simp only [Act.put, List.setIfInBounds_toArray, List.set_cons_zero, List.set_cons_succ, List.getElem_toArray, List.getElem_cons_zero, List.getElem_cons_succ]
      refine wpN_take (i := 9) (v := ?v12) rfl (by kernel_rfl) (fun _ _ _ h => h) hS (Or.inl ⟨by rfl, ?hy12⟩) ?hr12
      case hy12 => (intro wS hSw; (try dsimp only at hSw); go_simp; (try with_reducible rfl))
      try simp only [Act.put, List.setIfInBounds_toArray, List.set_cons_zero, List.set_cons_succ, List.getElem_toArray, List.getElem_cons_zero, List.getElem_cons_succ]
      refine wpN_step (i := 10) (by kernel_rfl) rfl (fun K hK => ?_)
      go_simp
      refine (G5.out j hlt hlt' _ (hw.below hB).drew (hw'.below hB).drew).mono ?_
      rintro e w5 ⟨rfl, hb5⟩
      have hB5 : Below w.heap.size w w5 := hB.drew.trans (hb5.mono (by have := hB.size; simp; omega))
      have hKp : Keep (fun _ => True) wr w5 := ((Keep.refl _ _).drew).below hb5
      have x0 := Blk.below (w := wr.drew) y0 hb5
      have x1 := Blk.below (w := wr.drew) y1 hb5
      have hS : (w5).cell? ⟨w.heap.size, 0, none⟩ = some (.slice (some ⟨br, oft, none⟩) binds.length pc) ∧ (w5).cell? ⟨w.heap.size + 1, 0, none⟩ = some (.slice (some ⟨br', oft', none⟩) binds'.length pc') ∧ (w5).cell? ⟨br, oft + j * 2, none⟩ = some (.slice (D j) (E j) (G j)) ∧ (w5).cell? ⟨br, oft + j * 2 + 1, none⟩ = some (.int .i64 (B j)) ∧ (w5).cell? ⟨br', oft' + j * 2, none⟩ = some (.slice (D' j) (E' j) (G' j)) ∧ (w5).cell? ⟨br', oft' + j * 2 + 1, none⟩ = some (.int .i64 (B' j)) := ⟨hKp _ _ _ trivial c0, hKp _ _ _ trivial c0', hKp _ _ _ trivial e1, hKp _ _ _ trivial e2, hKp _ _ _ trivial e1', hKp _ _ _ trivial e2'⟩
      rw [Hd.out, orl_assoc] at hr
      clear Hd
      generalize Ty.cmp binds[j] binds'[j] = m at *
      refine hK.out _ _ (fun _ => hS) ?_
      clear hK K
      try simp only [Act.put, List.setIfInBounds_toArray, List.set_cons_zero, List.set_cons_succ, List.getElem_toArray, List.getElem_cons_zero, List.getElem_cons_succ]
      refine wpN_step (i := 11) (by kernel_rfl) rfl (fun K hK => ?_)
      go_simp
      refine hK.out _ _ (fun h => absurd h (by decide)) ?_
      clear hK K
      try simp only [Act.put, List.setIfInBounds_toArray, List.set_cons_zero, List.set_cons_succ, List.getElem_toArray, List.getElem_cons_zero, List.getElem_cons_succ]
      refine wpN_done (by kernel_rfl) ?_
      refine NoPanic.normal ?_
      go_wp2_with fail
      go_roundw
      case rel => exact ⟨j + 1, m, by go_num, rfl, by omega, hr, hB5, x0, x1⟩
      case measure => simp [intOf]; omega
    · have Hr4 : Hid (r = orl (sgn k k') (orl (sgn i i') (orl (sgn args.length args'.length) (Tm.cmps args args')))) := by
        have h := hr.out
        rw [List.drop_of_length_le (show binds.length ≤ j by omega), Ty.cmps_nil, orl_zero] at h
        exact h
      clear hr
      have i1 : ¬ (j : Int) < (binds.length : Int) := by omega
      go_wp2_with fail
      by_cases hs4 : sgn k k' = 0
      rotate_left
      · have hrm : Hid (r = sgn k k') := by have h := Hr4.out; rw [orl_ne hs4] at h; exact h
        have gm : (sgn k k' == 0) = false := by simpa using hs4
        refine (sign_r6 _ _ _).mono ?_
        rintro e w6 ⟨rfl, hb6⟩
        have hB := hB.trans (hb6.mono hB.size)
        generalize sgn k k' = mm at *
        go_wp2_with fail
        go_loopw [5, 7] (fun x ii wq => x = .int .i64 (mm) ∧ wq = w6) (fun _ _ _ => 0)
        case atStart => exact ⟨rfl, rfl⟩
        case round =>
          obtain ⟨hx, hwr⟩ := hrel
          have hwr := hwr.symm
          subst hwr
          have hx := hx.symm
          subst hx
          go_wp2_with fail
          go_ret
          exact ⟨by rw [hrm.out]; rfl, hB⟩
      have Hr5 : Hid (r = orl (sgn i i') (orl (sgn args.length args'.length) (Tm.cmps args args'))) := by have h := Hr4.out; rw [hs4, orl_zero] at h; exact h
      clear Hr4
      refine (sign_r6 _ _ _).mono ?_
      rintro e w6 ⟨rfl, hb6⟩
      rw [hs4]
      have hB6 := hB.trans (hb6.mono hB.size)
      have x0 := y0.below hb6
      have x1 := y1.below hb6
      clear c0 c0' c1 c1' c2 c2' c3 c3' y0 y1 hB hb6
      have c0 : w6.cell? ⟨w.heap.size, 0, none⟩ = some (.slice pa binds.length pc) := x0.cell rfl
      have c0' : w6.cell? ⟨w.heap.size + 1, 0, none⟩ = some (.slice pa' binds'.length pc') := x1.cell rfl
      have c1 : w6.cell? ⟨w.heap.size, 1, none⟩ = some (.int .i64 k) := x0.cell rfl
      have c1' : w6.cell? ⟨w.heap.size + 1, 1, none⟩ = some (.int .i64 k') := x1.cell rfl
      have c2 : w6.cell? ⟨w.heap.size, 2, none⟩ = some (.int .i64 i) := x0.cell rfl
      have c2' : w6.cell? ⟨w.heap.size + 1, 2, none⟩ = some (.int .i64 i') := x1.cell rfl
      have c3 : w6.cell? ⟨w.heap.size, 3, none⟩ = some (.slice a args.length c) := x0.cell rfl
      have c3' : w6.cell? ⟨w.heap.size + 1, 3, none⟩ = some (.slice a' args'.length c') := x1.cell rfl
      go_wp2_with fail
      by_cases hs5 : sgn i i' = 0
      rotate_left
      · have hrm : Hid (r = sgn i i') := by have h := Hr5.out; rw [orl_ne hs5] at h; exact h
        have gm : (sgn i i' == 0) = false := by simpa using hs5
        refine (sign_r6 _ _ _).mono ?_
        rintro e w7 ⟨rfl, hb7⟩
        have hB := hB6.trans (hb7.mono hB6.size)
        generalize sgn i i' = mm at *
        go_wp2_with fail
        go_loopw [5, 7] (fun x ii wq => x = .int .i64 (mm) ∧ wq = w7) (fun _ _ _ => 0)
        case atStart => exact ⟨rfl, rfl⟩
        case round =>
          obtain ⟨hx, hwr⟩ := hrel
          have hwr := hwr.symm
          subst hwr
          have hx := hx.symm
          subst hx
          go_wp2_with fail
          go_ret
          exact ⟨by rw [hrm.out]; rfl, hB⟩
      have Hr6 : Hid (r = orl (sgn args.length args'.length) (Tm.cmps args args')) := by have h := Hr5.out; rw [hs5, orl_zero] at h; exact h
      clear Hr5
      refine (sign_r6 _ _ _).mono ?_
      rintro e w7 ⟨rfl, hb7⟩
      rw [hs5]
      have hB7 := hB6.trans (hb7.mono hB6.size)
      have y0 := x0.below hb7
      have y1 := x1.below hb7
      clear c0 c0' c1 c1' c2 c2' c3 c3' x0 x1 hB6 hb7
      have c0 : w7.cell? ⟨w.heap.size, 0, none⟩ = some (.slice pa binds.length pc) := y0.cell rfl
      have c0' : w7.cell? ⟨w.heap.size + 1, 0, none⟩ = some (.slice pa' binds'.length pc') := y1.cell rfl
      have c1 : w7.cell? ⟨w.heap.size, 1, none⟩ = some (.int .i64 k) := y0.cell rfl
      have c1' : w7.cell? ⟨w.heap.size + 1, 1, none⟩ = some (.int .i64 k') := y1.cell rfl
      have c2 : w7.cell? ⟨w.heap.size, 2, none⟩ = some (.int .i64 i) := y0.cell rfl
      have c2' : w7.cell? ⟨w.heap.size + 1, 2, none⟩ = some (.int .i64 i') := y1.cell rfl
      have c3 : w7.cell? ⟨w.heap.size, 3, none⟩ = some (.slice a args.length c) := y0.cell rfl
      have c3' : w7.cell? ⟨w.heap.size + 1, 3, none⟩ = some (.slice a' args'.length c') := y1.cell rfl
      go_wp2_with fail
      by_cases hs6 : sgn args.length args'.length = 0
      rotate_left
      · have hrm : Hid (r = sgn args.length args'.length) := by have h := Hr6.out; rw [orl_ne hs6] at h; exact h
        have gm : (sgn (args.length : Int) args'.length == 0) = false := by simpa using hs6
        refine (sign_r6 _ _ _).mono ?_
        rintro e w8 ⟨rfl, hb8⟩
        have hB := hB7.trans (hb8.mono hB7.size)
        generalize sgn (args.length : Int) args'.length = mm at *
        go_wp2_with fail
        go_loopw [5, 7] (fun x ii wq => x = .int .i64 (mm) ∧ wq = w8) (fun _ _ _ => 0)
        case atStart => exact ⟨rfl, rfl⟩
        case round =>
          obtain ⟨hx, hwr⟩ := hrel
          have hwr := hwr.symm
          subst hwr
          have hx := hx.symm
          subst hx
          go_wp2_with fail
          go_ret
          exact ⟨by rw [hrm.out]; rfl, hB⟩
      have Hr7 : Hid (r = Tm.cmps args args') := by have h := Hr6.out; rw [hs6, orl_zero] at h; exact h
      have Hla : Hid (args.length = args'.length) := by show _ = _; have := sgn_zero.1 hs6; omega
      clear Hr6
      refine (sign_r6 _ _ _).mono ?_
      rintro e w8 ⟨rfl, hb8⟩
      rw [hs6]
      have hB8 := hB7.trans (hb8.mono hB7.size)
      have x0 := y0.below hb8
      have x1 := y1.below hb8
      clear c0 c0' c1 c1' c2 c2' c3 c3' y0 y1 hB7 hb8 hs4 hs5 hs6 hlt i0 i1 hsz hj
      go_wp2_with fail
      go_loopw [5, 7] (fun x ii wq => ∃ (j : Nat) (m : Int), ii = .int .i64 j ∧ x = .int .i64 m ∧ j ≤ args.length ∧ Hid (r = orl m (Tm.cmps (args.drop j) (args'.drop j))) ∧ Below w.heap.size w wq ∧ Blk wq w.heap.size #[.slice pa binds.length pc, .int .i64 k, .int .i64 i, .slice a args.length c] 29 ∧ Blk wq (w.heap.size + 1) #[.slice pa' binds'.length pc', .int .i64 k', .int .i64 i', .slice a' args'.length c'] 29) (fun _ ii _ => args.length - (intOf ii).toNat)
      case atStart => exact ⟨0, 0, rfl, rfl, by omega, by simpa using Hr7, hB8, x0, x1⟩
      case round =>
        clear hB8 x0 x1 Hr7
        obtain ⟨j, m, rfl, hx, hj, hr, hB, y0, y1⟩ := hrel
        have hx := hx.symm
        subst hx
        by_cases hm0 : m = 0
        rotate_left
        · have hrm : Hid (r = m) := by have h := hr.out; rw [orl_ne hm0] at h; exact h
          have gm : (m == 0) = false := by simpa using hm0
          go_wp2_with fail
          go_ret
          exact ⟨by rw [hrm.out]; rfl, hB⟩
        subst hm0
        rw [orl_zero] at hr
        have i0 : (0 : Int) ≤ (j : Int) := Int.natCast_nonneg _
        have c3 : wr.cell? ⟨w.heap.size, 3, none⟩ = some (.slice a args.length c) := y0.cell rfl
        have c3' : wr.cell? ⟨w.heap.size + 1, 3, none⟩ = some (.slice a' args'.length c') := y1.cell rfl
        have hsz := y1.lt
        by_cases hlt : j < args.length
        · have hlt' : j < args'.length := by rw [← Hla.out]; exact hlt
          obtain ⟨rfl, hF⟩ := ha (by omega)
          obtain ⟨rfl, hF'⟩ := ha' (by omega)
          have e1 : wr.cell? ⟨bl, off + j * 4, none⟩ = some (.slice (PA j) (PN j) (PC j)) := (hw.below hB) _ _ _ hF (h1 j hlt)
          have e2 : wr.cell? ⟨bl, off + j * 4 + 1, none⟩ = some (.int .i64 (Kd j)) := (hw.below hB) _ _ _ hF (h2 j hlt)
          have e3 : wr.cell? ⟨bl, off + j * 4 + 2, none⟩ = some (.int .i64 (Ix j)) := (hw.below hB) _ _ _ hF (h3 j hlt)
          have e4 : wr.cell? ⟨bl, off + j * 4 + 3, none⟩ = some (.slice (A j) (N j) (C j)) := (hw.below hB) _ _ _ hF (h4 j hlt)
          have e1' : wr.cell? ⟨bl', off' + j * 4, none⟩ = some (.slice (PA' j) (PN' j) (PC' j)) := (hw'.below hB) _ _ _ hF' (h1' j hlt')
          have e2' : wr.cell? ⟨bl', off' + j * 4 + 1, none⟩ = some (.int .i64 (Kd' j)) := (hw'.below hB) _ _ _ hF' (h2' j hlt')
          have e3' : wr.cell? ⟨bl', off' + j * 4 + 2, none⟩ = some (.int .i64 (Ix' j)) := (hw'.below hB) _ _ _ hF' (h3' j hlt')
          have e4' : wr.cell? ⟨bl', off' + j * 4 + 3, none⟩ = some (.slice (A' j) (N' j) (C' j)) := (hw'.below hB) _ _ _ hF' (h4' j hlt')
          have i1 : (j : Int) < (args.length : Int) := by omega
          have i2 : (j : Int) < (args'.length : Int) := by omega
          have Hd := Lib.hid (Tm.cmps_drop hlt hlt')
          go_wp2_with fail
          refine wp_region_noPanic (wp_region_need (S := fun w' => w'.cell? ⟨w.heap.size, 3, none⟩ = some (.slice (some ⟨bl, off, none⟩) args.length c) ∧ w'.cell? ⟨w.heap.size + 1, 3, none⟩ = some (.slice (some ⟨bl', off', none⟩) args'.length c') ∧ w'.cell? ⟨bl, off + j * 4, none⟩ = some (.slice (PA j) (PN j) (PC j)) ∧ w'.cell? ⟨bl, off + j * 4 + 1, none⟩ = some (.int .i64 (Kd j)) ∧ w'.cell? ⟨bl, off + j * 4 + 2, none⟩ = some (.int .i64 (Ix j)) ∧ w'.cell? ⟨bl, off + j * 4 + 3, none⟩ = some (.slice (A j) (N j) (C j)) ∧ w'.cell? ⟨bl', off' + j * 4, none⟩ = some (.slice (PA' j) (PN' j) (PC' j)) ∧ w'.cell? ⟨bl', off' + j * 4 + 1, none⟩ = some (.int .i64 (Kd' j)) ∧ w'.cell? ⟨bl', off' + j * 4 + 2, none⟩ = some (.int .i64 (Ix' j)) ∧ w'.cell? ⟨bl', off' + j * 4 + 3, none⟩ = some (.slice (A' j) (N' j) (C' j))) (by kernel_rfl) ?_)
          have hS : (wr.drew).cell? ⟨w.heap.size, 3, none⟩ = some (.slice (some ⟨bl, off, none⟩) args.length c) ∧ (wr.drew).cell? ⟨w.heap.size + 1, 3, none⟩ = some (.slice (some ⟨bl', off', none⟩) args'.length c') ∧ (wr.drew).cell? ⟨bl, off + j * 4, none⟩ = some (.slice (PA j) (PN j) (PC j)) ∧ (wr.drew).cell? ⟨bl, off + j * 4 + 1, none⟩ = some (.int .i64 (Kd j)) ∧ (wr.drew).cell? ⟨bl, off + j * 4 + 2, none⟩ = some (.int .i64 (Ix j)) ∧ (wr.drew).cell? ⟨bl, off + j * 4 + 3, none⟩ = some (.slice (A j) (N j) (C j)) ∧ (wr.drew).cell? ⟨bl', off' + j * 4, none⟩ = some (.slice (PA' j) (PN' j) (PC' j)) ∧ (wr.drew).cell? ⟨bl', off' + j * 4 + 1, none⟩ = some (.int .i64 (Kd' j)) ∧ (wr.drew).cell? ⟨bl', off' + j * 4 + 2, none⟩ = some (.int .i64 (Ix' j)) ∧ (wr.drew).cell? ⟨bl', off' + j * 4 + 3, none⟩ = some (.slice (A' j) (N' j) (C' j)) := ⟨c3, c3', e1, e2, e3, e4, e1', e2', e3', e4'⟩
          refine wpN_take (i := 0) (v := ?v13) rfl (by kernel_rfl) (fun _ _ _ h => h) hS (Or.inl ⟨by rfl, ?hy13⟩) ?hr13
          case hy13 => (intro wS hSw; (try dsimp only at hSw); go_simp; (try with_reducible rfl))
          try simp only [Act.put, List.setIfInBounds_toArray, List.set_cons_zero, List.set_cons_succ, List.getElem_toArray, List.getElem_cons_zero, List.getElem_cons_succ]
          refine wpN_take (i := 1) (v := ?v14) rfl (by kernel_rfl) (fun _ _ _ h => h) hS (Or.inl ⟨by rfl, ?hy14⟩) ?hr14
          case hy14 => (intro wS hSw; (try dsimp only at hSw); go_simp; (try with_reducible rfl))
          try simp only [Act.put, List.setIfInBounds_toArray, List.set_cons_zero, List.set_cons_succ, List.getElem_toArray, List.getElem_cons_zero, List.getElem_cons_succ]
          refine wpN_take (i := 2) (v := ?v15) rfl (by kernel_rfl) (fun _ _ _ h => h) hS (Or.inl ⟨by rfl, ?hy15⟩) ?hr15
          case hy15 => (intro wS hSw; (try dsimp only at hSw); go_simp; (try with_reducible rfl))
          try simp only [Act.put, List.setIfInBounds_toArray, List.set_cons_zero, List.set_cons_succ, List.getElem_toArray, List.getElem_cons_zero, List.getElem_cons_succ]
          refine wpN_take (i := 3) (v := ?v16) rfl (by kernel_rfl) (fun _ _ _ h => h) hS (Or.inl ⟨by rfl, ?hy16⟩) ?hr16
          case hy16 => (intro wS hSw; (try dsimp only at hSw); go_simp; (try with_reducible rfl))
          try simp only [Act.put, List.setIfInBounds_toArray, List.set_cons_zero, List.set_cons_succ, List.getElem_toArray, List.getElem_cons_zero, List.getElem_cons_succ]
          refine wpN_take (i := 4) (v := ?v17) rfl (by kernel_rfl) (fun _ _ _ h => h) hS (Or.inl ⟨by rfl, ?hy17⟩) ?hr17
          case hy17 => (intro wS hSw; (try dsimp only at hSw); go_simp; (try with_reducible rfl))
          try simp only [Act.put, List.setIfInBounds_toArray, List.set_cons_zero, List.set_cons_succ, List.getElem_toArray, List.getElem_cons_zero, List.getElem_cons_succ]
          refine wpN_take (i := 5) (v := ?v18) rfl (by kernel_rfl) (fun _ _ _ h => h) hS (Or.inl ⟨by rfl, ?hy18⟩) ?hr18
          case hy18 => (intro wS hSw; (try dsimp only at hSw); go_simp; (try with_reducible rfl))
          try simp only [Act.put, List.setIfInBounds_toArray, List.set_cons_zero, List.set_cons_succ, List.getElem_toArray, List.getElem_cons_zero, List.getElem_cons_succ]
          refine wpN_take (i := 6) (v := ?v19) rfl (by kernel_rfl) (fun _ _ _ h => h) hS (Or.inl ⟨by rfl, ?hy19⟩) ?hr19
          case hy19 => (intro wS hSw; (try dsimp only at hSw); go_simp; (try with_reducible rfl))
          try simp only [Act.put, List.setIfInBounds_toArray, List.set_cons_zero, List.set_cons_succ, List.getElem_toArray, List.getElem_cons_zero, List.getElem_cons_succ]
          refine wpN_take (i := 7) (v := ?v20) rfl (by kernel_rfl) (fun _ _ _ h => h) hS (Or.inl ⟨by rfl, ?hy20⟩) ?hr20
          case hy20 => (intro wS hSw; (try dsimp only at hSw); go_simp; (try with_reducible rfl))
          try simp only [Act.put, List.setIfInBounds_toArray, List.set_cons_zero, List.set_cons_succ, List.getElem_toArray, List.getElem_cons_zero, List.getElem_cons_succ]
          refine wpN_take (i := 8) (v := ?v21) rfl (by kernel_rfl) (fun _ _ _ h => h) hS (Or.inl ⟨by rfl, ?hy21⟩) ?hr21
          case hy21 => (intro wS hSw; (try dsimp only at hSw); go_simp; (try with_reducible rfl))
          try simp only [Act.put, List.setIfInBounds_toArray, List.set_cons_zero, List.set_cons_succ, List.getElem_toArray, List.getElem_cons_zero, List.getElem_cons_succ]
          refine wpN_take (i := 9) (v := ?v22) rfl (by kernel_rfl) (fun _ _ _ h => h) hS (Or.inl ⟨by rfl, ?hy22⟩) ?hr22
          case hy22 => (intro wS hSw; (try dsimp only at hSw); go_simp; (try with_reducible rfl))
          try simp only [Act.put, List.setIfInBounds_toArray, List.set_cons_zero, List.set_cons_succ, List.getElem_toArray, List.getElem_cons_zero, List.getElem_cons_succ]
          refine wpN_step (i := 10) (by kernel_rfl) rfl (fun K hK => ?_)
          go_simp
          refine (H5.out j hlt hlt' _ (hw.below hB).drew (hw'.below hB).drew).mono ?_
          rintro e w9 ⟨rfl, hb9⟩
          have hB9 : Below w.heap.size w w9 := hB.drew.trans (hb9.mono (by have := hB.size; simp; omega))
          have hKp : Keep (fun _ => True) wr w9 := ((Keep.refl _ _).drew).below hb9
          have x0 := Blk.below (w := wr.drew) y0 hb9
          have x1 := Blk.below (w := wr.drew) y1 hb9
          have hS : (w9).cell? ⟨w.heap.size, 3, none⟩ = some (.slice (some ⟨bl, off, none⟩) args.length c) ∧ (w9).cell? ⟨w.heap.size + 1, 3, none⟩ = some (.slice (some ⟨bl', off', none⟩) args'.length c') ∧ (w9).cell? ⟨bl, off + j * 4, none⟩ = some (.slice (PA j) (PN j) (PC j)) ∧ (w9).cell? ⟨bl, off + j * 4 + 1, none⟩ = some (.int .i64 (Kd j)) ∧ (w9).cell? ⟨bl, off + j * 4 + 2, none⟩ = some (.int .i64 (Ix j)) ∧ (w9).cell? ⟨bl, off + j * 4 + 3, none⟩ = some (.slice (A j) (N j) (C j)) ∧ (w9).cell? ⟨bl', off' + j * 4, none⟩ = some (.slice (PA' j) (PN' j) (PC' j)) ∧ (w9).cell? ⟨bl', off' + j * 4 + 1, none⟩ = some (.int .i64 (Kd' j)) ∧ (w9).cell? ⟨bl', off' + j * 4 + 2, none⟩ = some (.int .i64 (Ix' j)) ∧ (w9).cell? ⟨bl', off' + j * 4 + 3, none⟩ = some (.slice (A' j) (N' j) (C' j)) := ⟨hKp _ _ _ trivial c3, hKp _ _ _ trivial c3', hKp _ _ _ trivial e1, hKp _ _ _ trivial e2, hKp _ _ _ trivial e3, hKp _ _ _ trivial e4, hKp _ _ _ trivial e1', hKp _ _ _ trivial e2', hKp _ _ _ trivial e3', hKp _ _ _ trivial e4'⟩
          rw [Hd.out] at hr
          clear Hd
          generalize Tm.cmp args[j] args'[j] = m at *
          refine hK.out _ _ (fun _ => hS) ?_
          clear hK K
          try simp only [Act.put, List.setIfInBounds_toArray, List.set_cons_zero, List.set_cons_succ, List.getElem_toArray, List.getElem_cons_zero, List.getElem_cons_succ]
          refine wpN_step (i := 11) (by kernel_rfl) rfl (fun K hK => ?_)
          go_simp
          refine hK.out _ _ (fun h => absurd h (by decide)) ?_
          clear hK K
          try simp only [Act.put, List.setIfInBounds_toArray, List.set_cons_zero, List.set_cons_succ, List.getElem_toArray, List.getElem_cons_zero, List.getElem_cons_succ]
          refine wpN_done (by kernel_rfl) ?_
          refine NoPanic.normal ?_
          go_wp2_with fail
          go_roundw
          case rel => exact ⟨j + 1, m, by go_num, rfl, by omega, hr, hB9, x0, x1⟩
          case measure => simp [intOf]; omega
        · have hrm : Hid (r = 0) := by
            have h := hr.out
            rw [List.drop_of_length_le (show args.length ≤ j by omega), Tm.cmps_nil] at h
            exact h
          have i1 : ¬ (j : Int) < (args.length : Int) := by omega
          go_wp2_with fail
          go_ret
          exact ⟨by rw [hrm.out]; rfl, hB⟩
end Go.Proofs.Ytejpgifofkiofaa

