/-
  term.Compare.
-/
import Derived.Test.YtejpgifofkiofaaAll6
import Derived.Test.YtejpgifofkiofaaUse6
import Derived.Test.YtejpgifofkiofaaGather
namespace Go.Proofs.Ytejpgifofkiofaa
open Go.RowKit

set_option maxRecDepth 100000 in
set_option maxHeartbeats 8000000 in
theorem compare6_k : ∀ t : Tm, CmpTm t := Tm.ind fun binds k i args ih => by
  intro F w0 b0 k0 i0 a0 ht F' w0' b0' k0' i0' a0' u hu w hw hw' hz hz'
  obtain ⟨binds', k', i', args'⟩ := u
  have Hs := Lib.hid fun (w : World) (hw : Keep F w0 w) => size6_k (ht.keep hw) (by omega)
  have Hs' := Lib.hid fun (w : World) (hw : Keep F' w0' w) => size6_k (hu.keep hw) (by omega)
  obtain ⟨rfl, rfl, hb, hs⟩ := ht.inv
  obtain ⟨rfl, rfl, hb', hs'⟩ := hu.inv
  simp only [Tm.binds, Tm.kind, Tm.index, Tm.args] at *
  have HB := Lib.hid fun (w : World) (hw : Keep F w0 w) (hw' : Keep F' w0' w) => allB_k hb hb' (fun t ht => by have := Ty.size_mem ht; rw [Tm.full_eq] at hz; omega) (fun t ht => by have := Ty.size_mem ht; rw [Tm.full_eq] at hz'; omega) w hw hw'
  have HT := Lib.hid fun (w : World) (hw : Keep F w0 w) (hw' : Keep F' w0' w) => allT_k hs hs' ih (fun t ht => by have := Tm.full_mem ht; rw [Tm.full_eq] at hz; omega) (fun t ht => by have := Tm.full_mem ht; rw [Tm.full_eq] at hz'; omega) w hw hw'
  obtain ⟨pa, pc, rfl⟩ := hb.shape
  obtain ⟨pa', pc', rfl⟩ := hb'.shape
  obtain ⟨a, c, rfl⟩ := hs.shape
  obtain ⟨a', c', rfl⟩ := hs'.shape
  clear hb hb' hs hs' ht hu ih hz hz'
  obtain ⟨z, hz0⟩ : ∃ z, (Tm.mk binds k i args).size = z := ⟨_, rfl⟩
  obtain ⟨z', hz0'⟩ : ∃ z', (Tm.mk binds' k' i' args').size = z' := ⟨_, rfl⟩
  obtain ⟨r, hr⟩ : ∃ r, Tm.cmp (.mk binds k i args) (.mk binds' k' i' args') = r := ⟨_, rfl⟩
  have Hr := Lib.hid (Tm.cmp_mk binds k i args binds' k' i' args')
  rw [hr, hz0, hz0'] at Hr
  rw [hz0] at Hs
  rw [hz0'] at Hs'
  rw [hr]
  clear hr hz0 hz0'
  obtain ⟨m1, hm1⟩ : ∃ m, Tm.cmpB binds binds' = m := ⟨_, rfl⟩
  obtain ⟨m2, hm2⟩ : ∃ m, orl (sgn args.length args'.length) (Tm.cmps args args') = m := ⟨_, rfl⟩
  rw [hm1, hm2] at Hr
  rw [hm1] at HB
  rw [hm2] at HT
  clear hm1 hm2
  obtain ⟨n1, hn1⟩ : ∃ n, binds.length = n := ⟨_, rfl⟩
  obtain ⟨n2, hn2⟩ : ∃ n, binds'.length = n := ⟨_, rfl⟩
  obtain ⟨n3, hn3⟩ : ∃ n, args.length = n := ⟨_, rfl⟩
  obtain ⟨n4, hn4⟩ : ∃ n, args'.length = n := ⟨_, rfl⟩
  rw [hn1, hn3] at Hs
  rw [hn2, hn4] at Hs'
  rw [hn1, hn2] at HB
  rw [hn3, hn4] at HT
  rw [hn1, hn2, hn3, hn4]
  clear hn1 hn2 hn3 hn4
  obtain ⟨wB, hwB⟩ : ∃ wB, (w.alloc (.cells #[.slice pa n1 pc, .int .i64 k, .int .i64 i, .slice a n3 c] 37)).alloc (.cells #[.slice pa' n2 pc', .int .i64 k', .int .i64 i', .slice a' n4 c'] 37) = wB := ⟨_, rfl⟩
  have B0 : Below w.heap.size w wB := by rw [← hwB]; exact ((Below.refl _ _).alloc (Nat.le_refl _) _).alloc (by simp) _
  have x0 : Blk wB w.heap.size #[.slice pa n1 pc, .int .i64 k, .int .i64 i, .slice a n3 c] 37 := by rw [← hwB]; exact (Blk.new _ _ _ rfl).alloc _
  have x1 : Blk wB (w.heap.size + 1) #[.slice pa' n2 pc', .int .i64 k', .int .i64 i', .slice a' n4 c'] 37 := by rw [← hwB]; exact Blk.new _ _ _ (by simp)
  go_enter Try.func50, Try.ntmps50
  go_wp2_with fail
  clear hwB
  refine wp_region_noPanic (wp_region_need (S := fun w' => w'.cell? ⟨w.heap.size, 0, none⟩ = some (.slice pa n1 pc) ∧ w'.cell? ⟨w.heap.size, 1, none⟩ = some (.int .i64 k) ∧ w'.cell? ⟨w.heap.size, 2, none⟩ = some (.int .i64 i) ∧ w'.cell? ⟨w.heap.size, 3, none⟩ = some (.slice a n3 c) ∧ w'.cell? ⟨w.heap.size + 1, 0, none⟩ = some (.slice pa' n2 pc') ∧ w'.cell? ⟨w.heap.size + 1, 1, none⟩ = some (.int .i64 k') ∧ w'.cell? ⟨w.heap.size + 1, 2, none⟩ = some (.int .i64 i') ∧ w'.cell? ⟨w.heap.size + 1, 3, none⟩ = some (.slice a' n4 c')) (by kernel_rfl) ?_)
  have hS : (wB.drew).cell? ⟨w.heap.size, 0, none⟩ = some (.slice pa n1 pc) ∧ (wB.drew).cell? ⟨w.heap.size, 1, none⟩ = some (.int .i64 k) ∧ (wB.drew).cell? ⟨w.heap.size, 2, none⟩ = some (.int .i64 i) ∧ (wB.drew).cell? ⟨w.heap.size, 3, none⟩ = some (.slice a n3 c) ∧ (wB.drew).cell? ⟨w.heap.size + 1, 0, none⟩ = some (.slice pa' n2 pc') ∧ (wB.drew).cell? ⟨w.heap.size + 1, 1, none⟩ = some (.int .i64 k') ∧ (wB.drew).cell? ⟨w.heap.size + 1, 2, none⟩ = some (.int .i64 i') ∧ (wB.drew).cell? ⟨w.heap.size + 1, 3, none⟩ = some (.slice a' n4 c') := ⟨x0.drew.cell rfl, x0.drew.cell rfl, x0.drew.cell rfl, x0.drew.cell rfl, x1.drew.cell rfl, x1.drew.cell rfl, x1.drew.cell rfl, x1.drew.cell rfl⟩
  refine wpN_take (i := 0) (v := ?v1) rfl (by kernel_rfl) (fun _ _ _ h => h) hS (Or.inl ⟨by rfl, ?hy1⟩) ?hr1
  case hy1 => (intro wS hSw; (try dsimp only at hSw); go_simp; (try with_reducible rfl))
  try simp only [Act.put, List.setIfInBounds_toArray, List.set_cons_zero, List.set_cons_succ, List.getElem_toArray, List.getElem_cons_zero, List.getElem_cons_succ]
  refine wpN_take (i := 2) (v := ?v2) rfl (by kernel_rfl) (fun _ _ _ h => h) hS (Or.inl ⟨by rfl, ?hy2⟩) ?hr2
  case hy2 => (intro wS hSw; (try dsimp only at hSw); go_simp; (try with_reducible rfl))
  try simp only [Act.put, List.setIfInBounds_toArray, List.set_cons_zero, List.set_cons_succ, List.getElem_toArray, List.getElem_cons_zero, List.getElem_cons_succ]
  refine wpN_take (i := 5) (v := ?v3) rfl (by kernel_rfl) (fun _ _ _ h => h) hS (Or.inl ⟨by rfl, ?hy3⟩) ?hr3
  case hy3 => (intro wS hSw; (try dsimp only at hSw); go_simp; (try with_reducible rfl))
  try simp only [Act.put, List.setIfInBounds_toArray, List.set_cons_zero, List.set_cons_succ, List.getElem_toArray, List.getElem_cons_zero, List.getElem_cons_succ]
  refine wpN_take (i := 6) (v := ?v4) rfl (by kernel_rfl) (fun _ _ _ h => h) hS (Or.inl ⟨by rfl, ?hy4⟩) ?hr4
  case hy4 => (intro wS hSw; (try dsimp only at hSw); go_simp; (try with_reducible rfl))
  try simp only [Act.put, List.setIfInBounds_toArray, List.set_cons_zero, List.set_cons_succ, List.getElem_toArray, List.getElem_cons_zero, List.getElem_cons_succ]
  refine wpN_take (i := 7) (v := ?v5) rfl (by kernel_rfl) (fun _ _ _ h => h) hS (Or.inl ⟨by rfl, ?hy5⟩) ?hr5
  case hy5 => (intro wS hSw; (try dsimp only at hSw); go_simp; (try with_reducible rfl))
  try simp only [Act.put, List.setIfInBounds_toArray, List.set_cons_zero, List.set_cons_succ, List.getElem_toArray, List.getElem_cons_zero, List.getElem_cons_succ]
  refine wpN_take (i := 8) (v := ?v6) rfl (by kernel_rfl) (fun _ _ _ h => h) hS (Or.inl ⟨by rfl, ?hy6⟩) ?hr6
  case hy6 => (intro wS hSw; (try dsimp only at hSw); go_simp; (try with_reducible rfl))
  try simp only [Act.put, List.setIfInBounds_toArray, List.set_cons_zero, List.set_cons_succ, List.getElem_toArray, List.getElem_cons_zero, List.getElem_cons_succ]
  refine wpN_take (i := 10) (v := ?v7) rfl (by kernel_rfl) (fun _ _ _ h => h) hS (Or.inl ⟨by rfl, ?hy7⟩) ?hr7
  case hy7 => (intro wS hSw; (try dsimp only at hSw); go_simp; (try with_reducible rfl))
  try simp only [Act.put, List.setIfInBounds_toArray, List.set_cons_zero, List.set_cons_succ, List.getElem_toArray, List.getElem_cons_zero, List.getElem_cons_succ]
  refine wpN_take (i := 11) (v := ?v8) rfl (by kernel_rfl) (fun _ _ _ h => h) hS (Or.inl ⟨by rfl, ?hy8⟩) ?hr8
  case hy8 => (intro wS hSw; (try dsimp only at hSw); go_simp; (try with_reducible rfl))
  try simp only [Act.put, List.setIfInBounds_toArray, List.set_cons_zero, List.set_cons_succ, List.getElem_toArray, List.getElem_cons_zero, List.getElem_cons_succ]
  refine wpN_take (i := 12) (v := ?v9) rfl (by kernel_rfl) (fun _ _ _ h => h) hS (Or.inl ⟨by rfl, ?hy9⟩) ?hr9
  case hy9 => (intro wS hSw; (try dsimp only at hSw); go_simp; (try with_reducible rfl))
  try simp only [Act.put, List.setIfInBounds_toArray, List.set_cons_zero, List.set_cons_succ, List.getElem_toArray, List.getElem_cons_zero, List.getElem_cons_succ]
  refine wpN_take (i := 13) (v := ?v10) rfl (by kernel_rfl) (fun _ _ _ h => h) hS (Or.inl ⟨by rfl, ?hy10⟩) ?hr10
  case hy10 => (intro wS hSw; (try dsimp only at hSw); go_simp; (try with_reducible rfl))
  try simp only [Act.put, List.setIfInBounds_toArray, List.set_cons_zero, List.set_cons_succ, List.getElem_toArray, List.getElem_cons_zero, List.getElem_cons_succ]
  refine wpN_take (i := 14) (v := ?v11) rfl (by kernel_rfl) (fun _ _ _ h => h) hS (Or.inl ⟨by rfl, ?hy11⟩) ?hr11
  case hy11 => (intro wS hSw; (try dsimp only at hSw); go_simp; (try with_reducible rfl))
  try simp only [Act.put, List.setIfInBounds_toArray, List.set_cons_zero, List.set_cons_succ, List.getElem_toArray, List.getElem_cons_zero, List.getElem_cons_succ]
  refine wpN_take (i := 15) (v := ?v12) rfl (by kernel_rfl) (fun _ _ _ h => h) hS (Or.inl ⟨by rfl, ?hy12⟩) ?hr12
  case hy12 => (intro wS hSw; (try dsimp only at hSw); go_simp; (try with_reducible rfl))
  try simp only [Act.put, List.setIfInBounds_toArray, List.set_cons_zero, List.set_cons_succ, List.getElem_toArray, List.getElem_cons_zero, List.getElem_cons_succ]
  refine wpN_take (i := 17) (v := ?v13) rfl (by kernel_rfl) (fun _ _ _ h => h) hS (Or.inl ⟨by rfl, ?hy13⟩) ?hr13
  case hy13 => (intro wS hSw; (try dsimp only at hSw); go_simp; (try with_reducible rfl))
  try simp only [Act.put, List.setIfInBounds_toArray, List.set_cons_zero, List.set_cons_succ, List.getElem_toArray, List.getElem_cons_zero, List.getElem_cons_succ]
  refine wpN_take (i := 18) (v := ?v14) rfl (by kernel_rfl) (fun _ _ _ h => h) hS (Or.inl ⟨by rfl, ?hy14⟩) ?hr14
  case hy14 => (intro wS hSw; (try dsimp only at hSw); go_simp; (try with_reducible rfl))
  try simp only [Act.put, List.setIfInBounds_toArray, List.set_cons_zero, List.set_cons_succ, List.getElem_toArray, List.getElem_cons_zero, List.getElem_cons_succ]
  refine wpN_take (i := 19) (v := ?v15) rfl (by kernel_rfl) (fun _ _ _ h => h) hS (Or.inl ⟨by rfl, ?hy15⟩) ?hr15
  case hy15 => (intro wS hSw; (try dsimp only at hSw); go_simp; (try with_reducible rfl))
  try simp only [Act.put, List.setIfInBounds_toArray, List.set_cons_zero, List.set_cons_succ, List.getElem_toArray, List.getElem_cons_zero, List.getElem_cons_succ]
  refine wpN_take (i := 20) (v := ?v16) rfl (by kernel_rfl) (fun _ _ _ h => h) hS (Or.inl ⟨by rfl, ?hy16⟩) ?hr16
  case hy16 => (intro wS hSw; (try dsimp only at hSw); go_simp; (try with_reducible rfl))
  try simp only [Act.put, List.setIfInBounds_toArray, List.set_cons_zero, List.set_cons_succ, List.getElem_toArray, List.getElem_cons_zero, List.getElem_cons_succ]
  refine wpN_take (i := 21) (v := ?v17) rfl (by kernel_rfl) (fun _ _ _ h => h) hS (Or.inl ⟨by rfl, ?hy17⟩) ?hr17
  case hy17 => (intro wS hSw; (try dsimp only at hSw); go_simp; (try with_reducible rfl))
  try simp only [Act.put, List.setIfInBounds_toArray, List.set_cons_zero, List.set_cons_succ, List.getElem_toArray, List.getElem_cons_zero, List.getElem_cons_succ]
  refine wpN_take (i := 22) (v := ?v18) rfl (by kernel_rfl) (fun _ _ _ h => h) hS (Or.inl ⟨by rfl, ?hy18⟩) ?hr18
  case hy18 => (intro wS hSw; (try dsimp only at hSw); go_simp; (try with_reducible rfl))
  try simp only [Act.put, List.setIfInBounds_toArray, List.set_cons_zero, List.set_cons_succ, List.getElem_toArray, List.getElem_cons_zero, List.getElem_cons_succ]
  refine wpN_take (i := 24) (v := ?v19) rfl (by kernel_rfl) (fun _ _ _ h => h) hS (Or.inl ⟨by rfl, ?hy19⟩) ?hr19
  case hy19 => (intro wS hSw; (try dsimp only at hSw); go_simp; (try with_reducible rfl))
  try simp only [Act.put, List.setIfInBounds_toArray, List.set_cons_zero, List.set_cons_succ, List.getElem_toArray, List.getElem_cons_zero, List.getElem_cons_succ]
  refine wpN_take (i := 25) (v := ?v20) rfl (by kernel_rfl) (fun _ _ _ h => h) hS (Or.inl ⟨by rfl, ?hy20⟩) ?hr20
  case hy20 => (intro wS hSw; (try dsimp only at hSw); go_simp; (try with_reducible rfl))
  try simp only [Act.put, List.setIfInBounds_toArray, List.set_cons_zero, List.set_cons_succ, List.getElem_toArray, List.getElem_cons_zero, List.getElem_cons_succ]
  refine wpN_take (i := 26) (v := ?v21) rfl (by kernel_rfl) (fun _ _ _ h => h) hS (Or.inl ⟨by rfl, ?hy21⟩) ?hr21
  case hy21 => (intro wS hSw; (try dsimp only at hSw); go_simp; (try with_reducible rfl))
  try simp only [Act.put, List.setIfInBounds_toArray, List.set_cons_zero, List.set_cons_succ, List.getElem_toArray, List.getElem_cons_zero, List.getElem_cons_succ]
  refine wpN_take (i := 27) (v := ?v22) rfl (by kernel_rfl) (fun _ _ _ h => h) hS (Or.inl ⟨by rfl, ?hy22⟩) ?hr22
  case hy22 => (intro wS hSw; (try dsimp only at hSw); go_simp; (try with_reducible rfl))
  try simp only [Act.put, List.setIfInBounds_toArray, List.set_cons_zero, List.set_cons_succ, List.getElem_toArray, List.getElem_cons_zero, List.getElem_cons_succ]
  refine wpN_step (i := 1) (by kernel_rfl) rfl (fun K hK => ?_)
  go_simp
  refine (Hs.out _ (hw.below B0).drew).mono ?_
  rintro e w1 ⟨rfl, hb0⟩
  have B1 := B0.drew.trans (hb0.mono B0.size)
  have y0 := x0.drew.below hb0
  have v0 := x1.drew.below hb0
  clear x0 x1 B0 hb0
  have hS : (w1).cell? ⟨w.heap.size, 0, none⟩ = some (.slice pa n1 pc) ∧ (w1).cell? ⟨w.heap.size, 1, none⟩ = some (.int .i64 k) ∧ (w1).cell? ⟨w.heap.size, 2, none⟩ = some (.int .i64 i) ∧ (w1).cell? ⟨w.heap.size, 3, none⟩ = some (.slice a n3 c) ∧ (w1).cell? ⟨w.heap.size + 1, 0, none⟩ = some (.slice pa' n2 pc') ∧ (w1).cell? ⟨w.heap.size + 1, 1, none⟩ = some (.int .i64 k') ∧ (w1).cell? ⟨w.heap.size + 1, 2, none⟩ = some (.int .i64 i') ∧ (w1).cell? ⟨w.heap.size + 1, 3, none⟩ = some (.slice a' n4 c') := ⟨y0.cell rfl, y0.cell rfl, y0.cell rfl, y0.cell rfl, v0.cell rfl, v0.cell rfl, v0.cell rfl, v0.cell rfl⟩
  refine hK.out _ _ (fun _ => hS) ?_
  clear hK K
  try simp only [Act.put, List.setIfInBounds_toArray, List.set_cons_zero, List.set_cons_succ, List.getElem_toArray, List.getElem_cons_zero, List.getElem_cons_succ]
  refine wpN_step (i := 3) (by kernel_rfl) rfl (fun K hK => ?_)
  go_simp
  refine (Hs'.out _ (hw'.below B1)).mono ?_
  rintro e w2 ⟨rfl, hb1⟩
  have B2 := B1.trans (hb1.mono B1.size)
  have y1 := y0.below hb1
  have v1 := v0.below hb1
  clear y0 v0 B1 hb1
  have hS : (w2).cell? ⟨w.heap.size, 0, none⟩ = some (.slice pa n1 pc) ∧ (w2).cell? ⟨w.heap.size, 1, none⟩ = some (.int .i64 k) ∧ (w2).cell? ⟨w.heap.size, 2, none⟩ = some (.int .i64 i) ∧ (w2).cell? ⟨w.heap.size, 3, none⟩ = some (.slice a n3 c) ∧ (w2).cell? ⟨w.heap.size + 1, 0, none⟩ = some (.slice pa' n2 pc') ∧ (w2).cell? ⟨w.heap.size + 1, 1, none⟩ = some (.int .i64 k') ∧ (w2).cell? ⟨w.heap.size + 1, 2, none⟩ = some (.int .i64 i') ∧ (w2).cell? ⟨w.heap.size + 1, 3, none⟩ = some (.slice a' n4 c') := ⟨y1.cell rfl, y1.cell rfl, y1.cell rfl, y1.cell rfl, v1.cell rfl, v1.cell rfl, v1.cell rfl, v1.cell rfl⟩
  refine hK.out _ _ (fun _ => hS) ?_
  clear hK K
  try simp only [Act.put, List.setIfInBounds_toArray, List.set_cons_zero, List.set_cons_succ, List.getElem_toArray, List.getElem_cons_zero, List.getElem_cons_succ]
  refine wpN_step (i := 4) (by kernel_rfl) rfl (fun K hK => ?_)
  go_simp
  refine (compare_i _ _ _).mono ?_
  rintro e w3 ⟨rfl, hb2⟩
  have B3 := B2.trans (hb2.mono B2.size)
  have y2 := y1.below hb2
  have v2 := v1.below hb2
  clear y1 v1 B2 hb2
  have hS : (w3).cell? ⟨w.heap.size, 0, none⟩ = some (.slice pa n1 pc) ∧ (w3).cell? ⟨w.heap.size, 1, none⟩ = some (.int .i64 k) ∧ (w3).cell? ⟨w.heap.size, 2, none⟩ = some (.int .i64 i) ∧ (w3).cell? ⟨w.heap.size, 3, none⟩ = some (.slice a n3 c) ∧ (w3).cell? ⟨w.heap.size + 1, 0, none⟩ = some (.slice pa' n2 pc') ∧ (w3).cell? ⟨w.heap.size + 1, 1, none⟩ = some (.int .i64 k') ∧ (w3).cell? ⟨w.heap.size + 1, 2, none⟩ = some (.int .i64 i') ∧ (w3).cell? ⟨w.heap.size + 1, 3, none⟩ = some (.slice a' n4 c') := ⟨y2.cell rfl, y2.cell rfl, y2.cell rfl, y2.cell rfl, v2.cell rfl, v2.cell rfl, v2.cell rfl, v2.cell rfl⟩
  refine hK.out _ _ (fun _ => hS) ?_
  clear hK K
  try simp only [Act.put, List.setIfInBounds_toArray, List.set_cons_zero, List.set_cons_succ, List.getElem_toArray, List.getElem_cons_zero, List.getElem_cons_succ]
  refine wpN_step (i := 9) (by kernel_rfl) rfl (fun K hK => ?_)
  go_simp
  refine (HB.out _ (hw.below B3) (hw'.below B3)).mono ?_
  rintro e w4 ⟨rfl, hb3⟩
  have B4 := B3.trans (hb3.mono B3.size)
  have y3 := y2.below hb3
  have v3 := v2.below hb3
  clear y2 v2 B3 hb3
  have hS : (w4).cell? ⟨w.heap.size, 0, none⟩ = some (.slice pa n1 pc) ∧ (w4).cell? ⟨w.heap.size, 1, none⟩ = some (.int .i64 k) ∧ (w4).cell? ⟨w.heap.size, 2, none⟩ = some (.int .i64 i) ∧ (w4).cell? ⟨w.heap.size, 3, none⟩ = some (.slice a n3 c) ∧ (w4).cell? ⟨w.heap.size + 1, 0, none⟩ = some (.slice pa' n2 pc') ∧ (w4).cell? ⟨w.heap.size + 1, 1, none⟩ = some (.int .i64 k') ∧ (w4).cell? ⟨w.heap.size + 1, 2, none⟩ = some (.int .i64 i') ∧ (w4).cell? ⟨w.heap.size + 1, 3, none⟩ = some (.slice a' n4 c') := ⟨y3.cell rfl, y3.cell rfl, y3.cell rfl, y3.cell rfl, v3.cell rfl, v3.cell rfl, v3.cell rfl, v3.cell rfl⟩
  refine hK.out _ _ (fun _ => hS) ?_
  clear hK K
  try simp only [Act.put, List.setIfInBounds_toArray, List.set_cons_zero, List.set_cons_succ, List.getElem_toArray, List.getElem_cons_zero, List.getElem_cons_succ]
  refine wpN_step (i := 16) (by kernel_rfl) rfl (fun K hK => ?_)
  go_simp
  refine (compare_i _ _ _).mono ?_
  rintro e w5 ⟨rfl, hb4⟩
  have B5 := B4.trans (hb4.mono B4.size)
  have y4 := y3.below hb4
  have v4 := v3.below hb4
  clear y3 v3 B4 hb4
  have hS : (w5).cell? ⟨w.heap.size, 0, none⟩ = some (.slice pa n1 pc) ∧ (w5).cell? ⟨w.heap.size, 1, none⟩ = some (.int .i64 k) ∧ (w5).cell? ⟨w.heap.size, 2, none⟩ = some (.int .i64 i) ∧ (w5).cell? ⟨w.heap.size, 3, none⟩ = some (.slice a n3 c) ∧ (w5).cell? ⟨w.heap.size + 1, 0, none⟩ = some (.slice pa' n2 pc') ∧ (w5).cell? ⟨w.heap.size + 1, 1, none⟩ = some (.int .i64 k') ∧ (w5).cell? ⟨w.heap.size + 1, 2, none⟩ = some (.int .i64 i') ∧ (w5).cell? ⟨w.heap.size + 1, 3, none⟩ = some (.slice a' n4 c') := ⟨y4.cell rfl, y4.cell rfl, y4.cell rfl, y4.cell rfl, v4.cell rfl, v4.cell rfl, v4.cell rfl, v4.cell rfl⟩
  refine hK.out _ _ (fun _ => hS) ?_
  clear hK K
  try simp only [Act.put, List.setIfInBounds_toArray, List.set_cons_zero, List.set_cons_succ, List.getElem_toArray, List.getElem_cons_zero, List.getElem_cons_succ]
  refine wpN_step (i := 23) (by kernel_rfl) rfl (fun K hK => ?_)
  go_simp
  refine (compare_i _ _ _).mono ?_
  rintro e w6 ⟨rfl, hb5⟩
  have B6 := B5.trans (hb5.mono B5.size)
  have y5 := y4.below hb5
  have v5 := v4.below hb5
  clear y4 v4 B5 hb5
  have hS : (w6).cell? ⟨w.heap.size, 0, none⟩ = some (.slice pa n1 pc) ∧ (w6).cell? ⟨w.heap.size, 1, none⟩ = some (.int .i64 k) ∧ (w6).cell? ⟨w.heap.size, 2, none⟩ = some (.int .i64 i) ∧ (w6).cell? ⟨w.heap.size, 3, none⟩ = some (.slice a n3 c) ∧ (w6).cell? ⟨w.heap.size + 1, 0, none⟩ = some (.slice pa' n2 pc') ∧ (w6).cell? ⟨w.heap.size + 1, 1, none⟩ = some (.int .i64 k') ∧ (w6).cell? ⟨w.heap.size + 1, 2, none⟩ = some (.int .i64 i') ∧ (w6).cell? ⟨w.heap.size + 1, 3, none⟩ = some (.slice a' n4 c') := ⟨y5.cell rfl, y5.cell rfl, y5.cell rfl, y5.cell rfl, v5.cell rfl, v5.cell rfl, v5.cell rfl, v5.cell rfl⟩
  refine hK.out _ _ (fun _ => hS) ?_
  clear hK K
  try simp only [Act.put, List.setIfInBounds_toArray, List.set_cons_zero, List.set_cons_succ, List.getElem_toArray, List.getElem_cons_zero, List.getElem_cons_succ]
  refine wpN_step (i := 28) (by kernel_rfl) rfl (fun K hK => ?_)
  go_simp
  refine (HT.out _ (hw.below B6) (hw'.below B6)).mono ?_
  rintro e w7 ⟨rfl, hb6⟩
  have B7 := B6.trans (hb6.mono B6.size)
  have y6 := y5.below hb6
  have v6 := v5.below hb6
  clear y5 v5 B6 hb6
  have hS : (w7).cell? ⟨w.heap.size, 0, none⟩ = some (.slice pa n1 pc) ∧ (w7).cell? ⟨w.heap.size, 1, none⟩ = some (.int .i64 k) ∧ (w7).cell? ⟨w.heap.size, 2, none⟩ = some (.int .i64 i) ∧ (w7).cell? ⟨w.heap.size, 3, none⟩ = some (.slice a n3 c) ∧ (w7).cell? ⟨w.heap.size + 1, 0, none⟩ = some (.slice pa' n2 pc') ∧ (w7).cell? ⟨w.heap.size + 1, 1, none⟩ = some (.int .i64 k') ∧ (w7).cell? ⟨w.heap.size + 1, 2, none⟩ = some (.int .i64 i') ∧ (w7).cell? ⟨w.heap.size + 1, 3, none⟩ = some (.slice a' n4 c') := ⟨y6.cell rfl, y6.cell rfl, y6.cell rfl, y6.cell rfl, v6.cell rfl, v6.cell rfl, v6.cell rfl, v6.cell rfl⟩
  refine hK.out _ _ (fun _ => hS) ?_
  clear hK K
  try simp only [Act.put, List.setIfInBounds_toArray, List.set_cons_zero, List.set_cons_succ, List.getElem_toArray, List.getElem_cons_zero, List.getElem_cons_succ]
  refine wpN_step (i := 29) (by kernel_rfl) rfl (fun K hK => ?_)
  go_simp
  have C0 := B7.alloc B7.size (.cells #[.int .i64 (sgn z z'), .int .i64 m1, .int .i64 (sgn k k'), .int .i64 (sgn i i'), .int .i64 m2] 3)
  have u0 := y6.alloc (.cells #[.int .i64 (sgn z z'), .int .i64 m1, .int .i64 (sgn k k'), .int .i64 (sgn i i'), .int .i64 m2] 3)
  have u1 := v6.alloc (.cells #[.int .i64 (sgn z z'), .int .i64 m1, .int .i64 (sgn k k'), .int .i64 (sgn i i'), .int .i64 m2] 3)
  have u2 := Blk.new w7 #[.int .i64 (sgn z z'), .int .i64 m1, .int .i64 (sgn k k'), .int .i64 (sgn i i'), .int .i64 m2] 3 rfl
  have hS : (w7.alloc (.cells #[.int .i64 (sgn z z'), .int .i64 m1, .int .i64 (sgn k k'), .int .i64 (sgn i i'), .int .i64 m2] 3)).cell? ⟨w.heap.size, 0, none⟩ = some (.slice pa n1 pc) ∧ (w7.alloc (.cells #[.int .i64 (sgn z z'), .int .i64 m1, .int .i64 (sgn k k'), .int .i64 (sgn i i'), .int .i64 m2] 3)).cell? ⟨w.heap.size, 1, none⟩ = some (.int .i64 k) ∧ (w7.alloc (.cells #[.int .i64 (sgn z z'), .int .i64 m1, .int .i64 (sgn k k'), .int .i64 (sgn i i'), .int .i64 m2] 3)).cell? ⟨w.heap.size, 2, none⟩ = some (.int .i64 i) ∧ (w7.alloc (.cells #[.int .i64 (sgn z z'), .int .i64 m1, .int .i64 (sgn k k'), .int .i64 (sgn i i'), .int .i64 m2] 3)).cell? ⟨w.heap.size, 3, none⟩ = some (.slice a n3 c) ∧ (w7.alloc (.cells #[.int .i64 (sgn z z'), .int .i64 m1, .int .i64 (sgn k k'), .int .i64 (sgn i i'), .int .i64 m2] 3)).cell? ⟨w.heap.size + 1, 0, none⟩ = some (.slice pa' n2 pc') ∧ (w7.alloc (.cells #[.int .i64 (sgn z z'), .int .i64 m1, .int .i64 (sgn k k'), .int .i64 (sgn i i'), .int .i64 m2] 3)).cell? ⟨w.heap.size + 1, 1, none⟩ = some (.int .i64 k') ∧ (w7.alloc (.cells #[.int .i64 (sgn z z'), .int .i64 m1, .int .i64 (sgn k k'), .int .i64 (sgn i i'), .int .i64 m2] 3)).cell? ⟨w.heap.size + 1, 2, none⟩ = some (.int .i64 i') ∧ (w7.alloc (.cells #[.int .i64 (sgn z z'), .int .i64 m1, .int .i64 (sgn k k'), .int .i64 (sgn i i'), .int .i64 m2] 3)).cell? ⟨w.heap.size + 1, 3, none⟩ = some (.slice a' n4 c') := ⟨u0.cell rfl, u0.cell rfl, u0.cell rfl, u0.cell rfl, u1.cell rfl, u1.cell rfl, u1.cell rfl, u1.cell rfl⟩
  refine hK.out _ _ (fun _ => hS) ?_
  clear hK K
  try simp only [Act.put, List.setIfInBounds_toArray, List.set_cons_zero, List.set_cons_succ, List.getElem_toArray, List.getElem_cons_zero, List.getElem_cons_succ]
  refine wpN_step (i := 30) (by kernel_rfl) rfl (fun K hK => ?_)
  go_simp
  refine (or_i _ _ 0 5 _ [sgn z z', m1, sgn k k', sgn i i', m2] rfl (by omega) (fun j hj => by
    match j, hj with
    | 0, _ => exact u2.cell rfl
    | 1, _ => exact u2.cell rfl
    | 2, _ => exact u2.cell rfl
    | 3, _ => exact u2.cell rfl
    | 4, _ => exact u2.cell rfl)).mono ?_
  rintro e w9 ⟨rfl, hb9⟩
  have C1 := C0.trans (hb9.mono C0.size)
  have v0 := u0.below hb9
  have v1 := u1.below hb9
  have hS : (w9).cell? ⟨w.heap.size, 0, none⟩ = some (.slice pa n1 pc) ∧ (w9).cell? ⟨w.heap.size, 1, none⟩ = some (.int .i64 k) ∧ (w9).cell? ⟨w.heap.size, 2, none⟩ = some (.int .i64 i) ∧ (w9).cell? ⟨w.heap.size, 3, none⟩ = some (.slice a n3 c) ∧ (w9).cell? ⟨w.heap.size + 1, 0, none⟩ = some (.slice pa' n2 pc') ∧ (w9).cell? ⟨w.heap.size + 1, 1, none⟩ = some (.int .i64 k') ∧ (w9).cell? ⟨w.heap.size + 1, 2, none⟩ = some (.int .i64 i') ∧ (w9).cell? ⟨w.heap.size + 1, 3, none⟩ = some (.slice a' n4 c') := ⟨v0.cell rfl, v0.cell rfl, v0.cell rfl, v0.cell rfl, v1.cell rfl, v1.cell rfl, v1.cell rfl, v1.cell rfl⟩
  have hrr : Hid (r = orls [sgn z z', m1, sgn k k', sgn i i', m2]) := by show _ = _; rw [Hr.out]; simp [orls]
  generalize orls [sgn z z', m1, sgn k k', sgn i i', m2] = rr at *
  refine hK.out _ _ (fun _ => hS) ?_
  clear hK K
  try simp only [Act.put, List.setIfInBounds_toArray, List.set_cons_zero, List.set_cons_succ, List.getElem_toArray, List.getElem_cons_zero, List.getElem_cons_succ]
  refine wpN_step (i := 31) (by kernel_rfl) rfl (fun K hK => ?_)
  go_simp
  refine hK.out _ _ (fun h => absurd h (by decide)) ?_
  clear hK K
  try simp only [Act.put, List.setIfInBounds_toArray, List.set_cons_zero, List.set_cons_succ, List.getElem_toArray, List.getElem_cons_zero, List.getElem_cons_succ]
  refine wpN_done (by kernel_rfl) ?_
  refine NoPanic.normal ?_
  go_wp2_with fail
  go_ret
  exact ⟨by rw [hrr.out]; rfl, C1⟩
end Go.Proofs.Ytejpgifofkiofaa
