/-
  The law TermParts, stepped through.
-/
import Derived.Test.YtejpgifofkiofaaRowParts6p24
import Derived.Test.YtejpgifofkiofaaRowParts6p25
import Derived.Test.YtejpgifofkiofaaRowParts6p32
import Derived.Test.YtejpgifofkiofaaRowParts6p34
import Derived.Test.YtejpgifofkiofaaRowParts6p37
set_option linter.unusedVariables false
set_option linter.unusedSimpArgs false
namespace Go.Proofs.Ytejpgifofkiofaa
open Go.RowKit

theorem isSl_pair6 {w : World} {B : Nat} {E : TypeId} {b k i a b' k' i' a' : Value} {t u : Tm} (hB : Blk w B #[b, k, i, a, b', k', i', a'] E) (ht : IsTm (fun _ => True) w b k i a t) (hu : IsTm (fun _ => True) w b' k' i' a' u) : IsSl rpTm (fun _ => True) w (.slice (some ⟨B, 0, none⟩) 2 2) [t, u] :=
  isSl_blk (r := rpTm) (l := [t, u]) [[b, k, i, a], [b', k', i', a']] hB rfl rfl (by simp [maxLen]) (fun j hj => by
    match j, hj with
    | 0, _ => exact ⟨_, rfl, _, _, _, _, rfl, ht⟩
    | 1, _ => exact ⟨_, rfl, _, _, _, _, rfl, hu⟩)

set_option maxRecDepth 100000 in
set_option maxHeartbeats 16000000 in
theorem termParts_walk {w : World} {tb tk ti ta : Value} {t : Tm} (ht : IsTm (fun _ => True) w tb tk ti ta t) (hfit : t.Fit) (hk hi : Int) :
    Calls Try.prog 13 #[.agg #[tb, tk, ti, ta], .agg #[.int .i64 hk, .int .i64 hi]] w fun e w' => e = .returned (.bool true) ∧ Below w.heap.size w w' := by
  obtain ⟨t_pa, t_pc, t_qa, t_qc, rfl, rfl, rfl, rfl⟩ := ht.shape
  obtain ⟨t_n, ht_n⟩ : ∃ x, t.binds.length = x := ⟨_, rfl⟩
  obtain ⟨t_m, ht_m⟩ : ∃ x, t.args.length = x := ⟨_, rfl⟩
  obtain ⟨t_k, ht_k⟩ : ∃ x, t.kind = x := ⟨_, rfl⟩
  obtain ⟨t_i, ht_i⟩ : ∃ x, t.index = x := ⟨_, rfl⟩
  rw [ht_n, ht_m, ht_k, ht_i] at ht ⊢
  have Et_n := Lib.hid ht_n
  have Et_m := Lib.hid ht_m
  have Et_k := Lib.hid ht_k
  have Et_i := Lib.hid ht_i
  clear ht_n ht_m ht_k ht_i
  have Ht := Lib.hid ht; have Hfit := Lib.hid hfit
  clear ht hfit
  go_enter Try.func13, Try.ntmps13
  go_wp2_with fail
  obtain ⟨w4, hw4⟩ : ∃ w4, ((w.alloc (.cells #[.slice t_pa t_n t_pc, .int .i64 t_k, .int .i64 t_i, .slice t_qa t_m t_qc] 29)).alloc (.cells #[.int .i64 hk, .int .i64 hi] 23)).alloc (.cells #[.slice t_pa t_n t_pc, .int .i64 t_k, .int .i64 t_i, .slice t_qa t_m t_qc] 29) = w4 := ⟨_, rfl⟩
  have B_w4 : Below w.heap.size w w4 := by rw [← hw4]; exact (((Below.refl _ _).alloc (Nat.le_refl _) _).alloc (by simp) _).alloc (by simp; omega) _
  have x1_w4 : Blk w4 w.heap.size #[.slice t_pa t_n t_pc, .int .i64 t_k, .int .i64 t_i, .slice t_qa t_m t_qc] 29 := by rw [← hw4]; exact ((Blk.new _ _ _ rfl).alloc _).alloc _
  have x2_w4 : Blk w4 (w.heap.size + 1) #[.int .i64 hk, .int .i64 hi] 23 := by rw [← hw4]; exact (Blk.new _ _ _ (by simp)).alloc _
  have xv : Blk w4 (w.heap.size + 1 + 1) #[.slice t_pa t_n t_pc, .int .i64 t_k, .int .i64 t_i, .slice t_qa t_m t_qc] 29 := by rw [← hw4]; exact Blk.new _ _ _ (by simp)
  try rw [hw4]
  clear hw4
  have T_w4 := Lib.hid (Ht.out.bel B_w4)
  clear Ht
  refine (few06 (isSl_one6 xv T_w4.out) (by simp)).mono ?_
  intro e w5 h
  obtain ⟨r, Hr, rfl, hbx⟩ := h
  clear xv
  have x1_w5 := x1_w4.below hbx
  have x2_w5 := x2_w4.below hbx
  have T_w5 := Lib.hid (T_w4.out.bel hbx)
  have B_w5 := B_w4.trans (hbx.mono B_w4.size)
  clear x1_w4 x2_w4 T_w4 B_w4 hbx
  cases r
  · clear Hr
    go_wp2_with fail
    refine (known06 w5).mono ?_
    rintro e wk ⟨rfl, hbk⟩
    go_wp2_with fail
    go_ret
    exact ⟨rfl, B_w5.trans (hbk.mono B_w5.size)⟩
  have Hf := Lib.hid ((Hr.out rfl) t (by simp)).1
  clear Hr
  have hsz := Tm.size_le_full t
  have Hsz := Lib.hid hsz; clear hsz
  have He : sortU (metasL [t, t]) = sortU (metasT [t]) := by
    have h1 : metasL [t, t] = metasP (t.pre 0 1) ++ metasP (t.pre 0 1) := by simp [metasL]
    have h2 : metasT [t] = metasP (t.pre 0 1) := by simp [metasT, metasH_pre t Hfit.out]
    rw [h1, h2, sortU_twice]
  obtain ⟨L, hL⟩ : ∃ L, sortU (metasT [t]) = L := ⟨_, rfl⟩
  have HM1 : Hid (∀ {F : Nat → Prop} {w : World} {v : Value}, IsSl rpTm F w v [t, t] → Calls Try.prog 79 #[v] w (FreshInts L w)) := fun h => by
    rw [← hL, ← He]; exact metas6_k h (by simp) (fun u hu => by have := Hf.out; simp at hu; subst hu; omega)
  have HM2 : Hid (∀ {F : Nat → Prop} {w : World} {v : Value}, IsSl rpTm F w v [t] → Calls Try.prog 80 #[v] w (FreshInts L w)) := fun {F w v} h => by
    rw [← hL]; exact Metas_r h w (Keep.refl _ _) (by simp) (fun u hu => by have := Hf.out; simp at hu; subst hu; omega) (fun u hu => by simp at hu; subst hu; exact Hfit.out)
  clear He hL
  obtain ⟨lo, hlo⟩ : ∃ lo, looseOf (t.looses 0) = lo := ⟨_, rfl⟩
  have Hlo := Lib.hid hlo
  have Hlo2 : Hid ((t.looses 0).foldl looseL 0 = lo) := hlo
  clear hlo
  obtain ⟨cn, hcn⟩ : ∃ cn, countHd (t.heads 0) hk hi = cn := ⟨_, rfl⟩
  have Hcn := Lib.hid hcn; clear hcn
  have cx10 : w5.cell? ⟨w.heap.size, 0, none⟩ = some (.slice t_pa t_n t_pc) := x1_w5.cell rfl
  have cx11 : w5.cell? ⟨w.heap.size, 1, none⟩ = some (.int .i64 t_k) := x1_w5.cell rfl
  have cx12 : w5.cell? ⟨w.heap.size, 2, none⟩ = some (.int .i64 t_i) := x1_w5.cell rfl
  have cx13 : w5.cell? ⟨w.heap.size, 3, none⟩ = some (.slice t_qa t_m t_qc) := x1_w5.cell rfl
  have lx1 := x1_w5.lt
  have cx20 : w5.cell? ⟨w.heap.size + 1, 0, none⟩ = some (.int .i64 hk) := x2_w5.cell rfl
  have cx21 : w5.cell? ⟨w.heap.size + 1, 1, none⟩ = some (.int .i64 hi) := x2_w5.cell rfl
  have lx2 := x2_w5.lt
  go_wp2_with fail
  refine (to6_any T_w5.out w5 (by have := Hf.out; omega) (Keep.refl _ _)).mono ?_
  intro e v5 h
  obtain ⟨_, _, _, _, rfl, hT, hbx0⟩ := h
  have X_v5 := Lib.hid (hT.weaken (F' := fun _ => True) fun _ _ _ => trivial)
  clear hT
  obtain ⟨X_pa, X_pc, X_qa, X_qc, rfl, rfl, rfl, rfl⟩ := X_v5.out.shape
  rw [Et_n.out, Et_m.out, Et_k.out, Et_i.out] at X_v5 ⊢
  have hbx : Below w5.heap.size w5 v5 := hbx0
  clear hbx0
  clear cx10 cx11 cx12 cx13 lx1 cx20 cx21 lx2
  have x1_v5 := x1_w5.below hbx
  have x2_v5 := x2_w5.below hbx
  have T_v5 := Lib.hid (T_w5.out.bel hbx)
  have B_v5 := B_w5.trans (hbx.mono B_w5.size)
  clear x1_w5 x2_w5 T_w5 B_w5 hbx
  go_wp2_with fail
  obtain ⟨v6, hv6⟩ : ∃ v6, v5.alloc (.cells #[.slice X_pa t_n X_pc, .int .i64 t_k, .int .i64 t_i, .slice X_qa t_m X_qc] 37) = v6 := ⟨_, rfl⟩
  obtain ⟨q, hq⟩ : ∃ q, v5.heap.size = q := ⟨_, rfl⟩
  have hbx : Below v5.heap.size v5 v6 := by rw [← hv6]; exact (Below.refl _ _).alloc (Nat.le_refl _) _
  have x3_v6 : Blk v6 q #[.slice X_pa t_n X_pc, .int .i64 t_k, .int .i64 t_i, .slice X_qa t_m X_qc] 37 := by rw [← hv6]; exact Blk.new _ _ _ hq.symm
  try rw [hv6]
  try rw [hq]
  clear hv6 hq
  have x1_v6 := x1_v5.below hbx
  have x2_v6 := x2_v5.below hbx
  have T_v6 := Lib.hid (T_v5.out.bel hbx)
  have X_v6 := Lib.hid (X_v5.out.bel hbx)
  have B_v6 := B_v5.trans (hbx.mono B_v5.size)
  clear x1_v5 x2_v5 T_v5 X_v5 B_v5 hbx
  refine wp_region_noPanic (wp_region_need (S := fun w' => w'.cell? ⟨w.heap.size, 0, none⟩ = some (.slice t_pa t_n t_pc) ∧ w'.cell? ⟨w.heap.size, 1, none⟩ = some (.int .i64 t_k) ∧ w'.cell? ⟨w.heap.size, 2, none⟩ = some (.int .i64 t_i) ∧ w'.cell? ⟨w.heap.size, 3, none⟩ = some (.slice t_qa t_m t_qc) ∧ w'.cell? ⟨w.heap.size + 1, 0, none⟩ = some (.int .i64 hk) ∧ w'.cell? ⟨w.heap.size + 1, 1, none⟩ = some (.int .i64 hi) ∧ w'.cell? ⟨q, 0, none⟩ = some (.slice X_pa t_n X_pc) ∧ w'.cell? ⟨q, 1, none⟩ = some (.int .i64 t_k) ∧ w'.cell? ⟨q, 2, none⟩ = some (.int .i64 t_i) ∧ w'.cell? ⟨q, 3, none⟩ = some (.slice X_qa t_m X_qc)) (by kernel_rfl) ?_)
  have hS : (v6.drew).cell? ⟨w.heap.size, 0, none⟩ = some (.slice t_pa t_n t_pc) ∧ (v6.drew).cell? ⟨w.heap.size, 1, none⟩ = some (.int .i64 t_k) ∧ (v6.drew).cell? ⟨w.heap.size, 2, none⟩ = some (.int .i64 t_i) ∧ (v6.drew).cell? ⟨w.heap.size, 3, none⟩ = some (.slice t_qa t_m t_qc) ∧ (v6.drew).cell? ⟨w.heap.size + 1, 0, none⟩ = some (.int .i64 hk) ∧ (v6.drew).cell? ⟨w.heap.size + 1, 1, none⟩ = some (.int .i64 hi) ∧ (v6.drew).cell? ⟨q, 0, none⟩ = some (.slice X_pa t_n X_pc) ∧ (v6.drew).cell? ⟨q, 1, none⟩ = some (.int .i64 t_k) ∧ (v6.drew).cell? ⟨q, 2, none⟩ = some (.int .i64 t_i) ∧ (v6.drew).cell? ⟨q, 3, none⟩ = some (.slice X_qa t_m X_qc) := ⟨x1_v6.drew.cell rfl, x1_v6.drew.cell rfl, x1_v6.drew.cell rfl, x1_v6.drew.cell rfl, x2_v6.drew.cell rfl, x2_v6.drew.cell rfl, x3_v6.drew.cell rfl, x3_v6.drew.cell rfl, x3_v6.drew.cell rfl, x3_v6.drew.cell rfl⟩
  refine wpN_step (i := 0) (by kernel_rfl) rfl (fun K hK => ?_)
  go_simp
  refine (known06 v6.drew).mono ?_
  rintro e v7 ⟨rfl, hbx0⟩
  have hbx : Below v6.heap.size v6 v7 := (Below.refl _ _).drew.trans hbx0
  clear hbx0
  have x1_v7 := x1_v6.below hbx
  have x2_v7 := x2_v6.below hbx
  have x3_v7 := x3_v6.below hbx
  have T_v7 := Lib.hid (T_v6.out.bel hbx)
  have X_v7 := Lib.hid (X_v6.out.bel hbx)
  have B_v7 := B_v6.trans (hbx.mono B_v6.size)
  clear x1_v6 x2_v6 x3_v6 T_v6 X_v6 B_v6 hbx
  have hS : (v7).cell? ⟨w.heap.size, 0, none⟩ = some (.slice t_pa t_n t_pc) ∧ (v7).cell? ⟨w.heap.size, 1, none⟩ = some (.int .i64 t_k) ∧ (v7).cell? ⟨w.heap.size, 2, none⟩ = some (.int .i64 t_i) ∧ (v7).cell? ⟨w.heap.size, 3, none⟩ = some (.slice t_qa t_m t_qc) ∧ (v7).cell? ⟨w.heap.size + 1, 0, none⟩ = some (.int .i64 hk) ∧ (v7).cell? ⟨w.heap.size + 1, 1, none⟩ = some (.int .i64 hi) ∧ (v7).cell? ⟨q, 0, none⟩ = some (.slice X_pa t_n X_pc) ∧ (v7).cell? ⟨q, 1, none⟩ = some (.int .i64 t_k) ∧ (v7).cell? ⟨q, 2, none⟩ = some (.int .i64 t_i) ∧ (v7).cell? ⟨q, 3, none⟩ = some (.slice X_qa t_m X_qc) := ⟨x1_v7.cell rfl, x1_v7.cell rfl, x1_v7.cell rfl, x1_v7.cell rfl, x2_v7.cell rfl, x2_v7.cell rfl, x3_v7.cell rfl, x3_v7.cell rfl, x3_v7.cell rfl, x3_v7.cell rfl⟩
  refine hK.out _ _ (fun _ => hS) ?_
  clear hK K
  try simp only [Act.put, List.setIfInBounds_toArray, List.set_cons_zero, List.set_cons_succ, List.getElem_toArray, List.getElem_cons_zero, List.getElem_cons_succ]
  refine wpN_take (i := 1) (v := ?v1) rfl (by kernel_rfl) (fun _ _ _ h => h) hS (Or.inl ⟨by rfl, ?hy1⟩) ?hr1
  case hy1 => (intro wS hSw; (try dsimp only at hSw); go_simp; (try with_reducible rfl))
  try simp only [Act.put, List.setIfInBounds_toArray, List.set_cons_zero, List.set_cons_succ, List.getElem_toArray, List.getElem_cons_zero, List.getElem_cons_succ]
  refine wpN_take (i := 2) (v := ?v2) rfl (by kernel_rfl) (fun _ _ _ h => h) hS (Or.inl ⟨by rfl, ?hy2⟩) ?hr2
  case hy2 => (intro wS hSw; (try dsimp only at hSw); go_simp; (try with_reducible rfl))
  try simp only [Act.put, List.setIfInBounds_toArray, List.set_cons_zero, List.set_cons_succ, List.getElem_toArray, List.getElem_cons_zero, List.getElem_cons_succ]
  refine wpN_take (i := 4) (v := ?v3) rfl (by kernel_rfl) (fun _ _ _ h => h) hS (Or.inl ⟨by rfl, ?hy3⟩) ?hr3
  case hy3 => (intro wS hSw; (try dsimp only at hSw); go_simp; (try with_reducible rfl))
  try simp only [Act.put, List.setIfInBounds_toArray, List.set_cons_zero, List.set_cons_succ, List.getElem_toArray, List.getElem_cons_zero, List.getElem_cons_succ]
  refine wpN_step (i := 3) (by kernel_rfl) rfl (fun K hK => ?_)
  go_simp
  refine (right6_k X_v7.out (by have := Hf.out; omega)).mono ?_
  intro e v8 h
  obtain ⟨r1, Hr1, rfl, hbx0⟩ := of_retB' h
  clear h
  have hbx : Below v7.heap.size v7 v8 := hbx0
  clear hbx0
  have x1_v8 := x1_v7.below hbx
  have x2_v8 := x2_v7.below hbx
  have x3_v8 := x3_v7.below hbx
  have T_v8 := Lib.hid (T_v7.out.bel hbx)
  have X_v8 := Lib.hid (X_v7.out.bel hbx)
  have B_v8 := B_v7.trans (hbx.mono B_v7.size)
  clear x1_v7 x2_v7 x3_v7 T_v7 X_v7 B_v7 hbx
  have hS : (v8).cell? ⟨w.heap.size, 0, none⟩ = some (.slice t_pa t_n t_pc) ∧ (v8).cell? ⟨w.heap.size, 1, none⟩ = some (.int .i64 t_k) ∧ (v8).cell? ⟨w.heap.size, 2, none⟩ = some (.int .i64 t_i) ∧ (v8).cell? ⟨w.heap.size, 3, none⟩ = some (.slice t_qa t_m t_qc) ∧ (v8).cell? ⟨w.heap.size + 1, 0, none⟩ = some (.int .i64 hk) ∧ (v8).cell? ⟨w.heap.size + 1, 1, none⟩ = some (.int .i64 hi) ∧ (v8).cell? ⟨q, 0, none⟩ = some (.slice X_pa t_n X_pc) ∧ (v8).cell? ⟨q, 1, none⟩ = some (.int .i64 t_k) ∧ (v8).cell? ⟨q, 2, none⟩ = some (.int .i64 t_i) ∧ (v8).cell? ⟨q, 3, none⟩ = some (.slice X_qa t_m X_qc) := ⟨x1_v8.cell rfl, x1_v8.cell rfl, x1_v8.cell rfl, x1_v8.cell rfl, x2_v8.cell rfl, x2_v8.cell rfl, x3_v8.cell rfl, x3_v8.cell rfl, x3_v8.cell rfl, x3_v8.cell rfl⟩
  refine hK.out _ _ (fun _ => hS) ?_
  clear hK K
  try simp only [Act.put, List.setIfInBounds_toArray, List.set_cons_zero, List.set_cons_succ, List.getElem_toArray, List.getElem_cons_zero, List.getElem_cons_succ]
  refine wpN_step (i := 5) (by kernel_rfl) rfl (fun K hK => ?_)
  go_simp
  refine (Right_r T_v8.out (by have := Hf.out; have := Hsz.out; omega)).mono ?_
  intro e v9 h
  obtain ⟨r2, Hr2, rfl, hbx0⟩ := of_retB' h
  clear h
  have hbx : Below v8.heap.size v8 v9 := hbx0
  clear hbx0
  have x1_v9 := x1_v8.below hbx
  have x2_v9 := x2_v8.below hbx
  have x3_v9 := x3_v8.below hbx
  have T_v9 := Lib.hid (T_v8.out.bel hbx)
  have X_v9 := Lib.hid (X_v8.out.bel hbx)
  have B_v9 := B_v8.trans (hbx.mono B_v8.size)
  clear x1_v8 x2_v8 x3_v8 T_v8 X_v8 B_v8 hbx
  have hS : (v9).cell? ⟨w.heap.size, 0, none⟩ = some (.slice t_pa t_n t_pc) ∧ (v9).cell? ⟨w.heap.size, 1, none⟩ = some (.int .i64 t_k) ∧ (v9).cell? ⟨w.heap.size, 2, none⟩ = some (.int .i64 t_i) ∧ (v9).cell? ⟨w.heap.size, 3, none⟩ = some (.slice t_qa t_m t_qc) ∧ (v9).cell? ⟨w.heap.size + 1, 0, none⟩ = some (.int .i64 hk) ∧ (v9).cell? ⟨w.heap.size + 1, 1, none⟩ = some (.int .i64 hi) ∧ (v9).cell? ⟨q, 0, none⟩ = some (.slice X_pa t_n X_pc) ∧ (v9).cell? ⟨q, 1, none⟩ = some (.int .i64 t_k) ∧ (v9).cell? ⟨q, 2, none⟩ = some (.int .i64 t_i) ∧ (v9).cell? ⟨q, 3, none⟩ = some (.slice X_qa t_m X_qc) := ⟨x1_v9.cell rfl, x1_v9.cell rfl, x1_v9.cell rfl, x1_v9.cell rfl, x2_v9.cell rfl, x2_v9.cell rfl, x3_v9.cell rfl, x3_v9.cell rfl, x3_v9.cell rfl, x3_v9.cell rfl⟩
  refine hK.out _ _ (fun _ => hS) ?_
  clear hK K
  try simp only [Act.put, List.setIfInBounds_toArray, List.set_cons_zero, List.set_cons_succ, List.getElem_toArray, List.getElem_cons_zero, List.getElem_cons_succ]
  have hrr : r2 = r1 := Bool.eq_iff_iff.2 (Hr2.out.trans Hr1.out.symm)
  rw [hrr]
  clear Hr2 hrr Hr1
  refine wpN_take (i := 6) (v := ?v4) rfl (by kernel_rfl) (fun _ _ _ h => h) hS (Or.inl ⟨by rfl, ?hy4⟩) ?hr4
  case hy4 => (intro wS hSw; (try dsimp only at hSw); go_simp; (try with_reducible rfl))
  try simp only [Act.put, List.setIfInBounds_toArray, List.set_cons_zero, List.set_cons_succ, List.getElem_toArray, List.getElem_cons_zero, List.getElem_cons_succ]
  refine wpN_take (i := 7) (v := ?v5) rfl (by kernel_rfl) (fun _ _ _ h => h) hS (Or.inl ⟨by rfl, ?hy5⟩) ?hr5
  case hy5 => (intro wS hSw; (try dsimp only at hSw); go_simp; (try with_reducible rfl))
  try simp only [Act.put, List.setIfInBounds_toArray, List.set_cons_zero, List.set_cons_succ, List.getElem_toArray, List.getElem_cons_zero, List.getElem_cons_succ]
  refine wpN_take (i := 8) (v := ?v6) rfl (by kernel_rfl) (fun _ _ _ h => h) hS (Or.inl ⟨by rfl, ?hy6⟩) ?hr6
  case hy6 => (intro wS hSw; (try dsimp only at hSw); go_simp; (try with_reducible rfl))
  try simp only [Act.put, List.setIfInBounds_toArray, List.set_cons_zero, List.set_cons_succ, List.getElem_toArray, List.getElem_cons_zero, List.getElem_cons_succ]
  refine wpN_take (i := 9) (v := ?v7) rfl (by kernel_rfl) (fun _ _ _ h => h) hS (Or.inl ⟨by rfl, ?hy7⟩) ?hr7
  case hy7 => (intro wS hSw; (try dsimp only at hSw); go_simp; (try with_reducible rfl))
  try simp only [Act.put, List.setIfInBounds_toArray, List.set_cons_zero, List.set_cons_succ, List.getElem_toArray, List.getElem_cons_zero, List.getElem_cons_succ]
  refine wpN_take (i := 11) (v := ?v8) rfl (by kernel_rfl) (fun _ _ _ h => h) hS (Or.inl ⟨by rfl, ?hy8⟩) ?hr8
  case hy8 => (intro wS hSw; (try dsimp only at hSw); go_simp; (try with_reducible rfl))
  try simp only [Act.put, List.setIfInBounds_toArray, List.set_cons_zero, List.set_cons_succ, List.getElem_toArray, List.getElem_cons_zero, List.getElem_cons_succ]
  refine wpN_step (i := 10) (by kernel_rfl) rfl (fun K hK => ?_)
  go_simp
  refine (size6_k X_v9.out (by have := Hf.out; omega)).mono ?_
  rintro e v10 ⟨rfl, hbx0⟩
  have hbx : Below v9.heap.size v9 v10 := hbx0
  clear hbx0
  have x1_v10 := x1_v9.below hbx
  have x2_v10 := x2_v9.below hbx
  have x3_v10 := x3_v9.below hbx
  have T_v10 := Lib.hid (T_v9.out.bel hbx)
  have X_v10 := Lib.hid (X_v9.out.bel hbx)
  have B_v10 := B_v9.trans (hbx.mono B_v9.size)
  clear x1_v9 x2_v9 x3_v9 T_v9 X_v9 B_v9 hbx
  have hS : (v10).cell? ⟨w.heap.size, 0, none⟩ = some (.slice t_pa t_n t_pc) ∧ (v10).cell? ⟨w.heap.size, 1, none⟩ = some (.int .i64 t_k) ∧ (v10).cell? ⟨w.heap.size, 2, none⟩ = some (.int .i64 t_i) ∧ (v10).cell? ⟨w.heap.size, 3, none⟩ = some (.slice t_qa t_m t_qc) ∧ (v10).cell? ⟨w.heap.size + 1, 0, none⟩ = some (.int .i64 hk) ∧ (v10).cell? ⟨w.heap.size + 1, 1, none⟩ = some (.int .i64 hi) ∧ (v10).cell? ⟨q, 0, none⟩ = some (.slice X_pa t_n X_pc) ∧ (v10).cell? ⟨q, 1, none⟩ = some (.int .i64 t_k) ∧ (v10).cell? ⟨q, 2, none⟩ = some (.int .i64 t_i) ∧ (v10).cell? ⟨q, 3, none⟩ = some (.slice X_qa t_m X_qc) := ⟨x1_v10.cell rfl, x1_v10.cell rfl, x1_v10.cell rfl, x1_v10.cell rfl, x2_v10.cell rfl, x2_v10.cell rfl, x3_v10.cell rfl, x3_v10.cell rfl, x3_v10.cell rfl, x3_v10.cell rfl⟩
  refine hK.out _ _ (fun _ => hS) ?_
  clear hK K
  try simp only [Act.put, List.setIfInBounds_toArray, List.set_cons_zero, List.set_cons_succ, List.getElem_toArray, List.getElem_cons_zero, List.getElem_cons_succ]
  refine wpN_step (i := 12) (by kernel_rfl) rfl (fun K hK => ?_)
  go_simp
  refine (size6_r _ T_v10.out v10 (by have := Hf.out; have := Hsz.out; omega) (Keep.refl _ _)).mono ?_
  rintro e v11 ⟨rfl, hbx0⟩
  have hbx : Below v10.heap.size v10 v11 := hbx0
  clear hbx0
  have x1_v11 := x1_v10.below hbx
  have x2_v11 := x2_v10.below hbx
  have x3_v11 := x3_v10.below hbx
  have T_v11 := Lib.hid (T_v10.out.bel hbx)
  have X_v11 := Lib.hid (X_v10.out.bel hbx)
  have B_v11 := B_v10.trans (hbx.mono B_v10.size)
  clear x1_v10 x2_v10 x3_v10 T_v10 X_v10 B_v10 hbx
  have hS : (v11).cell? ⟨w.heap.size, 0, none⟩ = some (.slice t_pa t_n t_pc) ∧ (v11).cell? ⟨w.heap.size, 1, none⟩ = some (.int .i64 t_k) ∧ (v11).cell? ⟨w.heap.size, 2, none⟩ = some (.int .i64 t_i) ∧ (v11).cell? ⟨w.heap.size, 3, none⟩ = some (.slice t_qa t_m t_qc) ∧ (v11).cell? ⟨w.heap.size + 1, 0, none⟩ = some (.int .i64 hk) ∧ (v11).cell? ⟨w.heap.size + 1, 1, none⟩ = some (.int .i64 hi) ∧ (v11).cell? ⟨q, 0, none⟩ = some (.slice X_pa t_n X_pc) ∧ (v11).cell? ⟨q, 1, none⟩ = some (.int .i64 t_k) ∧ (v11).cell? ⟨q, 2, none⟩ = some (.int .i64 t_i) ∧ (v11).cell? ⟨q, 3, none⟩ = some (.slice X_qa t_m X_qc) := ⟨x1_v11.cell rfl, x1_v11.cell rfl, x1_v11.cell rfl, x1_v11.cell rfl, x2_v11.cell rfl, x2_v11.cell rfl, x3_v11.cell rfl, x3_v11.cell rfl, x3_v11.cell rfl, x3_v11.cell rfl⟩
  refine hK.out _ _ (fun _ => hS) ?_
  clear hK K
  try simp only [Act.put, List.setIfInBounds_toArray, List.set_cons_zero, List.set_cons_succ, List.getElem_toArray, List.getElem_cons_zero, List.getElem_cons_succ]
  refine wpN_take (i := 13) (v := ?v9) rfl (by kernel_rfl) (fun _ _ _ h => h) hS (Or.inl ⟨by rfl, ?hy9⟩) ?hr9
  case hy9 => (intro wS hSw; (try dsimp only at hSw); go_simp; (try with_reducible rfl))
  try simp only [Act.put, List.setIfInBounds_toArray, List.set_cons_zero, List.set_cons_succ, List.getElem_toArray, List.getElem_cons_zero, List.getElem_cons_succ]
  refine wpN_take (i := 14) (v := ?v10) rfl (by kernel_rfl) (fun _ _ _ h => h) hS (Or.inl ⟨by rfl, ?hy10⟩) ?hr10
  case hy10 => (intro wS hSw; (try dsimp only at hSw); go_simp; (try with_reducible rfl))
  try simp only [Act.put, List.setIfInBounds_toArray, List.set_cons_zero, List.set_cons_succ, List.getElem_toArray, List.getElem_cons_zero, List.getElem_cons_succ]
  refine wpN_take (i := 15) (v := ?v11) rfl (by kernel_rfl) (fun _ _ _ h => h) hS (Or.inl ⟨by rfl, ?hy11⟩) ?hr11
  case hy11 => (intro wS hSw; (try dsimp only at hSw); go_simp; (try with_reducible rfl))
  try simp only [Act.put, List.setIfInBounds_toArray, List.set_cons_zero, List.set_cons_succ, List.getElem_toArray, List.getElem_cons_zero, List.getElem_cons_succ]
  refine wpN_take (i := 16) (v := ?v12) rfl (by kernel_rfl) (fun _ _ _ h => h) hS (Or.inl ⟨by rfl, ?hy12⟩) ?hr12
  case hy12 => (intro wS hSw; (try dsimp only at hSw); go_simp; (try with_reducible rfl))
  try simp only [Act.put, List.setIfInBounds_toArray, List.set_cons_zero, List.set_cons_succ, List.getElem_toArray, List.getElem_cons_zero, List.getElem_cons_succ]
  refine wpN_take (i := 18) (v := ?v13) rfl (by kernel_rfl) (fun _ _ _ h => h) hS (Or.inl ⟨by rfl, ?hy13⟩) ?hr13
  case hy13 => (intro wS hSw; (try dsimp only at hSw); go_simp; (try with_reducible rfl))
  try simp only [Act.put, List.setIfInBounds_toArray, List.set_cons_zero, List.set_cons_succ, List.getElem_toArray, List.getElem_cons_zero, List.getElem_cons_succ]
  refine wpN_step (i := 17) (by kernel_rfl) rfl (fun K hK => ?_)
  go_simp
  refine (depth6_k X_v11.out (by have := Hf.out; omega)).mono ?_
  rintro e v12 ⟨rfl, hbx0⟩
  have hbx : Below v11.heap.size v11 v12 := hbx0
  clear hbx0
  have x1_v12 := x1_v11.below hbx
  have x2_v12 := x2_v11.below hbx
  have x3_v12 := x3_v11.below hbx
  have T_v12 := Lib.hid (T_v11.out.bel hbx)
  have X_v12 := Lib.hid (X_v11.out.bel hbx)
  have B_v12 := B_v11.trans (hbx.mono B_v11.size)
  clear x1_v11 x2_v11 x3_v11 T_v11 X_v11 B_v11 hbx
  have hS : (v12).cell? ⟨w.heap.size, 0, none⟩ = some (.slice t_pa t_n t_pc) ∧ (v12).cell? ⟨w.heap.size, 1, none⟩ = some (.int .i64 t_k) ∧ (v12).cell? ⟨w.heap.size, 2, none⟩ = some (.int .i64 t_i) ∧ (v12).cell? ⟨w.heap.size, 3, none⟩ = some (.slice t_qa t_m t_qc) ∧ (v12).cell? ⟨w.heap.size + 1, 0, none⟩ = some (.int .i64 hk) ∧ (v12).cell? ⟨w.heap.size + 1, 1, none⟩ = some (.int .i64 hi) ∧ (v12).cell? ⟨q, 0, none⟩ = some (.slice X_pa t_n X_pc) ∧ (v12).cell? ⟨q, 1, none⟩ = some (.int .i64 t_k) ∧ (v12).cell? ⟨q, 2, none⟩ = some (.int .i64 t_i) ∧ (v12).cell? ⟨q, 3, none⟩ = some (.slice X_qa t_m X_qc) := ⟨x1_v12.cell rfl, x1_v12.cell rfl, x1_v12.cell rfl, x1_v12.cell rfl, x2_v12.cell rfl, x2_v12.cell rfl, x3_v12.cell rfl, x3_v12.cell rfl, x3_v12.cell rfl, x3_v12.cell rfl⟩
  refine hK.out _ _ (fun _ => hS) ?_
  clear hK K
  try simp only [Act.put, List.setIfInBounds_toArray, List.set_cons_zero, List.set_cons_succ, List.getElem_toArray, List.getElem_cons_zero, List.getElem_cons_succ]
  refine wpN_step (i := 19) (by kernel_rfl) rfl (fun K hK => ?_)
  go_simp
  refine (depth6_r _ T_v12.out v12 (by have := Hf.out; have := Hsz.out; omega) (Keep.refl _ _)).mono ?_
  rintro e v13 ⟨rfl, hbx0⟩
  have hbx : Below v12.heap.size v12 v13 := hbx0
  clear hbx0
  have x1_v13 := x1_v12.below hbx
  have x2_v13 := x2_v12.below hbx
  have x3_v13 := x3_v12.below hbx
  have T_v13 := Lib.hid (T_v12.out.bel hbx)
  have X_v13 := Lib.hid (X_v12.out.bel hbx)
  have B_v13 := B_v12.trans (hbx.mono B_v12.size)
  clear x1_v12 x2_v12 x3_v12 T_v12 X_v12 B_v12 hbx
  have hS : (v13).cell? ⟨w.heap.size, 0, none⟩ = some (.slice t_pa t_n t_pc) ∧ (v13).cell? ⟨w.heap.size, 1, none⟩ = some (.int .i64 t_k) ∧ (v13).cell? ⟨w.heap.size, 2, none⟩ = some (.int .i64 t_i) ∧ (v13).cell? ⟨w.heap.size, 3, none⟩ = some (.slice t_qa t_m t_qc) ∧ (v13).cell? ⟨w.heap.size + 1, 0, none⟩ = some (.int .i64 hk) ∧ (v13).cell? ⟨w.heap.size + 1, 1, none⟩ = some (.int .i64 hi) ∧ (v13).cell? ⟨q, 0, none⟩ = some (.slice X_pa t_n X_pc) ∧ (v13).cell? ⟨q, 1, none⟩ = some (.int .i64 t_k) ∧ (v13).cell? ⟨q, 2, none⟩ = some (.int .i64 t_i) ∧ (v13).cell? ⟨q, 3, none⟩ = some (.slice X_qa t_m X_qc) := ⟨x1_v13.cell rfl, x1_v13.cell rfl, x1_v13.cell rfl, x1_v13.cell rfl, x2_v13.cell rfl, x2_v13.cell rfl, x3_v13.cell rfl, x3_v13.cell rfl, x3_v13.cell rfl, x3_v13.cell rfl⟩
  refine hK.out _ _ (fun _ => hS) ?_
  clear hK K
  try simp only [Act.put, List.setIfInBounds_toArray, List.set_cons_zero, List.set_cons_succ, List.getElem_toArray, List.getElem_cons_zero, List.getElem_cons_succ]
  refine wpN_take (i := 20) (v := ?v14) rfl (by kernel_rfl) (fun _ _ _ h => h) hS (Or.inl ⟨by rfl, ?hy14⟩) ?hr14
  case hy14 => (intro wS hSw; (try dsimp only at hSw); go_simp; (try with_reducible rfl))
  try simp only [Act.put, List.setIfInBounds_toArray, List.set_cons_zero, List.set_cons_succ, List.getElem_toArray, List.getElem_cons_zero, List.getElem_cons_succ]
  refine wpN_take (i := 21) (v := ?v15) rfl (by kernel_rfl) (fun _ _ _ h => h) hS (Or.inl ⟨by rfl, ?hy15⟩) ?hr15
  case hy15 => (intro wS hSw; (try dsimp only at hSw); go_simp; (try with_reducible rfl))
  try simp only [Act.put, List.setIfInBounds_toArray, List.set_cons_zero, List.set_cons_succ, List.getElem_toArray, List.getElem_cons_zero, List.getElem_cons_succ]
  refine wpN_take (i := 22) (v := ?v16) rfl (by kernel_rfl) (fun _ _ _ h => h) hS (Or.inl ⟨by rfl, ?hy16⟩) ?hr16
  case hy16 => (intro wS hSw; (try dsimp only at hSw); go_simp; (try with_reducible rfl))
  try simp only [Act.put, List.setIfInBounds_toArray, List.set_cons_zero, List.set_cons_succ, List.getElem_toArray, List.getElem_cons_zero, List.getElem_cons_succ]
  refine wpN_take (i := 23) (v := ?v17) rfl (by kernel_rfl) (fun _ _ _ h => h) hS (Or.inl ⟨by rfl, ?hy17⟩) ?hr17
  case hy17 => (intro wS hSw; (try dsimp only at hSw); go_simp; (try with_reducible rfl))
  try simp only [Act.put, List.setIfInBounds_toArray, List.set_cons_zero, List.set_cons_succ, List.getElem_toArray, List.getElem_cons_zero, List.getElem_cons_succ]
  refine wpN_take (i := 25) (v := ?v18) rfl (by kernel_rfl) (fun _ _ _ h => h) hS (Or.inl ⟨by rfl, ?hy18⟩) ?hr18
  case hy18 => (intro wS hSw; (try dsimp only at hSw); go_simp; (try with_reducible rfl))
  try simp only [Act.put, List.setIfInBounds_toArray, List.set_cons_zero, List.set_cons_succ, List.getElem_toArray, List.getElem_cons_zero, List.getElem_cons_succ]
  refine wpN_step (i := 24) (by kernel_rfl) rfl (fun K hK => ?_)
  go_simp
  have Cr := loose6_k X_v13.out (by have := Hf.out; omega) Hfit.out
  rw [Hlo2.out] at Cr
  refine Cr.mono ?_
  clear Cr
  rintro e v14 ⟨rfl, hbx0⟩
  have hbx : Below v13.heap.size v13 v14 := hbx0
  clear hbx0
  have x1_v14 := x1_v13.below hbx
  have x2_v14 := x2_v13.below hbx
  have x3_v14 := x3_v13.below hbx
  have T_v14 := Lib.hid (T_v13.out.bel hbx)
  have X_v14 := Lib.hid (X_v13.out.bel hbx)
  have B_v14 := B_v13.trans (hbx.mono B_v13.size)
  clear x1_v13 x2_v13 x3_v13 T_v13 X_v13 B_v13 hbx
  have hS : (v14).cell? ⟨w.heap.size, 0, none⟩ = some (.slice t_pa t_n t_pc) ∧ (v14).cell? ⟨w.heap.size, 1, none⟩ = some (.int .i64 t_k) ∧ (v14).cell? ⟨w.heap.size, 2, none⟩ = some (.int .i64 t_i) ∧ (v14).cell? ⟨w.heap.size, 3, none⟩ = some (.slice t_qa t_m t_qc) ∧ (v14).cell? ⟨w.heap.size + 1, 0, none⟩ = some (.int .i64 hk) ∧ (v14).cell? ⟨w.heap.size + 1, 1, none⟩ = some (.int .i64 hi) ∧ (v14).cell? ⟨q, 0, none⟩ = some (.slice X_pa t_n X_pc) ∧ (v14).cell? ⟨q, 1, none⟩ = some (.int .i64 t_k) ∧ (v14).cell? ⟨q, 2, none⟩ = some (.int .i64 t_i) ∧ (v14).cell? ⟨q, 3, none⟩ = some (.slice X_qa t_m X_qc) := ⟨x1_v14.cell rfl, x1_v14.cell rfl, x1_v14.cell rfl, x1_v14.cell rfl, x2_v14.cell rfl, x2_v14.cell rfl, x3_v14.cell rfl, x3_v14.cell rfl, x3_v14.cell rfl, x3_v14.cell rfl⟩
  refine hK.out _ _ (fun _ => hS) ?_
  clear hK K
  try simp only [Act.put, List.setIfInBounds_toArray, List.set_cons_zero, List.set_cons_succ, List.getElem_toArray, List.getElem_cons_zero, List.getElem_cons_succ]
  refine wpN_step (i := 26) (by kernel_rfl) rfl (fun K hK => ?_)
  go_simp
  have Cr := Loose_r T_v14.out v14 (Keep.refl _ _) (by have := Hf.out; omega) Hfit.out
  rw [Hlo.out] at Cr
  refine Cr.mono ?_
  clear Cr
  rintro e v15 ⟨rfl, hbx0⟩
  have hbx : Below v14.heap.size v14 v15 := hbx0
  clear hbx0
  have x1_v15 := x1_v14.below hbx
  have x2_v15 := x2_v14.below hbx
  have x3_v15 := x3_v14.below hbx
  have T_v15 := Lib.hid (T_v14.out.bel hbx)
  have X_v15 := Lib.hid (X_v14.out.bel hbx)
  have B_v15 := B_v14.trans (hbx.mono B_v14.size)
  clear x1_v14 x2_v14 x3_v14 T_v14 X_v14 B_v14 hbx
  have hS : (v15).cell? ⟨w.heap.size, 0, none⟩ = some (.slice t_pa t_n t_pc) ∧ (v15).cell? ⟨w.heap.size, 1, none⟩ = some (.int .i64 t_k) ∧ (v15).cell? ⟨w.heap.size, 2, none⟩ = some (.int .i64 t_i) ∧ (v15).cell? ⟨w.heap.size, 3, none⟩ = some (.slice t_qa t_m t_qc) ∧ (v15).cell? ⟨w.heap.size + 1, 0, none⟩ = some (.int .i64 hk) ∧ (v15).cell? ⟨w.heap.size + 1, 1, none⟩ = some (.int .i64 hi) ∧ (v15).cell? ⟨q, 0, none⟩ = some (.slice X_pa t_n X_pc) ∧ (v15).cell? ⟨q, 1, none⟩ = some (.int .i64 t_k) ∧ (v15).cell? ⟨q, 2, none⟩ = some (.int .i64 t_i) ∧ (v15).cell? ⟨q, 3, none⟩ = some (.slice X_qa t_m X_qc) := ⟨x1_v15.cell rfl, x1_v15.cell rfl, x1_v15.cell rfl, x1_v15.cell rfl, x2_v15.cell rfl, x2_v15.cell rfl, x3_v15.cell rfl, x3_v15.cell rfl, x3_v15.cell rfl, x3_v15.cell rfl⟩
  refine hK.out _ _ (fun _ => hS) ?_
  clear hK K
  try simp only [Act.put, List.setIfInBounds_toArray, List.set_cons_zero, List.set_cons_succ, List.getElem_toArray, List.getElem_cons_zero, List.getElem_cons_succ]
  refine wpN_take (i := 27) (v := ?v19) rfl (by kernel_rfl) (fun _ _ _ h => h) hS (Or.inl ⟨by rfl, ?hy19⟩) ?hr19
  case hy19 => (intro wS hSw; (try dsimp only at hSw); go_simp; (try with_reducible rfl))
  try simp only [Act.put, List.setIfInBounds_toArray, List.set_cons_zero, List.set_cons_succ, List.getElem_toArray, List.getElem_cons_zero, List.getElem_cons_succ]
  refine wpN_take (i := 28) (v := ?v20) rfl (by kernel_rfl) (fun _ _ _ h => h) hS (Or.inl ⟨by rfl, ?hy20⟩) ?hr20
  case hy20 => (intro wS hSw; (try dsimp only at hSw); go_simp; (try with_reducible rfl))
  try simp only [Act.put, List.setIfInBounds_toArray, List.set_cons_zero, List.set_cons_succ, List.getElem_toArray, List.getElem_cons_zero, List.getElem_cons_succ]
  refine wpN_take (i := 29) (v := ?v21) rfl (by kernel_rfl) (fun _ _ _ h => h) hS (Or.inl ⟨by rfl, ?hy21⟩) ?hr21
  case hy21 => (intro wS hSw; (try dsimp only at hSw); go_simp; (try with_reducible rfl))
  try simp only [Act.put, List.setIfInBounds_toArray, List.set_cons_zero, List.set_cons_succ, List.getElem_toArray, List.getElem_cons_zero, List.getElem_cons_succ]
  refine wpN_take (i := 30) (v := ?v22) rfl (by kernel_rfl) (fun _ _ _ h => h) hS (Or.inl ⟨by rfl, ?hy22⟩) ?hr22
  case hy22 => (intro wS hSw; (try dsimp only at hSw); go_simp; (try with_reducible rfl))
  try simp only [Act.put, List.setIfInBounds_toArray, List.set_cons_zero, List.set_cons_succ, List.getElem_toArray, List.getElem_cons_zero, List.getElem_cons_succ]
  refine wpN_take (i := 31) (v := ?v23) rfl (by kernel_rfl) (fun _ _ _ h => h) hS (Or.inl ⟨by rfl, ?hy23⟩) ?hr23
  case hy23 => (intro wS hSw; (try dsimp only at hSw); go_simp; (try with_reducible rfl))
  try simp only [Act.put, List.setIfInBounds_toArray, List.set_cons_zero, List.set_cons_succ, List.getElem_toArray, List.getElem_cons_zero, List.getElem_cons_succ]
  refine wpN_take (i := 34) (v := ?v24) rfl (by kernel_rfl) (fun _ _ _ h => h) hS (Or.inl ⟨by rfl, ?hy24⟩) ?hr24
  case hy24 => (intro wS hSw; (try dsimp only at hSw); go_simp; (try with_reducible rfl))
  try simp only [Act.put, List.setIfInBounds_toArray, List.set_cons_zero, List.set_cons_succ, List.getElem_toArray, List.getElem_cons_zero, List.getElem_cons_succ]
  refine wpN_gathersP [(32, 45), (33, 46), (35, 48), (36, 49)] 22 (PhiL [(32, phiLit #[.slice X_pa t_n X_pc, .int .i64 t_k, .int .i64 t_i, .slice X_qa t_m X_qc, .slice X_pa t_n X_pc, .int .i64 t_k, .int .i64 t_i, .slice X_qa t_m X_qc] 37 2), (33, phiSl rpInt L), (35, phiLit #[.slice t_pa t_n t_pc, .int .i64 t_k, .int .i64 t_i, .slice t_qa t_m t_qc] 29 1), (36, phiSl rpInt L)]) (fun _ _ => True) rfl rfl (by kernel_rfl) phiL_below (fun _ _ _ _ _ _ => trivial) hS ?gop ?gend
  case gop =>
    intro xG hx uG w' hdG hB' hS'
    obtain ⟨q1, q2, q3, q4, q5, q6, q7, q8, q9, q10⟩ := hS'
    have hbw : Below v15.heap.size v15 w' := hB'
    simp only [List.mem_cons, List.not_mem_nil, or_false] at hx
    rcases hx with rfl | rfl | rfl | rfl
    · skip
      clear hdG
      refine wpOp_step (i := 32) rfl (fun K hK => ?_)
      have hK := Lib.hid hK
      simp only [fills, List.foldl, Act.put, List.setIfInBounds_toArray, List.set_cons_zero, List.set_cons_succ, List.getElem_toArray, List.getElem_cons_zero, List.getElem_cons_succ]
      go_simp
      have hb6 : Below w'.heap.size w' (w'.alloc (.cells #[.slice X_pa t_n X_pc, .int .i64 t_k, .int .i64 t_i, .slice X_qa t_m X_qc, .slice X_pa t_n X_pc, .int .i64 t_k, .int .i64 t_i, .slice X_qa t_m X_qc] 37)) := (Below.refl _ _).alloc (Nat.le_refl _) _
      have hKp : Keep (fun _ => True) w' (w'.alloc (.cells #[.slice X_pa t_n X_pc, .int .i64 t_k, .int .i64 t_i, .slice X_qa t_m X_qc, .slice X_pa t_n X_pc, .int .i64 t_k, .int .i64 t_i, .slice X_qa t_m X_qc] 37)) := (Keep.refl _ _).below hb6
      exact hK.out _ _ ⟨_, rfl, phiL_mk rfl ⟨rfl, by simp, Blk.new _ _ _ rfl⟩, trivial, hb6, hKp _ _ _ trivial q1, hKp _ _ _ trivial q2, hKp _ _ _ trivial q3, hKp _ _ _ trivial q4, hKp _ _ _ trivial q5, hKp _ _ _ trivial q6, hKp _ _ _ trivial q7, hKp _ _ _ trivial q8, hKp _ _ _ trivial q9, hKp _ _ _ trivial q10⟩
    · skip
      obtain ⟨_, x32, y32, g32⟩ := hdG 32 (by simp) (by kernel_rfl)
      obtain ⟨e32, r32, Z32⟩ := phiL_at rfl g32
      obtain ⟨uH32, rfl⟩ := upd_self e32
      clear hdG
      refine wpOp_step (i := 33) rfl (fun K hK => ?_)
      have hK := Lib.hid hK
      simp only [fills, List.foldl, Act.put, List.setIfInBounds_toArray, List.set_cons_zero, List.set_cons_succ, List.getElem_toArray, List.getElem_cons_zero, List.getElem_cons_succ]
      simp only [e32]
      go_simp
      refine (HM1.out (isSl_pair6 Z32 (X_v15.out.bel hbw) (X_v15.out.bel hbw))).mono ?_
      intro e w6 h
      obtain ⟨_, _, rfl, hT, hb6⟩ := h
      have hKp : Keep (fun _ => True) w' w6 := (Keep.refl _ _).below hb6
      exact hK.out _ _ ⟨_, rfl, phiL_mk rfl ⟨_, _, rfl, hT.weaken (by decide) fun _ h1 h2 => ⟨h2, h1⟩⟩, trivial, hb6, hKp _ _ _ trivial q1, hKp _ _ _ trivial q2, hKp _ _ _ trivial q3, hKp _ _ _ trivial q4, hKp _ _ _ trivial q5, hKp _ _ _ trivial q6, hKp _ _ _ trivial q7, hKp _ _ _ trivial q8, hKp _ _ _ trivial q9, hKp _ _ _ trivial q10⟩
    · skip
      clear hdG
      refine wpOp_step (i := 35) rfl (fun K hK => ?_)
      have hK := Lib.hid hK
      simp only [fills, List.foldl, Act.put, List.setIfInBounds_toArray, List.set_cons_zero, List.set_cons_succ, List.getElem_toArray, List.getElem_cons_zero, List.getElem_cons_succ]
      go_simp
      have hb6 : Below w'.heap.size w' (w'.alloc (.cells #[.slice t_pa t_n t_pc, .int .i64 t_k, .int .i64 t_i, .slice t_qa t_m t_qc] 29)) := (Below.refl _ _).alloc (Nat.le_refl _) _
      have hKp : Keep (fun _ => True) w' (w'.alloc (.cells #[.slice t_pa t_n t_pc, .int .i64 t_k, .int .i64 t_i, .slice t_qa t_m t_qc] 29)) := (Keep.refl _ _).below hb6
      exact hK.out _ _ ⟨_, rfl, phiL_mk rfl ⟨rfl, by simp, Blk.new _ _ _ rfl⟩, trivial, hb6, hKp _ _ _ trivial q1, hKp _ _ _ trivial q2, hKp _ _ _ trivial q3, hKp _ _ _ trivial q4, hKp _ _ _ trivial q5, hKp _ _ _ trivial q6, hKp _ _ _ trivial q7, hKp _ _ _ trivial q8, hKp _ _ _ trivial q9, hKp _ _ _ trivial q10⟩
    · skip
      obtain ⟨_, x35, y35, g35⟩ := hdG 35 (by simp) (by kernel_rfl)
      obtain ⟨e35, r35, Z35⟩ := phiL_at rfl g35
      obtain ⟨uH35, rfl⟩ := upd_self e35
      clear hdG
      refine wpOp_step (i := 36) rfl (fun K hK => ?_)
      have hK := Lib.hid hK
      simp only [fills, List.foldl, Act.put, List.setIfInBounds_toArray, List.set_cons_zero, List.set_cons_succ, List.getElem_toArray, List.getElem_cons_zero, List.getElem_cons_succ]
      simp only [e35]
      go_simp
      refine (HM2.out (isSl_one6 Z35 (T_v15.out.bel hbw))).mono ?_
      intro e w6 h
      obtain ⟨_, _, rfl, hT, hb6⟩ := h
      have hKp : Keep (fun _ => True) w' w6 := (Keep.refl _ _).below hb6
      exact hK.out _ _ ⟨_, rfl, phiL_mk rfl ⟨_, _, rfl, hT.weaken (by decide) fun _ h1 h2 => ⟨h2, h1⟩⟩, trivial, hb6, hKp _ _ _ trivial q1, hKp _ _ _ trivial q2, hKp _ _ _ trivial q3, hKp _ _ _ trivial q4, hKp _ _ _ trivial q5, hKp _ _ _ trivial q6, hKp _ _ _ trivial q7, hKp _ _ _ trivial q8, hKp _ _ _ trivial q9, hKp _ _ _ trivial q10⟩
  case gend =>
    intro uG loG hiG w' hΦ _ hB' hS'
    have hbw : Below v15.heap.size v15 w' := hB'
    have hsz : v15.drew.heap.size = v15.heap.size := rfl
    have hsB := B_v15.size
    obtain ⟨g32, n32, m32, o32⟩ := hΦ.1 32 (by simp) rfl
    obtain ⟨e32, r32, Z32⟩ := phiL_at rfl g32
    obtain ⟨g33, n33, m33, o33⟩ := hΦ.1 33 (by simp) rfl
    obtain ⟨M_a, M_c, e33, V33⟩ := phiL_at rfl g33
    obtain ⟨g35, n35, m35, o35⟩ := hΦ.1 35 (by simp) rfl
    obtain ⟨e35, r35, Z35⟩ := phiL_at rfl g35
    obtain ⟨g36, n36, m36, o36⟩ := hΦ.1 36 (by simp) rfl
    obtain ⟨N_a, N_c, e36, V36⟩ := phiL_at rfl g36
    clear hΦ g32 g33 g35 g36
    simp only [fills, List.foldl, Act.put, List.setIfInBounds_toArray, List.set_cons_zero, List.set_cons_succ, List.getElem_toArray, List.getElem_cons_zero, List.getElem_cons_succ]
    rw [e32, e33, e35, e36]
    clear e32 e33 e35 e36
    try rw [hsz] at n32 n33 n35 n36
    have U33 := Lib.hid (V33.weaken (F' := fun z => True) (by decide) fun z _ h => trivial)
    have U36 := Lib.hid (V36.weaken (F' := fun z => True) (by decide) fun z _ h => trivial)
    clear V33 V36
    obtain ⟨v16, hv16⟩ : ∃ x, w' = x := ⟨_, rfl⟩
    rw [hv16]
    have Lx1 := x1_v15.lt
    have Lx2 := x2_v15.lt
    have Lx3 := x3_v15.lt
    have B6 := B_v15.trans (hbw.mono B_v15.size)
    have x1_v16 : Blk v16 (w.heap.size) #[.slice t_pa t_n t_pc, .int .i64 t_k, .int .i64 t_i, .slice t_qa t_m t_qc] 29 := by rw [← hv16]; exact x1_v15.below hbw
    have x2_v16 : Blk v16 (w.heap.size + 1) #[.int .i64 hk, .int .i64 hi] 23 := by rw [← hv16]; exact x2_v15.below hbw
    have x3_v16 : Blk v16 (q) #[.slice X_pa t_n X_pc, .int .i64 t_k, .int .i64 t_i, .slice X_qa t_m X_qc] 37 := by rw [← hv16]; exact x3_v15.below hbw
    have KU : Keep (fun z => True) w' v16 := by rw [← hv16]; exact Keep.refl _ _
    have KT : Keep (fun z => z < v15.heap.size) v15 v16 := by rw [← hv16]; exact (Keep.refl _ _).below hbw
    have B_v16 : Below w.heap.size w v16 := by rw [← hv16]; exact B6
    have M_v16 := Lib.hid ((U33.out.keep KU).weaken (F' := fun _ => True) (by decide) fun _ _ _ => trivial)
    have N_v16 := Lib.hid ((U36.out.keep KU).weaken (F' := fun _ => True) (by decide) fun _ _ _ => trivial)
    have T_v16 := Lib.hid (((T_v15.out.weaken (F' := fun z => z < v15.heap.size) fun z hz _ => hz).keep KT).weaken (F' := fun _ => True) fun _ _ _ => trivial)
    have X_v16 := Lib.hid (((X_v15.out.weaken (F' := fun z => z < v15.heap.size) fun z hz _ => hz).keep KT).weaken (F' := fun _ => True) fun _ _ _ => trivial)
    clear hv16 KU KT U33 U36 x1_v15 x2_v15 x3_v15 T_v15 X_v15 B_v15 Z32 Z35 Lx1 Lx2 Lx3 hbw hB' B6 hS hS' hsz hsB n32 n33 n35 n36 m32 m33 m35 m36 o32 o33 o35 o36 r32 r35
    have hS : (v16).cell? ⟨w.heap.size, 0, none⟩ = some (.slice t_pa t_n t_pc) ∧ (v16).cell? ⟨w.heap.size, 1, none⟩ = some (.int .i64 t_k) ∧ (v16).cell? ⟨w.heap.size, 2, none⟩ = some (.int .i64 t_i) ∧ (v16).cell? ⟨w.heap.size, 3, none⟩ = some (.slice t_qa t_m t_qc) ∧ (v16).cell? ⟨w.heap.size + 1, 0, none⟩ = some (.int .i64 hk) ∧ (v16).cell? ⟨w.heap.size + 1, 1, none⟩ = some (.int .i64 hi) ∧ (v16).cell? ⟨q, 0, none⟩ = some (.slice X_pa t_n X_pc) ∧ (v16).cell? ⟨q, 1, none⟩ = some (.int .i64 t_k) ∧ (v16).cell? ⟨q, 2, none⟩ = some (.int .i64 t_i) ∧ (v16).cell? ⟨q, 3, none⟩ = some (.slice X_qa t_m X_qc) := ⟨x1_v16.cell rfl, x1_v16.cell rfl, x1_v16.cell rfl, x1_v16.cell rfl, x2_v16.cell rfl, x2_v16.cell rfl, x3_v16.cell rfl, x3_v16.cell rfl, x3_v16.cell rfl, x3_v16.cell rfl⟩
    refine wpN_step (i := 37) (by kernel_rfl) rfl (fun K hK => ?_)
    go_simp
    refine (Like_r M_v16.out N_v16.out).mono ?_
    rintro e v17 ⟨rfl, hbx0⟩
    have hbx : Below v16.heap.size v16 v17 := hbx0
    clear hbx0
    have x1_v17 := x1_v16.below hbx
    have x2_v17 := x2_v16.below hbx
    have x3_v17 := x3_v16.below hbx
    have T_v17 := Lib.hid (T_v16.out.bel hbx)
    have X_v17 := Lib.hid (X_v16.out.bel hbx)
    have M_v17 := Lib.hid (M_v16.out.bel hbx)
    have N_v17 := Lib.hid (N_v16.out.bel hbx)
    have B_v17 := B_v16.trans (hbx.mono B_v16.size)
    clear x1_v16 x2_v16 x3_v16 T_v16 X_v16 M_v16 N_v16 B_v16 hbx
    have hS : (v17).cell? ⟨w.heap.size, 0, none⟩ = some (.slice t_pa t_n t_pc) ∧ (v17).cell? ⟨w.heap.size, 1, none⟩ = some (.int .i64 t_k) ∧ (v17).cell? ⟨w.heap.size, 2, none⟩ = some (.int .i64 t_i) ∧ (v17).cell? ⟨w.heap.size, 3, none⟩ = some (.slice t_qa t_m t_qc) ∧ (v17).cell? ⟨w.heap.size + 1, 0, none⟩ = some (.int .i64 hk) ∧ (v17).cell? ⟨w.heap.size + 1, 1, none⟩ = some (.int .i64 hi) ∧ (v17).cell? ⟨q, 0, none⟩ = some (.slice X_pa t_n X_pc) ∧ (v17).cell? ⟨q, 1, none⟩ = some (.int .i64 t_k) ∧ (v17).cell? ⟨q, 2, none⟩ = some (.int .i64 t_i) ∧ (v17).cell? ⟨q, 3, none⟩ = some (.slice X_qa t_m X_qc) := ⟨x1_v17.cell rfl, x1_v17.cell rfl, x1_v17.cell rfl, x1_v17.cell rfl, x2_v17.cell rfl, x2_v17.cell rfl, x3_v17.cell rfl, x3_v17.cell rfl, x3_v17.cell rfl, x3_v17.cell rfl⟩
    refine hK.out _ _ (fun _ => hS) ?_
    clear hK K
    try simp only [Act.put, List.setIfInBounds_toArray, List.set_cons_zero, List.set_cons_succ, List.getElem_toArray, List.getElem_cons_zero, List.getElem_cons_succ]
    refine wpN_take (i := 38) (v := ?v25) rfl (by kernel_rfl) (fun _ _ _ h => h) hS (Or.inl ⟨by rfl, ?hy25⟩) ?hr25
    case hy25 => (intro wS hSw; (try dsimp only at hSw); go_simp; (try with_reducible rfl))
    try simp only [Act.put, List.setIfInBounds_toArray, List.set_cons_zero, List.set_cons_succ, List.getElem_toArray, List.getElem_cons_zero, List.getElem_cons_succ]
    refine wpN_take (i := 39) (v := ?v26) rfl (by kernel_rfl) (fun _ _ _ h => h) hS (Or.inl ⟨by rfl, ?hy26⟩) ?hr26
    case hy26 => (intro wS hSw; (try dsimp only at hSw); go_simp; (try with_reducible rfl))
    try simp only [Act.put, List.setIfInBounds_toArray, List.set_cons_zero, List.set_cons_succ, List.getElem_toArray, List.getElem_cons_zero, List.getElem_cons_succ]
    refine wpN_take (i := 40) (v := ?v27) rfl (by kernel_rfl) (fun _ _ _ h => h) hS (Or.inl ⟨by rfl, ?hy27⟩) ?hr27
    case hy27 => (intro wS hSw; (try dsimp only at hSw); go_simp; (try with_reducible rfl))
    try simp only [Act.put, List.setIfInBounds_toArray, List.set_cons_zero, List.set_cons_succ, List.getElem_toArray, List.getElem_cons_zero, List.getElem_cons_succ]
    refine wpN_take (i := 41) (v := ?v28) rfl (by kernel_rfl) (fun _ _ _ h => h) hS (Or.inl ⟨by rfl, ?hy28⟩) ?hr28
    case hy28 => (intro wS hSw; (try dsimp only at hSw); go_simp; (try with_reducible rfl))
    try simp only [Act.put, List.setIfInBounds_toArray, List.set_cons_zero, List.set_cons_succ, List.getElem_toArray, List.getElem_cons_zero, List.getElem_cons_succ]
    refine wpN_take (i := 42) (v := ?v29) rfl (by kernel_rfl) (fun _ _ _ h => h) hS (Or.inl ⟨by rfl, ?hy29⟩) ?hr29
    case hy29 => (intro wS hSw; (try dsimp only at hSw); go_simp; (try with_reducible rfl))
    try simp only [Act.put, List.setIfInBounds_toArray, List.set_cons_zero, List.set_cons_succ, List.getElem_toArray, List.getElem_cons_zero, List.getElem_cons_succ]
    refine wpN_take (i := 43) (v := ?v30) rfl (by kernel_rfl) (fun _ _ _ h => h) hS (Or.inl ⟨by rfl, ?hy30⟩) ?hr30
    case hy30 => (intro wS hSw; (try dsimp only at hSw); go_simp; (try with_reducible rfl))
    try simp only [Act.put, List.setIfInBounds_toArray, List.set_cons_zero, List.set_cons_succ, List.getElem_toArray, List.getElem_cons_zero, List.getElem_cons_succ]
    refine wpN_take (i := 44) (v := ?v31) rfl (by kernel_rfl) (fun _ _ _ h => h) hS (Or.inl ⟨by rfl, ?hy31⟩) ?hr31
    case hy31 => (intro wS hSw; (try dsimp only at hSw); go_simp; (try with_reducible rfl))
    try simp only [Act.put, List.setIfInBounds_toArray, List.set_cons_zero, List.set_cons_succ, List.getElem_toArray, List.getElem_cons_zero, List.getElem_cons_succ]
    refine wpN_take (i := 45) (v := ?v32) rfl (by kernel_rfl) (fun _ _ _ h => h) hS (Or.inl ⟨by rfl, ?hy32⟩) ?hr32
    case hy32 => (intro wS hSw; (try dsimp only at hSw); go_simp; (try with_reducible rfl))
    try simp only [Act.put, List.setIfInBounds_toArray, List.set_cons_zero, List.set_cons_succ, List.getElem_toArray, List.getElem_cons_zero, List.getElem_cons_succ]
    refine wpN_take (i := 47) (v := ?v33) rfl (by kernel_rfl) (fun _ _ _ h => h) hS (Or.inl ⟨by rfl, ?hy33⟩) ?hr33
    case hy33 => (intro wS hSw; (try dsimp only at hSw); go_simp; (try with_reducible rfl))
    try simp only [Act.put, List.setIfInBounds_toArray, List.set_cons_zero, List.set_cons_succ, List.getElem_toArray, List.getElem_cons_zero, List.getElem_cons_succ]
    refine wpN_take (i := 48) (v := ?v34) rfl (by kernel_rfl) (fun _ _ _ h => h) hS (Or.inl ⟨by rfl, ?hy34⟩) ?hr34
    case hy34 => (intro wS hSw; (try dsimp only at hSw); go_simp; (try with_reducible rfl))
    try simp only [Act.put, List.setIfInBounds_toArray, List.set_cons_zero, List.set_cons_succ, List.getElem_toArray, List.getElem_cons_zero, List.getElem_cons_succ]
    refine wpN_step (i := 46) (by kernel_rfl) rfl (fun K hK => ?_)
    go_simp
    have Cr := count6_k X_v17.out (by have := Hf.out; omega) Hfit.out hk hi
    rw [Hcn.out] at Cr
    refine Cr.mono ?_
    clear Cr
    rintro e v18 ⟨rfl, hbx0⟩
    have hbx : Below v17.heap.size v17 v18 := hbx0
    clear hbx0
    have x1_v18 := x1_v17.below hbx
    have x2_v18 := x2_v17.below hbx
    have x3_v18 := x3_v17.below hbx
    have T_v18 := Lib.hid (T_v17.out.bel hbx)
    have X_v18 := Lib.hid (X_v17.out.bel hbx)
    have M_v18 := Lib.hid (M_v17.out.bel hbx)
    have N_v18 := Lib.hid (N_v17.out.bel hbx)
    have B_v18 := B_v17.trans (hbx.mono B_v17.size)
    clear x1_v17 x2_v17 x3_v17 T_v17 X_v17 M_v17 N_v17 B_v17 hbx
    have hS : (v18).cell? ⟨w.heap.size, 0, none⟩ = some (.slice t_pa t_n t_pc) ∧ (v18).cell? ⟨w.heap.size, 1, none⟩ = some (.int .i64 t_k) ∧ (v18).cell? ⟨w.heap.size, 2, none⟩ = some (.int .i64 t_i) ∧ (v18).cell? ⟨w.heap.size, 3, none⟩ = some (.slice t_qa t_m t_qc) ∧ (v18).cell? ⟨w.heap.size + 1, 0, none⟩ = some (.int .i64 hk) ∧ (v18).cell? ⟨w.heap.size + 1, 1, none⟩ = some (.int .i64 hi) ∧ (v18).cell? ⟨q, 0, none⟩ = some (.slice X_pa t_n X_pc) ∧ (v18).cell? ⟨q, 1, none⟩ = some (.int .i64 t_k) ∧ (v18).cell? ⟨q, 2, none⟩ = some (.int .i64 t_i) ∧ (v18).cell? ⟨q, 3, none⟩ = some (.slice X_qa t_m X_qc) := ⟨x1_v18.cell rfl, x1_v18.cell rfl, x1_v18.cell rfl, x1_v18.cell rfl, x2_v18.cell rfl, x2_v18.cell rfl, x3_v18.cell rfl, x3_v18.cell rfl, x3_v18.cell rfl, x3_v18.cell rfl⟩
    refine hK.out _ _ (fun _ => hS) ?_
    clear hK K
    try simp only [Act.put, List.setIfInBounds_toArray, List.set_cons_zero, List.set_cons_succ, List.getElem_toArray, List.getElem_cons_zero, List.getElem_cons_succ]
    refine wpN_step (i := 49) (by kernel_rfl) rfl (fun K hK => ?_)
    go_simp
    have Cr := Count_r T_v18.out v18 (Keep.refl _ _) (by have := Hf.out; omega) Hfit.out hk hi
    rw [Hcn.out] at Cr
    refine Cr.mono ?_
    clear Cr
    rintro e v19 ⟨rfl, hbx0⟩
    have hbx : Below v18.heap.size v18 v19 := hbx0
    clear hbx0
    have x1_v19 := x1_v18.below hbx
    have x2_v19 := x2_v18.below hbx
    have x3_v19 := x3_v18.below hbx
    have T_v19 := Lib.hid (T_v18.out.bel hbx)
    have X_v19 := Lib.hid (X_v18.out.bel hbx)
    have M_v19 := Lib.hid (M_v18.out.bel hbx)
    have N_v19 := Lib.hid (N_v18.out.bel hbx)
    have B_v19 := B_v18.trans (hbx.mono B_v18.size)
    clear x1_v18 x2_v18 x3_v18 T_v18 X_v18 M_v18 N_v18 B_v18 hbx
    have hS : (v19).cell? ⟨w.heap.size, 0, none⟩ = some (.slice t_pa t_n t_pc) ∧ (v19).cell? ⟨w.heap.size, 1, none⟩ = some (.int .i64 t_k) ∧ (v19).cell? ⟨w.heap.size, 2, none⟩ = some (.int .i64 t_i) ∧ (v19).cell? ⟨w.heap.size, 3, none⟩ = some (.slice t_qa t_m t_qc) ∧ (v19).cell? ⟨w.heap.size + 1, 0, none⟩ = some (.int .i64 hk) ∧ (v19).cell? ⟨w.heap.size + 1, 1, none⟩ = some (.int .i64 hi) ∧ (v19).cell? ⟨q, 0, none⟩ = some (.slice X_pa t_n X_pc) ∧ (v19).cell? ⟨q, 1, none⟩ = some (.int .i64 t_k) ∧ (v19).cell? ⟨q, 2, none⟩ = some (.int .i64 t_i) ∧ (v19).cell? ⟨q, 3, none⟩ = some (.slice X_qa t_m X_qc) := ⟨x1_v19.cell rfl, x1_v19.cell rfl, x1_v19.cell rfl, x1_v19.cell rfl, x2_v19.cell rfl, x2_v19.cell rfl, x3_v19.cell rfl, x3_v19.cell rfl, x3_v19.cell rfl, x3_v19.cell rfl⟩
    refine hK.out _ _ (fun _ => hS) ?_
    clear hK K
    try simp only [Act.put, List.setIfInBounds_toArray, List.set_cons_zero, List.set_cons_succ, List.getElem_toArray, List.getElem_cons_zero, List.getElem_cons_succ]
    refine wpN_take (i := 50) (v := ?v35) rfl (by kernel_rfl) (fun _ _ _ h => h) hS (Or.inl ⟨by rfl, ?hy35⟩) ?hr35
    case hy35 => (intro wS hSw; (try dsimp only at hSw); go_simp; (try with_reducible rfl))
    try simp only [Act.put, List.setIfInBounds_toArray, List.set_cons_zero, List.set_cons_succ, List.getElem_toArray, List.getElem_cons_zero, List.getElem_cons_succ]
    refine wpN_take (i := 51) (v := ?v36) rfl (by kernel_rfl) (fun _ _ _ h => h) hS (Or.inl ⟨by rfl, ?hy36⟩) ?hr36
    case hy36 => (intro wS hSw; (try dsimp only at hSw); go_simp; (try with_reducible rfl))
    try simp only [Act.put, List.setIfInBounds_toArray, List.set_cons_zero, List.set_cons_succ, List.getElem_toArray, List.getElem_cons_zero, List.getElem_cons_succ]
    refine wpN_take (i := 52) (v := ?v37) rfl (by kernel_rfl) (fun _ _ _ h => h) hS (Or.inl ⟨by rfl, ?hy37⟩) ?hr37
    case hy37 => (intro wS hSw; (try dsimp only at hSw); go_simp; (try with_reducible rfl))
    try simp only [Act.put, List.setIfInBounds_toArray, List.set_cons_zero, List.set_cons_succ, List.getElem_toArray, List.getElem_cons_zero, List.getElem_cons_succ]
    refine wpN_take (i := 53) (v := ?v38) rfl (by kernel_rfl) (fun _ _ _ h => h) hS (Or.inl ⟨by rfl, ?hy38⟩) ?hr38
    case hy38 => (intro wS hSw; (try dsimp only at hSw); go_simp; (try with_reducible rfl))
    try simp only [Act.put, List.setIfInBounds_toArray, List.set_cons_zero, List.set_cons_succ, List.getElem_toArray, List.getElem_cons_zero, List.getElem_cons_succ]
    refine wpN_take (i := 55) (v := ?v39) rfl (by kernel_rfl) (fun _ _ _ h => h) hS (Or.inl ⟨by rfl, ?hy39⟩) ?hr39
    case hy39 => (intro wS hSw; (try dsimp only at hSw); go_simp; (try with_reducible rfl))
    try simp only [Act.put, List.setIfInBounds_toArray, List.set_cons_zero, List.set_cons_succ, List.getElem_toArray, List.getElem_cons_zero, List.getElem_cons_succ]
    refine wpN_step (i := 54) (by kernel_rfl) rfl (fun K hK => ?_)
    go_simp
    refine (of6_any X_v19.out v19 (by have := Hf.out; omega) (Keep.refl _ _)).mono ?_
    intro e v20 h
    obtain ⟨_, _, _, _, rfl, hT, hbx0⟩ := h
    have O_v20 := Lib.hid (hT.weaken (F' := fun _ => True) fun _ _ _ => trivial)
    clear hT
    obtain ⟨O_pa, O_pc, O_qa, O_qc, rfl, rfl, rfl, rfl⟩ := O_v20.out.shape
    rw [Et_n.out, Et_m.out, Et_k.out, Et_i.out] at O_v20 ⊢
    have hbx : Below v19.heap.size v19 v20 := hbx0
    clear hbx0
    have x1_v20 := x1_v19.below hbx
    have x2_v20 := x2_v19.below hbx
    have x3_v20 := x3_v19.below hbx
    have T_v20 := Lib.hid (T_v19.out.bel hbx)
    have X_v20 := Lib.hid (X_v19.out.bel hbx)
    have M_v20 := Lib.hid (M_v19.out.bel hbx)
    have N_v20 := Lib.hid (N_v19.out.bel hbx)
    have B_v20 := B_v19.trans (hbx.mono B_v19.size)
    clear x1_v19 x2_v19 x3_v19 T_v19 X_v19 M_v19 N_v19 B_v19 hbx
    have hS : (v20).cell? ⟨w.heap.size, 0, none⟩ = some (.slice t_pa t_n t_pc) ∧ (v20).cell? ⟨w.heap.size, 1, none⟩ = some (.int .i64 t_k) ∧ (v20).cell? ⟨w.heap.size, 2, none⟩ = some (.int .i64 t_i) ∧ (v20).cell? ⟨w.heap.size, 3, none⟩ = some (.slice t_qa t_m t_qc) ∧ (v20).cell? ⟨w.heap.size + 1, 0, none⟩ = some (.int .i64 hk) ∧ (v20).cell? ⟨w.heap.size + 1, 1, none⟩ = some (.int .i64 hi) ∧ (v20).cell? ⟨q, 0, none⟩ = some (.slice X_pa t_n X_pc) ∧ (v20).cell? ⟨q, 1, none⟩ = some (.int .i64 t_k) ∧ (v20).cell? ⟨q, 2, none⟩ = some (.int .i64 t_i) ∧ (v20).cell? ⟨q, 3, none⟩ = some (.slice X_qa t_m X_qc) := ⟨x1_v20.cell rfl, x1_v20.cell rfl, x1_v20.cell rfl, x1_v20.cell rfl, x2_v20.cell rfl, x2_v20.cell rfl, x3_v20.cell rfl, x3_v20.cell rfl, x3_v20.cell rfl, x3_v20.cell rfl⟩
    refine hK.out _ _ (fun _ => hS) ?_
    clear hK K
    try simp only [Act.put, List.setIfInBounds_toArray, List.set_cons_zero, List.set_cons_succ, List.getElem_toArray, List.getElem_cons_zero, List.getElem_cons_succ]
    refine wpN_step (i := 56) (by kernel_rfl) rfl (fun K hK => ?_)
    go_simp
    refine (same6_r _ _ _ _ _ _ _ O_v20.out _ _ _ _ _ _ _ T_v20.out v20 (Keep.refl _ _) (Keep.refl _ _)).mono ?_
    intro e v21 h
    obtain ⟨r3, Hr3, rfl, hbx0⟩ := of_retB' h
    clear h
    have hbx : Below v20.heap.size v20 v21 := hbx0
    clear hbx0
    have x1_v21 := x1_v20.below hbx
    have x2_v21 := x2_v20.below hbx
    have x3_v21 := x3_v20.below hbx
    have T_v21 := Lib.hid (T_v20.out.bel hbx)
    have X_v21 := Lib.hid (X_v20.out.bel hbx)
    have M_v21 := Lib.hid (M_v20.out.bel hbx)
    have N_v21 := Lib.hid (N_v20.out.bel hbx)
    have O_v21 := Lib.hid (O_v20.out.bel hbx)
    have B_v21 := B_v20.trans (hbx.mono B_v20.size)
    clear x1_v20 x2_v20 x3_v20 T_v20 X_v20 M_v20 N_v20 O_v20 B_v20 hbx
    have hS : (v21).cell? ⟨w.heap.size, 0, none⟩ = some (.slice t_pa t_n t_pc) ∧ (v21).cell? ⟨w.heap.size, 1, none⟩ = some (.int .i64 t_k) ∧ (v21).cell? ⟨w.heap.size, 2, none⟩ = some (.int .i64 t_i) ∧ (v21).cell? ⟨w.heap.size, 3, none⟩ = some (.slice t_qa t_m t_qc) ∧ (v21).cell? ⟨w.heap.size + 1, 0, none⟩ = some (.int .i64 hk) ∧ (v21).cell? ⟨w.heap.size + 1, 1, none⟩ = some (.int .i64 hi) ∧ (v21).cell? ⟨q, 0, none⟩ = some (.slice X_pa t_n X_pc) ∧ (v21).cell? ⟨q, 1, none⟩ = some (.int .i64 t_k) ∧ (v21).cell? ⟨q, 2, none⟩ = some (.int .i64 t_i) ∧ (v21).cell? ⟨q, 3, none⟩ = some (.slice X_qa t_m X_qc) := ⟨x1_v21.cell rfl, x1_v21.cell rfl, x1_v21.cell rfl, x1_v21.cell rfl, x2_v21.cell rfl, x2_v21.cell rfl, x3_v21.cell rfl, x3_v21.cell rfl, x3_v21.cell rfl, x3_v21.cell rfl⟩
    refine hK.out _ _ (fun _ => hS) ?_
    clear hK K
    try simp only [Act.put, List.setIfInBounds_toArray, List.set_cons_zero, List.set_cons_succ, List.getElem_toArray, List.getElem_cons_zero, List.getElem_cons_succ]
    have hr3 : r3 = true := Hr3.out.2 rfl
    rw [hr3]
    clear Hr3 hr3
    refine wpN_take (i := 57) (v := ?v40) rfl (by kernel_rfl) (fun _ _ _ h => h) hS (Or.inl ⟨by rfl, ?hy40⟩) ?hr40
    case hy40 => (intro wS hSw; (try dsimp only at hSw); go_simp; (try with_reducible rfl))
    try simp only [Act.put, List.setIfInBounds_toArray, List.set_cons_zero, List.set_cons_succ, List.getElem_toArray, List.getElem_cons_zero, List.getElem_cons_succ]
    refine wpN_step (i := 58) (by kernel_rfl) rfl (fun K hK => ?_)
    go_simp
    refine hK.out _ _ (fun h => absurd h (by decide)) ?_
    clear hK K
    try simp only [Act.put, List.setIfInBounds_toArray, List.set_cons_zero, List.set_cons_succ, List.getElem_toArray, List.getElem_cons_zero, List.getElem_cons_succ]
    refine wpN_done (by kernel_rfl) ?_
    refine NoPanic.normal ?_
    go_wp2_with fail
    go_ret
    exact ⟨rfl, B_v21⟩
end Go.Proofs.Ytejpgifofkiofaa

