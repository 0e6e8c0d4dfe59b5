/-
  The law TermChecks, stepped through.
-/
import Derived.Test.YtejpgifofkiofaaRowChecks6p18
import Derived.Test.YtejpgifofkiofaaRowChecks6p28
import Derived.Test.YtejpgifofkiofaaRowChecks6p3
set_option linter.unusedVariables false
set_option linter.unusedSimpArgs false
namespace Go.Proofs.Ytejpgifofkiofaa
open Go.RowKit

set_option maxRecDepth 100000 in
set_option maxHeartbeats 16000000 in
theorem termChecks_walk {w : World} {b : Int} {cv mv xv tb tk ti ta us ub : Value} {C M X : List Ty} {t : Tm} {u : Ty} (hc : IsSl rpTy (fun _ => True) w cv C) (hm : IsSl rpTy (fun _ => True) w mv M) (hx : IsSl rpTy (fun _ => True) w xv X) (ht : IsTm (fun _ => True) w tb tk ti ta t) (hfit : t.Fit) (hu : IsTy (fun _ => True) w us ub u) :
    Calls Try.prog 10 #[.agg #[.int .i64 b, cv, mv], xv, .agg #[tb, tk, ti, ta], .agg #[us, ub]] w fun e w' => e = .returned (.bool true) ∧ Below w.heap.size w w' := by
  obtain ⟨ca, cc, rfl⟩ := hc.shape
  obtain ⟨ma, mc, rfl⟩ := hm.shape
  obtain ⟨xa, xc, rfl⟩ := hx.shape
  obtain ⟨ua, uc, rfl, rfl⟩ := hu.shape
  obtain ⟨t_pa, t_pc, t_qa, t_qc, rfl, rfl, rfl, rfl⟩ := ht.shape
  obtain ⟨t_n, ht_n⟩ : ∃ x, t.binds.length = x := ⟨_, rfl⟩
  obtain ⟨t_m, ht_m⟩ : ∃ x, t.args.length = x := ⟨_, rfl⟩
  obtain ⟨t_k, ht_k⟩ : ∃ x, t.kind = x := ⟨_, rfl⟩
  obtain ⟨t_i, ht_i⟩ : ∃ x, t.index = x := ⟨_, rfl⟩
  rw [ht_n, ht_m, ht_k, ht_i] at ht ⊢
  have Et_n := Lib.hid ht_n
  have Et_m := Lib.hid ht_m
  have Et_k := Lib.hid ht_k
  have Et_i := Lib.hid ht_i
  clear ht_n ht_m ht_k ht_i
  obtain ⟨u_n, hun⟩ : ∃ x, u.args.length = x := ⟨_, rfl⟩
  obtain ⟨u_d, hud⟩ : ∃ x, u.base = x := ⟨_, rfl⟩
  rw [hun, hud] at hu ⊢
  have Eu_n := Lib.hid hun; have Eu_d := Lib.hid hud
  have hti : t_i ≤ 9223372036854775807 := by rw [← Et_i.out]; cases t; exact (Tm.fit_iff.1 hfit).2.1
  have Hti := Lib.hid hti
  have Hfit := Lib.hid hfit
  have Ht := Lib.hid ht; have Hu := Lib.hid hu; have Hc := Lib.hid hc; have Hm := Lib.hid hm; have Hx := Lib.hid hx
  clear ht hu hc hm hx hfit hun hud hti
  go_enter Try.func10, Try.ntmps10
  go_wp2_with fail
  obtain ⟨w4, hw4⟩ : ∃ w4, (((w.alloc (.cells #[.int .i64 b, .slice ca C.length cc, .slice ma M.length mc] 87)).alloc (.cells #[.slice t_pa t_n t_pc, .int .i64 t_k, .int .i64 t_i, .slice t_qa t_m t_qc] 29)).alloc (.cells #[.slice ua u_n uc, .int .i64 u_d] 26)).alloc (.cells #[.slice t_pa t_n t_pc, .int .i64 t_k, .int .i64 t_i, .slice t_qa t_m t_qc] 29) = w4 := ⟨_, rfl⟩
  have B_w4 : Below w.heap.size w w4 := by rw [← hw4]; exact ((((Below.refl _ _).alloc (Nat.le_refl _) _).alloc (by simp) _).alloc (by simp; omega) _).alloc (by simp; omega) _
  have x0_w4 : Blk w4 w.heap.size #[.int .i64 b, .slice ca C.length cc, .slice ma M.length mc] 87 := by rw [← hw4]; exact (((Blk.new _ _ _ rfl).alloc _).alloc _).alloc _
  have x1_w4 : Blk w4 (w.heap.size + 1) #[.slice t_pa t_n t_pc, .int .i64 t_k, .int .i64 t_i, .slice t_qa t_m t_qc] 29 := by rw [← hw4]; exact ((Blk.new _ _ _ (by simp)).alloc _).alloc _
  have x2_w4 : Blk w4 (w.heap.size + 1 + 1) #[.slice ua u_n uc, .int .i64 u_d] 26 := by rw [← hw4]; exact (Blk.new _ _ _ (by simp)).alloc _
  have xv : Blk w4 (w.heap.size + 1 + 1 + 1) #[.slice t_pa t_n t_pc, .int .i64 t_k, .int .i64 t_i, .slice t_qa t_m t_qc] 29 := by rw [← hw4]; exact Blk.new _ _ _ (by simp)
  try rw [hw4]
  clear hw4
  have T_w4 := Lib.hid (Ht.out.bel B_w4)
  have U_w4 := Lib.hid (Hu.out.bel B_w4)
  have C_w4 := Lib.hid (Hc.out.bel B_w4)
  have M_w4 := Lib.hid (Hm.out.bel B_w4)
  have X_w4 := Lib.hid (Hx.out.bel B_w4)
  clear Ht Hu Hc Hm Hx
  refine (few06 (isSl_one6 xv T_w4.out) (by simp)).mono ?_
  intro e w5 h
  obtain ⟨r, Hr, rfl, hbx⟩ := h
  clear xv
  have x0_w5 := x0_w4.below hbx
  have x1_w5 := x1_w4.below hbx
  have x2_w5 := x2_w4.below hbx
  have T_w5 := Lib.hid (T_w4.out.bel hbx)
  have U_w5 := Lib.hid (U_w4.out.bel hbx)
  have C_w5 := Lib.hid (C_w4.out.bel hbx)
  have M_w5 := Lib.hid (M_w4.out.bel hbx)
  have X_w5 := Lib.hid (X_w4.out.bel hbx)
  have B_w5 := B_w4.trans (hbx.mono B_w4.size)
  clear x0_w4 x1_w4 x2_w4 T_w4 U_w4 C_w4 M_w4 X_w4 B_w4 hbx
  cases r
  · clear Hr
    go_wp2_with fail
    refine (known06 w5).mono ?_
    rintro e wk ⟨rfl, hbk⟩
    go_wp2_with fail
    go_ret
    exact ⟨rfl, B_w5.trans (hbk.mono B_w5.size)⟩
  have Hf := Lib.hid ((Hr.out rfl) t (by simp))
  clear Hr
  have cx00 : w5.cell? ⟨w.heap.size, 0, none⟩ = some (.int .i64 b) := x0_w5.cell rfl
  have cx01 : w5.cell? ⟨w.heap.size, 1, none⟩ = some (.slice ca C.length cc) := x0_w5.cell rfl
  have cx02 : w5.cell? ⟨w.heap.size, 2, none⟩ = some (.slice ma M.length mc) := x0_w5.cell rfl
  have lx0 := x0_w5.lt
  have cx10 : w5.cell? ⟨w.heap.size + 1, 0, none⟩ = some (.slice t_pa t_n t_pc) := x1_w5.cell rfl
  have cx11 : w5.cell? ⟨w.heap.size + 1, 1, none⟩ = some (.int .i64 t_k) := x1_w5.cell rfl
  have cx12 : w5.cell? ⟨w.heap.size + 1, 2, none⟩ = some (.int .i64 t_i) := x1_w5.cell rfl
  have cx13 : w5.cell? ⟨w.heap.size + 1, 3, none⟩ = some (.slice t_qa t_m t_qc) := x1_w5.cell rfl
  have lx1 := x1_w5.lt
  have cx20 : w5.cell? ⟨w.heap.size + 1 + 1, 0, none⟩ = some (.slice ua u_n uc) := x2_w5.cell rfl
  have cx21 : w5.cell? ⟨w.heap.size + 1 + 1, 1, none⟩ = some (.int .i64 u_d) := x2_w5.cell rfl
  have lx2 := x2_w5.lt
  go_wp2_with fail
  refine (small_any C_w5.out M_w5.out X_w5.out).mono ?_
  intro e w6 h
  obtain ⟨r, Hr, rfl, hbx⟩ := h
  clear cx00 cx01 cx02 lx0 cx10 cx11 cx12 cx13 lx1 cx20 cx21 lx2
  have x0_w6 := x0_w5.below hbx
  have x1_w6 := x1_w5.below hbx
  have x2_w6 := x2_w5.below hbx
  have T_w6 := Lib.hid (T_w5.out.bel hbx)
  have U_w6 := Lib.hid (U_w5.out.bel hbx)
  have C_w6 := Lib.hid (C_w5.out.bel hbx)
  have M_w6 := Lib.hid (M_w5.out.bel hbx)
  have X_w6 := Lib.hid (X_w5.out.bel hbx)
  have B_w6 := B_w5.trans (hbx.mono B_w5.size)
  clear x0_w5 x1_w5 x2_w5 T_w5 U_w5 C_w5 M_w5 X_w5 B_w5 hbx
  cases r
  · clear Hr
    go_wp2_with fail
    refine (known06 w6).mono ?_
    rintro e wk ⟨rfl, hbk⟩
    go_wp2_with fail
    go_ret
    exact ⟨rfl, B_w6.trans (hbk.mono B_w6.size)⟩
  have Hs := Lib.hid (Hr.out rfl)
  clear Hr
  have cx00 : w6.cell? ⟨w.heap.size, 0, none⟩ = some (.int .i64 b) := x0_w6.cell rfl
  have cx01 : w6.cell? ⟨w.heap.size, 1, none⟩ = some (.slice ca C.length cc) := x0_w6.cell rfl
  have cx02 : w6.cell? ⟨w.heap.size, 2, none⟩ = some (.slice ma M.length mc) := x0_w6.cell rfl
  have lx0 := x0_w6.lt
  have cx10 : w6.cell? ⟨w.heap.size + 1, 0, none⟩ = some (.slice t_pa t_n t_pc) := x1_w6.cell rfl
  have cx11 : w6.cell? ⟨w.heap.size + 1, 1, none⟩ = some (.int .i64 t_k) := x1_w6.cell rfl
  have cx12 : w6.cell? ⟨w.heap.size + 1, 2, none⟩ = some (.int .i64 t_i) := x1_w6.cell rfl
  have cx13 : w6.cell? ⟨w.heap.size + 1, 3, none⟩ = some (.slice t_qa t_m t_qc) := x1_w6.cell rfl
  have lx1 := x1_w6.lt
  have cx20 : w6.cell? ⟨w.heap.size + 1 + 1, 0, none⟩ = some (.slice ua u_n uc) := x2_w6.cell rfl
  have cx21 : w6.cell? ⟨w.heap.size + 1 + 1, 1, none⟩ = some (.int .i64 u_d) := x2_w6.cell rfl
  have lx2 := x2_w6.lt
  go_wp2_with fail
  refine (Few_any U_w6.out 60 60 (by omega) (by omega) (by omega) (by omega)).mono ?_
  intro e w7 h
  obtain ⟨r, Hr, rfl, hbx⟩ := of_retB' h
  clear h
  clear cx00 cx01 cx02 lx0 cx10 cx11 cx12 cx13 lx1 cx20 cx21 lx2
  have x0_w7 := x0_w6.below hbx
  have x1_w7 := x1_w6.below hbx
  have x2_w7 := x2_w6.below hbx
  have T_w7 := Lib.hid (T_w6.out.bel hbx)
  have U_w7 := Lib.hid (U_w6.out.bel hbx)
  have C_w7 := Lib.hid (C_w6.out.bel hbx)
  have M_w7 := Lib.hid (M_w6.out.bel hbx)
  have X_w7 := Lib.hid (X_w6.out.bel hbx)
  have B_w7 := B_w6.trans (hbx.mono B_w6.size)
  clear x0_w6 x1_w6 x2_w6 T_w6 U_w6 C_w6 M_w6 X_w6 B_w6 hbx
  cases r
  · clear Hr
    go_wp2_with fail
    refine (known06 w7).mono ?_
    rintro e wk ⟨rfl, hbk⟩
    go_wp2_with fail
    go_ret
    exact ⟨rfl, B_w7.trans (hbk.mono B_w7.size)⟩
  have Hus := Lib.hid (yes_of Hr.out)
  clear Hr
  have Hsz : Hid (∀ l : List Ty, (∀ t ∈ l, t ∈ (C ++ M) ++ X) → l.length ≤ 20 → Ty.sizes l ≤ 1000000) := fun l h hl => by
    have := sizes_le_of (l := l) (n := 60) fun t ht => (Hs.out.2.2.2 t (h t ht)).1
    have : l.length * 60 ≤ 20 * 60 := Nat.mul_le_mul_right _ hl
    omega
  have HsC := Lib.hid (Hsz.out C (fun t h => by simp [h]) Hs.out.1)
  have HsM := Lib.hid (Hsz.out M (fun t h => by simp [h]) Hs.out.2.1)
  have HsX := Lib.hid (Hsz.out X (fun t h => by simp [h]) Hs.out.2.2.1)
  have cx00 : w7.cell? ⟨w.heap.size, 0, none⟩ = some (.int .i64 b) := x0_w7.cell rfl
  have cx01 : w7.cell? ⟨w.heap.size, 1, none⟩ = some (.slice ca C.length cc) := x0_w7.cell rfl
  have cx02 : w7.cell? ⟨w.heap.size, 2, none⟩ = some (.slice ma M.length mc) := x0_w7.cell rfl
  have lx0 := x0_w7.lt
  have cx10 : w7.cell? ⟨w.heap.size + 1, 0, none⟩ = some (.slice t_pa t_n t_pc) := x1_w7.cell rfl
  have cx11 : w7.cell? ⟨w.heap.size + 1, 1, none⟩ = some (.int .i64 t_k) := x1_w7.cell rfl
  have cx12 : w7.cell? ⟨w.heap.size + 1, 2, none⟩ = some (.int .i64 t_i) := x1_w7.cell rfl
  have cx13 : w7.cell? ⟨w.heap.size + 1, 3, none⟩ = some (.slice t_qa t_m t_qc) := x1_w7.cell rfl
  have lx1 := x1_w7.lt
  have cx20 : w7.cell? ⟨w.heap.size + 1 + 1, 0, none⟩ = some (.slice ua u_n uc) := x2_w7.cell rfl
  have cx21 : w7.cell? ⟨w.heap.size + 1 + 1, 1, none⟩ = some (.int .i64 u_d) := x2_w7.cell rfl
  have lx2 := x2_w7.lt
  go_wp2_with fail
  clear cx00 cx01 cx02 lx0 cx10 cx11 cx12 cx13 lx1 cx20 cx21 lx2
  refine wp_region_noPanic (wp_region_need (S := fun w' => w'.cell? ⟨w.heap.size, 0, none⟩ = some (.int .i64 b) ∧ w'.cell? ⟨w.heap.size, 1, none⟩ = some (.slice ca C.length cc) ∧ w'.cell? ⟨w.heap.size, 2, none⟩ = some (.slice ma M.length mc) ∧ w'.cell? ⟨w.heap.size + 1, 0, none⟩ = some (.slice t_pa t_n t_pc) ∧ w'.cell? ⟨w.heap.size + 1, 1, none⟩ = some (.int .i64 t_k) ∧ w'.cell? ⟨w.heap.size + 1, 2, none⟩ = some (.int .i64 t_i) ∧ w'.cell? ⟨w.heap.size + 1, 3, none⟩ = some (.slice t_qa t_m t_qc) ∧ w'.cell? ⟨w.heap.size + 1 + 1, 0, none⟩ = some (.slice ua u_n uc) ∧ w'.cell? ⟨w.heap.size + 1 + 1, 1, none⟩ = some (.int .i64 u_d)) (by kernel_rfl) ?_)
  have hS : (w7.drew).cell? ⟨w.heap.size, 0, none⟩ = some (.int .i64 b) ∧ (w7.drew).cell? ⟨w.heap.size, 1, none⟩ = some (.slice ca C.length cc) ∧ (w7.drew).cell? ⟨w.heap.size, 2, none⟩ = some (.slice ma M.length mc) ∧ (w7.drew).cell? ⟨w.heap.size + 1, 0, none⟩ = some (.slice t_pa t_n t_pc) ∧ (w7.drew).cell? ⟨w.heap.size + 1, 1, none⟩ = some (.int .i64 t_k) ∧ (w7.drew).cell? ⟨w.heap.size + 1, 2, none⟩ = some (.int .i64 t_i) ∧ (w7.drew).cell? ⟨w.heap.size + 1, 3, none⟩ = some (.slice t_qa t_m t_qc) ∧ (w7.drew).cell? ⟨w.heap.size + 1 + 1, 0, none⟩ = some (.slice ua u_n uc) ∧ (w7.drew).cell? ⟨w.heap.size + 1 + 1, 1, none⟩ = some (.int .i64 u_d) := ⟨x0_w7.drew.cell rfl, x0_w7.drew.cell rfl, x0_w7.drew.cell rfl, x1_w7.drew.cell rfl, x1_w7.drew.cell rfl, x1_w7.drew.cell rfl, x1_w7.drew.cell rfl, x2_w7.drew.cell rfl, x2_w7.drew.cell rfl⟩
  refine wpN_take (i := 0) (v := ?_) rfl (by kernel_rfl) (fun _ _ _ h => h) hS (Or.inl ⟨by rfl, ?_⟩) ?_
  rotate_left; focus (intro wS hSw; (try dsimp only at hSw); go_simp; (try with_reducible rfl))
  try simp only [Act.put, List.setIfInBounds_toArray, List.set_cons_zero, List.set_cons_succ, List.getElem_toArray, List.getElem_cons_zero, List.getElem_cons_succ]
  refine wpN_pure (i := 2) (v := ?_) rfl (by kernel_rfl) (fun _ _ _ h => h) (Or.inl ⟨by rfl, ?_⟩) ?_
  rotate_left; focus (intro wS hSw; go_simp; (try with_reducible rfl))
  try simp only [Act.put, List.setIfInBounds_toArray, List.set_cons_zero, List.set_cons_succ, List.getElem_toArray, List.getElem_cons_zero, List.getElem_cons_succ]
  refine wpN_takeD [5, 8, 9, 10] (i := 4) (v := ?_) rfl (by kernel_rfl) (fun _ _ _ h => h) hS (Or.inl ⟨by rfl, ?_⟩) ?_
  rotate_left; focus (intro wS hSw; (try dsimp only at hSw); go_simp; (try with_reducible rfl))
  try simp only [Act.put, List.setIfInBounds_toArray, List.set_cons_zero, List.set_cons_succ, List.getElem_toArray, List.getElem_cons_zero, List.getElem_cons_succ]
  refine wpN_gathersP [(1, 37), (3, 39), (5, 41), (6, 9), (7, 11)] 3 (PhiL [(1, phiWd b C M), (3, phiSl rpTy X), (5, phiTm t), (6, phiBlk #[.int .i64 0, .slice none 0 0, .slice none 0 0] 90), (7, phiBlk #[.slice none 0 0, .int .i64 0, .int .i64 0, .slice none 0 0] 37)]) (fun _ _ => True) rfl rfl (by kernel_rfl) phiL_below (fun _ _ _ _ _ _ => trivial) hS ?gop ?gend
  case gop =>
    intro xG hx uG w' hdG hB' hS'
    obtain ⟨q1, q2, q3, q4, q5, q6, q7, q8, q9⟩ := hS'
    have hbw : Below w7.heap.size w7 w' := (Below.refl _ _).drew.trans hB'
    simp only [List.mem_cons, List.not_mem_nil, or_false] at hx
    rcases hx with rfl | rfl | rfl | rfl | rfl
    · skip
      clear hdG
      refine wpOp_step (i := 1) rfl (fun K hK => ?_)
      have hK := Lib.hid hK
      simp only [fills, List.foldl, Act.put, List.setIfInBounds_toArray, List.set_cons_zero, List.set_cons_succ, List.getElem_toArray, List.getElem_cons_zero, List.getElem_cons_succ]
      go_simp
      refine (world_any (C_w7.out.bel hbw) (M_w7.out.bel hbw) ⟨HsC.out, HsM.out⟩).mono ?_
      intro e w6 h
      obtain ⟨_, _, rfl, hT1, hT2, hb6⟩ := h
      have hKp : Keep (fun _ => True) w' w6 := (Keep.refl _ _).below hb6
      exact hK.out _ _ ⟨_, rfl, phiL_mk rfl ⟨_, _, rfl, hT1.weaken (by decide) (fun _ h1 h2 => ⟨h2, h1⟩), hT2.weaken (by decide) fun _ h1 h2 => ⟨h2, h1⟩⟩, trivial, hb6, hKp _ _ _ trivial q1, hKp _ _ _ trivial q2, hKp _ _ _ trivial q3, hKp _ _ _ trivial q4, hKp _ _ _ trivial q5, hKp _ _ _ trivial q6, hKp _ _ _ trivial q7, hKp _ _ _ trivial q8, hKp _ _ _ trivial q9⟩
    · skip
      clear hdG
      refine wpOp_step (i := 3) rfl (fun K hK => ?_)
      have hK := Lib.hid hK
      simp only [fills, List.foldl, Act.put, List.setIfInBounds_toArray, List.set_cons_zero, List.set_cons_succ, List.getElem_toArray, List.getElem_cons_zero, List.getElem_cons_succ]
      go_simp
      refine (types_any (X_w7.out.bel hbw) w' (Keep.refl _ _) HsX.out).mono ?_
      intro e w6 h
      obtain ⟨_, _, rfl, hT, hb6⟩ := h
      have hKp : Keep (fun _ => True) w' w6 := (Keep.refl _ _).below hb6
      exact hK.out _ _ ⟨_, rfl, phiL_mk rfl ⟨_, _, rfl, hT.weaken (by decide) fun _ h1 h2 => ⟨h2, h1⟩⟩, trivial, hb6, hKp _ _ _ trivial q1, hKp _ _ _ trivial q2, hKp _ _ _ trivial q3, hKp _ _ _ trivial q4, hKp _ _ _ trivial q5, hKp _ _ _ trivial q6, hKp _ _ _ trivial q7, hKp _ _ _ trivial q8, hKp _ _ _ trivial q9⟩
    · skip
      clear hdG
      refine wpOp_step (i := 5) rfl (fun K hK => ?_)
      have hK := Lib.hid hK
      simp only [fills, List.foldl, Act.put, List.setIfInBounds_toArray, List.set_cons_zero, List.set_cons_succ, List.getElem_toArray, List.getElem_cons_zero, List.getElem_cons_succ]
      go_simp
      refine (to6_any (T_w7.out.bel hbw) w' (by have := Hf.out; omega) (Keep.refl _ _)).mono ?_
      intro e w6 h
      obtain ⟨_, _, _, _, rfl, hT, hb6⟩ := h
      have hKp : Keep (fun _ => True) w' w6 := (Keep.refl _ _).below hb6
      exact hK.out _ _ ⟨_, rfl, phiL_mk rfl ⟨_, _, _, _, rfl, hT.weaken fun _ h1 h2 => ⟨h2, h1⟩⟩, trivial, hb6, hKp _ _ _ trivial q1, hKp _ _ _ trivial q2, hKp _ _ _ trivial q3, hKp _ _ _ trivial q4, hKp _ _ _ trivial q5, hKp _ _ _ trivial q6, hKp _ _ _ trivial q7, hKp _ _ _ trivial q8, hKp _ _ _ trivial q9⟩
    · skip
      clear hdG
      refine wpOp_step (i := 6) rfl (fun K hK => ?_)
      have hK := Lib.hid hK
      simp only [fills, List.foldl, Act.put, List.setIfInBounds_toArray, List.set_cons_zero, List.set_cons_succ, List.getElem_toArray, List.getElem_cons_zero, List.getElem_cons_succ]
      go_simp
      have hb6 : Below w'.heap.size w' (w'.alloc (.cells #[.int .i64 0, .slice none 0 0, .slice none 0 0] 90)) := (Below.refl _ _).alloc (Nat.le_refl _) _
      have hKp : Keep (fun _ => True) w' (w'.alloc (.cells #[.int .i64 0, .slice none 0 0, .slice none 0 0] 90)) := (Keep.refl _ _).below hb6
      exact hK.out _ _ ⟨_, rfl, phiL_mk rfl ⟨rfl, by simp, Blk.new _ _ _ rfl⟩, trivial, hb6, hKp _ _ _ trivial q1, hKp _ _ _ trivial q2, hKp _ _ _ trivial q3, hKp _ _ _ trivial q4, hKp _ _ _ trivial q5, hKp _ _ _ trivial q6, hKp _ _ _ trivial q7, hKp _ _ _ trivial q8, hKp _ _ _ trivial q9⟩
    · skip
      clear hdG
      refine wpOp_step (i := 7) rfl (fun K hK => ?_)
      have hK := Lib.hid hK
      simp only [fills, List.foldl, Act.put, List.setIfInBounds_toArray, List.set_cons_zero, List.set_cons_succ, List.getElem_toArray, List.getElem_cons_zero, List.getElem_cons_succ]
      go_simp
      have hb6 : Below w'.heap.size w' (w'.alloc (.cells #[.slice none 0 0, .int .i64 0, .int .i64 0, .slice none 0 0] 37)) := (Below.refl _ _).alloc (Nat.le_refl _) _
      have hKp : Keep (fun _ => True) w' (w'.alloc (.cells #[.slice none 0 0, .int .i64 0, .int .i64 0, .slice none 0 0] 37)) := (Keep.refl _ _).below hb6
      exact hK.out _ _ ⟨_, rfl, phiL_mk rfl ⟨rfl, by simp, Blk.new _ _ _ rfl⟩, trivial, hb6, hKp _ _ _ trivial q1, hKp _ _ _ trivial q2, hKp _ _ _ trivial q3, hKp _ _ _ trivial q4, hKp _ _ _ trivial q5, hKp _ _ _ trivial q6, hKp _ _ _ trivial q7, hKp _ _ _ trivial q8, hKp _ _ _ trivial q9⟩
  case gend =>
    intro uG loG hiG w' hΦ _ hB' hS'
    have hbw : Below w7.heap.size w7 w' := (Below.refl _ _).drew.trans hB'
    have hsz : w7.drew.heap.size = w7.heap.size := rfl
    have hsB := B_w7.size
    obtain ⟨g1, n1, m1, o1⟩ := hΦ.1 1 (by simp) rfl
    obtain ⟨_, _, e1, V1, VV1⟩ := phiL_at rfl g1
    obtain ⟨V_ca, V_cc, rfl⟩ := V1.shape
    obtain ⟨V_ma, V_mc, rfl⟩ := VV1.shape
    obtain ⟨g3, n3, m3, o3⟩ := hΦ.1 3 (by simp) rfl
    obtain ⟨c_a, c_c, e3, V3⟩ := phiL_at rfl g3
    obtain ⟨g5, n5, m5, o5⟩ := hΦ.1 5 (by simp) rfl
    obtain ⟨_, _, _, _, e5, V5⟩ := phiL_at rfl g5
    obtain ⟨x_pa, x_pc, x_qa, x_qc, rfl, rfl, rfl, rfl⟩ := V5.shape
    rw [Et_n.out, Et_m.out, Et_k.out, Et_i.out] at V5 e5
    obtain ⟨g6, n6, m6, o6⟩ := hΦ.1 6 (by simp) rfl
    obtain ⟨e6, r6, Z6⟩ := phiL_at rfl g6
    obtain ⟨g7, n7, m7, o7⟩ := hΦ.1 7 (by simp) rfl
    obtain ⟨e7, r7, Z7⟩ := phiL_at rfl g7
    have k1_6 := hΦ.2 1 (by simp) 6 (by simp) rfl rfl (by decide)
    have k3_6 := hΦ.2 3 (by simp) 6 (by simp) rfl rfl (by decide)
    have k5_6 := hΦ.2 5 (by simp) 6 (by simp) rfl rfl (by decide)
    have k7_6 := hΦ.2 7 (by simp) 6 (by simp) rfl rfl (by decide)
    have k1_7 := hΦ.2 1 (by simp) 7 (by simp) rfl rfl (by decide)
    have k3_7 := hΦ.2 3 (by simp) 7 (by simp) rfl rfl (by decide)
    have k5_7 := hΦ.2 5 (by simp) 7 (by simp) rfl rfl (by decide)
    clear hΦ g1 g3 g5 g6 g7
    simp only [fills, List.foldl, Act.put, List.setIfInBounds_toArray, List.set_cons_zero, List.set_cons_succ, List.getElem_toArray, List.getElem_cons_zero, List.getElem_cons_succ]
    rw [e1, e3, e5, e6, e7]
    clear e1 e3 e5 e6 e7
    rw [hsz] at n1 n3 n5 n6 n7
    generalize loG 6 = p at *
    generalize loG 7 = q at *
    have Dpq : p ≠ q := by omega
    have Dqp : q ≠ p := by omega
    have U1 := Lib.hid (V1.weaken (F' := fun z => z ≠ p ∧ z ≠ q) (by decide) fun z _ h => ⟨by omega, by omega⟩)
    have UU1 := Lib.hid (VV1.weaken (F' := fun z => z ≠ p ∧ z ≠ q) (by decide) fun z _ h => ⟨by omega, by omega⟩)
    have U3 := Lib.hid (V3.weaken (F' := fun z => z ≠ p ∧ z ≠ q) (by decide) fun z _ h => ⟨by omega, by omega⟩)
    have U5 := Lib.hid (V5.weaken (F' := fun z => z ≠ p ∧ z ≠ q) fun z _ h => ⟨by omega, by omega⟩)
    clear V1 V3 V5 VV1 k1_6 k3_6 k5_6 k7_6 k1_7 k3_7 k5_7
    have rp_0 : w'.cell? ⟨p, 0, none⟩ = some (.int .i64 0) := Z6.cell rfl
    have fp_0 := Z6.free 0
    have rp_1 : w'.cell? ⟨p, 1, none⟩ = some (.slice none 0 0) := Z6.cell rfl
    have fp_1 := Z6.free 1
    have rp_2 : w'.cell? ⟨p, 2, none⟩ = some (.slice none 0 0) := Z6.cell rfl
    have fp_2 := Z6.free 2
    have rq_0 : w'.cell? ⟨q, 0, none⟩ = some (.slice none 0 0) := Z7.cell rfl
    have fq_0 := Z7.free 0
    have rq_1 : w'.cell? ⟨q, 1, none⟩ = some (.int .i64 0) := Z7.cell rfl
    have fq_1 := Z7.free 1
    have rq_2 : w'.cell? ⟨q, 2, none⟩ = some (.int .i64 0) := Z7.cell rfl
    have fq_2 := Z7.free 2
    have rq_3 : w'.cell? ⟨q, 3, none⟩ = some (.slice none 0 0) := Z7.cell rfl
    have fq_3 := Z7.free 3
    refine wpN_step (i := 8) (by kernel_rfl) rfl (fun K hK => ?_)
    have hK := Lib.hid hK
    simp only [Act.put, List.setIfInBounds_toArray, List.set_cons_zero, List.set_cons_succ, List.getElem_toArray, List.getElem_cons_zero, List.getElem_cons_succ]
    go_simp
    refine hK.out.out _ _ (fun h => absurd h (by decide)) ?_
    refine wpN_step (i := 9) (by kernel_rfl) rfl (fun K hK => ?_)
    have hK := Lib.hid hK
    simp only [Act.put, List.setIfInBounds_toArray, List.set_cons_zero, List.set_cons_succ, List.getElem_toArray, List.getElem_cons_zero, List.getElem_cons_succ]
    go_simp
    refine hK.out.out _ _ (fun h => absurd h (by decide)) ?_
    refine wpN_step (i := 10) (by kernel_rfl) rfl (fun K hK => ?_)
    have hK := Lib.hid hK
    simp only [Act.put, List.setIfInBounds_toArray, List.set_cons_zero, List.set_cons_succ, List.getElem_toArray, List.getElem_cons_zero, List.getElem_cons_succ]
    go_simp
    refine hK.out.out _ _ (fun h => absurd h (by decide)) ?_
    refine wpN_done (by kernel_rfl) ?_
    refine NoPanic.normal ?_
    obtain ⟨w8, hw8⟩ : ∃ x, (((((((w'.setCell ⟨p, 0, none⟩ (.int .i64 b)).setCell ⟨p, 1, none⟩ (.slice V_ca C.length V_cc)).setCell ⟨p, 2, none⟩ (.slice V_ma M.length V_mc)).setCell ⟨q, 0, none⟩ (.slice x_pa t_n x_pc)).setCell ⟨q, 1, none⟩ (.int .i64 t_k)).setCell ⟨q, 2, none⟩ (.int .i64 t_i)).setCell ⟨q, 3, none⟩ (.slice x_qa t_m x_qc)) = x := ⟨_, rfl⟩
    rw [hw8]
    have Lx0 := x0_w7.lt
    have Lx1 := x1_w7.lt
    have Lx2 := x2_w7.lt
    have B6 := B_w7.trans (hbw.mono B_w7.size)
    have x0_w8 : Blk w8 (w.heap.size) #[.int .i64 b, .slice ca C.length cc, .slice ma M.length mc] 87 := by rw [← hw8]; exact (((((((x0_w7.below hbw).far _ _ (by simp; omega)).far _ _ (by simp; omega)).far _ _ (by simp; omega)).far _ _ (by simp; omega)).far _ _ (by simp; omega)).far _ _ (by simp; omega)).far _ _ (by simp; omega)
    have x1_w8 : Blk w8 (w.heap.size + 1) #[.slice t_pa t_n t_pc, .int .i64 t_k, .int .i64 t_i, .slice t_qa t_m t_qc] 29 := by rw [← hw8]; exact (((((((x1_w7.below hbw).far _ _ (by simp; omega)).far _ _ (by simp; omega)).far _ _ (by simp; omega)).far _ _ (by simp; omega)).far _ _ (by simp; omega)).far _ _ (by simp; omega)).far _ _ (by simp; omega)
    have x2_w8 : Blk w8 (w.heap.size + 1 + 1) #[.slice ua u_n uc, .int .i64 u_d] 26 := by rw [← hw8]; exact (((((((x2_w7.below hbw).far _ _ (by simp; omega)).far _ _ (by simp; omega)).far _ _ (by simp; omega)).far _ _ (by simp; omega)).far _ _ (by simp; omega)).far _ _ (by simp; omega)).far _ _ (by simp; omega)
    have yp_w8 : Blk w8 p #[.int .i64 b, .slice V_ca C.length V_cc, .slice V_ma M.length V_mc] 90 := by rw [← hw8]; exact (((((((Z6).set 0 _).set 1 _).set 2 _).far _ _ (by simpa using Dpq)).far _ _ (by simpa using Dpq)).far _ _ (by simpa using Dpq)).far _ _ (by simpa using Dpq)
    have np : w7.heap.size ≤ p := n6
    have yq_w8 : Blk w8 q #[.slice x_pa t_n x_pc, .int .i64 t_k, .int .i64 t_i, .slice x_qa t_m x_qc] 37 := by rw [← hw8]; exact (((((((Z7).far _ _ (by simpa using Dqp)).far _ _ (by simpa using Dqp)).far _ _ (by simpa using Dqp)).set 0 _).set 1 _).set 2 _).set 3 _
    have nq : w7.heap.size ≤ q := n7
    have KU : Keep (fun z => z ≠ p ∧ z ≠ q) w' w8 := by rw [← hw8]; exact (((((((Keep.refl _ _).setCell _ _ (by simp)).setCell _ _ (by simp)).setCell _ _ (by simp)).setCell _ _ (by simp)).setCell _ _ (by simp)).setCell _ _ (by simp)).setCell _ _ (by simp)
    have KT : Keep (fun z => z < w7.heap.size) w7 w8 := by rw [← hw8]; exact ((((((((Keep.refl _ _).below hbw).setCell _ _ (by simp; omega)).setCell _ _ (by simp; omega)).setCell _ _ (by simp; omega)).setCell _ _ (by simp; omega)).setCell _ _ (by simp; omega)).setCell _ _ (by simp; omega)).setCell _ _ (by simp; omega)
    have B_w8 : Below w.heap.size w w8 := by rw [← hw8]; exact (((((((B6).setCell (by simp; omega) _).setCell (by simp; omega) _).setCell (by simp; omega) _).setCell (by simp; omega) _).setCell (by simp; omega) _).setCell (by simp; omega) _).setCell (by simp; omega) _
    have VC_w8 := Lib.hid ((U1.out.keep KU).weaken (F' := fun _ => True) (by decide) fun _ _ _ => trivial)
    have VM_w8 := Lib.hid ((UU1.out.keep KU).weaken (F' := fun _ => True) (by decide) fun _ _ _ => trivial)
    have c_w8 := Lib.hid ((U3.out.keep KU).weaken (F' := fun _ => True) (by decide) fun _ _ _ => trivial)
    have x_w8 := Lib.hid ((U5.out.keep KU).weaken (F' := fun _ => True) fun _ _ _ => trivial)
    have T_w8 := Lib.hid (((T_w7.out.weaken (F' := fun z => z < w7.heap.size) fun z hz _ => hz).keep KT).weaken (F' := fun _ => True) fun _ _ _ => trivial)
    have U_w8 := Lib.hid (((U_w7.out.weaken (F' := fun z => z < w7.heap.size) fun z hz _ => hz).keep KT).weaken (F' := fun _ => True) fun _ _ _ => trivial)
    have C_w8 := Lib.hid (((C_w7.out.weaken (F' := fun z => z < w7.heap.size) (by decide) fun z hz _ => hz).keep KT).weaken (F' := fun _ => True) (by decide) fun _ _ _ => trivial)
    have M_w8 := Lib.hid (((M_w7.out.weaken (F' := fun z => z < w7.heap.size) (by decide) fun z hz _ => hz).keep KT).weaken (F' := fun _ => True) (by decide) fun _ _ _ => trivial)
    have X_w8 := Lib.hid (((X_w7.out.weaken (F' := fun z => z < w7.heap.size) (by decide) fun z hz _ => hz).keep KT).weaken (F' := fun _ => True) (by decide) fun _ _ _ => trivial)
    clear hw8 KU KT U1 UU1 U3 U5 x0_w7 x1_w7 x2_w7 T_w7 U_w7 C_w7 M_w7 X_w7 B_w7 Z6 Z7 rp_0 fp_0 rp_1 fp_1 rp_2 fp_2 rq_0 fq_0 rq_1 fq_1 rq_2 fq_2 rq_3 fq_3 Lx0 Lx1 Lx2 hbw hB' B6 hS hS' hsz hsB Dpq Dqp n1 n3 n5 n6 n7 m1 m3 m5 m6 m7 o1 o3 o5 o6 o7 r6 r7
    have Htidx : Hid (t.index ≤ 9223372036854775807) := by show _ ≤ _; rw [Et_i.out]; exact Hti.out
    obtain ⟨o1, ho1⟩ : ∃ o, headTy C M X t_k t_i = o := ⟨_, rfl⟩
    obtain ⟨o2, ho2⟩ : ∃ o, (headTy C M (X ++ t.binds) t.kind t.index).map (fun h => Ty.mk t.binds h.base) = o := ⟨_, rfl⟩
    have Ho1 := Lib.hid ho1; have Ho2 := Lib.hid ho2
    clear ho1 ho2
    obtain ⟨k1, hk1⟩ : ∃ k, o1.isSome = k := ⟨_, rfl⟩
    obtain ⟨k2, hk2⟩ : ∃ k, o2.isSome = k := ⟨_, rfl⟩
    obtain ⟨z1, hz1⟩ : ∃ k, o1.getD tyZ = k := ⟨_, rfl⟩
    obtain ⟨z2, hz2⟩ : ∃ k, o2.getD tyZ = k := ⟨_, rfl⟩
    have Hk1 := Lib.hid hk1; have Hk2 := Lib.hid hk2; have Hz1 := Lib.hid hz1; have Hz2 := Lib.hid hz2
    have Hs1 : Hid (z1.size ≤ 200 ∧ ∀ t', o1 = some t' → t'.size ≤ 90000) := by
      have hall : ∀ t', o1 = some t' → t'.size ≤ 60 := fun t' h => (Hs.out.2.2.2 t' (headTy_mem (Ho1.out.trans h))).1
      refine ⟨?_, fun t' h => by have := hall t' h; omega⟩
      rw [← hz1]
      cases o1 with
      | none => simp [tyZ, Ty.size, Ty.sizes]
      | some a => have := hall a rfl; simp; omega
    have Hs2 : Hid (z2.size ≤ 200) := by
      show _ ≤ _
      rw [← hz2, ← Ho2.out]
      have h1 : Ty.sizes t.binds + 1 ≤ 150 := by have := Hf.out.1; cases t; rw [Tm.full_eq] at this; simp only [Tm.binds]; omega
      cases headTy C M (X ++ t.binds) t.kind t.index with
      | none => simp [tyZ, Ty.size, Ty.sizes]
      | some a => simp [Ty.size]; omega
    clear hk1 hk2 hz1 hz2
    obtain ⟨c1, hc1⟩ : ∃ c : Int, c = if k1 = true then 0 else 10 := ⟨_, rfl⟩
    obtain ⟨c2, hc2⟩ : ∃ c : Int, c = if k2 = true then 0 else 10 := ⟨_, rfl⟩
    have Hc1 := Lib.hid hc1; have Hc2 := Lib.hid hc2
    clear hc1 hc2
    obtain ⟨z1_n, hn⟩ : ∃ x, z1.args.length = x := ⟨_, rfl⟩
    obtain ⟨z1_d, hd⟩ : ∃ x, z1.base = x := ⟨_, rfl⟩
    have Ez1_n := Lib.hid hn; have Ez1_d := Lib.hid hd
    clear hn hd
    obtain ⟨z2_n, hn⟩ : ∃ x, z2.args.length = x := ⟨_, rfl⟩
    obtain ⟨z2_d, hd⟩ : ∃ x, z2.base = x := ⟨_, rfl⟩
    have Ez2_n := Lib.hid hn; have Ez2_d := Lib.hid hd
    clear hn hd
    have cyp0 : w8.cell? ⟨p, 0, none⟩ = some (.int .i64 b) := yp_w8.cell rfl
    have cyp1 : w8.cell? ⟨p, 1, none⟩ = some (.slice V_ca C.length V_cc) := yp_w8.cell rfl
    have cyp2 : w8.cell? ⟨p, 2, none⟩ = some (.slice V_ma M.length V_mc) := yp_w8.cell rfl
    have lyp := yp_w8.lt
    have cyq0 : w8.cell? ⟨q, 0, none⟩ = some (.slice x_pa t_n x_pc) := yq_w8.cell rfl
    have cyq1 : w8.cell? ⟨q, 1, none⟩ = some (.int .i64 t_k) := yq_w8.cell rfl
    have cyq2 : w8.cell? ⟨q, 2, none⟩ = some (.int .i64 t_i) := yq_w8.cell rfl
    have cyq3 : w8.cell? ⟨q, 3, none⟩ = some (.slice x_qa t_m x_qc) := yq_w8.cell rfl
    have lyq := yq_w8.lt
    go_wp2_with fail
    clear cyp0 cyp1 cyp2 lyp cyq0 cyq1 cyq2 cyq3 lyq
    have H1k := Lib.hid ((HeadType_kT (b := b) VC_w8.out VM_w8.out c_w8.out t_k t_i Hti.out (by rw [Ho1.out]; exact Hs1.out.2)).mono fun _ _ h => (TyPostE.to (c := c1) (z := z1) (by rw [Ho1.out]; exact Hk1.out) (by rw [Ho1.out]; exact Hz1.out) Hc1.out h))
    refine (H1k.out).mono ?_
    rintro e v0 ⟨s1, d1, rfl, hT, hbx0⟩
    have hbx : Below w8.heap.size w8 v0 := hbx0
    clear hbx0
    have x0_v0 := x0_w8.below hbx
    have x1_v0 := x1_w8.below hbx
    have x2_v0 := x2_w8.below hbx
    have yp_v0 := yp_w8.below hbx
    have yq_v0 := yq_w8.below hbx
    have T_v0 := Lib.hid (T_w8.out.bel hbx)
    have U_v0 := Lib.hid (U_w8.out.bel hbx)
    have C_v0 := Lib.hid (C_w8.out.bel hbx)
    have M_v0 := Lib.hid (M_w8.out.bel hbx)
    have X_v0 := Lib.hid (X_w8.out.bel hbx)
    have VC_v0 := Lib.hid (VC_w8.out.bel hbx)
    have VM_v0 := Lib.hid (VM_w8.out.bel hbx)
    have c_v0 := Lib.hid (c_w8.out.bel hbx)
    have x_v0 := Lib.hid (x_w8.out.bel hbx)
    have B_v0 := B_w8.trans (hbx.mono B_w8.size)
    clear x0_w8 x1_w8 x2_w8 yp_w8 yq_w8 T_w8 U_w8 C_w8 M_w8 X_w8 VC_w8 VM_w8 c_w8 x_w8 B_w8 hbx
    clear H1k
    obtain ⟨e1_a, e1_c, rfl, rfl⟩ := hT.shape
    rw [Ez1_n.out, Ez1_d.out] at hT ⊢
    have e1_v0 := Lib.hid hT
    clear hT
    have cx00 : v0.cell? ⟨w.heap.size, 0, none⟩ = some (.int .i64 b) := x0_v0.cell rfl
    have cx01 : v0.cell? ⟨w.heap.size, 1, none⟩ = some (.slice ca C.length cc) := x0_v0.cell rfl
    have cx02 : v0.cell? ⟨w.heap.size, 2, none⟩ = some (.slice ma M.length mc) := x0_v0.cell rfl
    have lx0 := x0_v0.lt
    have cx10 : v0.cell? ⟨w.heap.size + 1, 0, none⟩ = some (.slice t_pa t_n t_pc) := x1_v0.cell rfl
    have cx11 : v0.cell? ⟨w.heap.size + 1, 1, none⟩ = some (.int .i64 t_k) := x1_v0.cell rfl
    have cx12 : v0.cell? ⟨w.heap.size + 1, 2, none⟩ = some (.int .i64 t_i) := x1_v0.cell rfl
    have cx13 : v0.cell? ⟨w.heap.size + 1, 3, none⟩ = some (.slice t_qa t_m t_qc) := x1_v0.cell rfl
    have lx1 := x1_v0.lt
    go_wp2_with fail
    clear cx00 cx01 cx02 lx0 cx10 cx11 cx12 cx13 lx1
    obtain ⟨v1, hv1⟩ : ∃ x, v0.alloc (.cells #[.slice e1_a z1_n e1_c, .int .i64 z1_d] 40) = x := ⟨_, rfl⟩
    obtain ⟨e1p, he1p⟩ : ∃ x, v0.heap.size = x := ⟨_, rfl⟩
    have hbx : Below v0.heap.size v0 v1 := by rw [← hv1]; exact (Below.refl _ _).alloc (Nat.le_refl _) _
    have ye1_v1 : Blk v1 e1p #[.slice e1_a z1_n e1_c, .int .i64 z1_d] 40 := by rw [← hv1]; exact Blk.new _ _ _ he1p.symm
    try rw [hv1]
    try rw [he1p]
    clear hv1 he1p
    have x0_v1 := x0_v0.below hbx
    have x1_v1 := x1_v0.below hbx
    have x2_v1 := x2_v0.below hbx
    have yp_v1 := yp_v0.below hbx
    have yq_v1 := yq_v0.below hbx
    have T_v1 := Lib.hid (T_v0.out.bel hbx)
    have U_v1 := Lib.hid (U_v0.out.bel hbx)
    have C_v1 := Lib.hid (C_v0.out.bel hbx)
    have M_v1 := Lib.hid (M_v0.out.bel hbx)
    have X_v1 := Lib.hid (X_v0.out.bel hbx)
    have VC_v1 := Lib.hid (VC_v0.out.bel hbx)
    have VM_v1 := Lib.hid (VM_v0.out.bel hbx)
    have c_v1 := Lib.hid (c_v0.out.bel hbx)
    have x_v1 := Lib.hid (x_v0.out.bel hbx)
    have e1_v1 := Lib.hid (e1_v0.out.bel hbx)
    have B_v1 := B_v0.trans (hbx.mono B_v0.size)
    clear x0_v0 x1_v0 x2_v0 yp_v0 yq_v0 T_v0 U_v0 C_v0 M_v0 X_v0 VC_v0 VM_v0 c_v0 x_v0 e1_v0 B_v0 hbx
    have H1k := Lib.hid ((headType_rT (b := b) C_v1.out M_v1.out X_v1.out t_k t_i).mono fun _ _ h => (HeadPost.to (k := k1) (z := z1) (by rw [Ho1.out]; exact Hk1.out) (by rw [Ho1.out]; exact Hz1.out) h))
    refine (H1k.out).mono ?_
    rintro e v2 ⟨s1, d1, rfl, hT, hbx0⟩
    have hbx : Below v1.heap.size v1 v2 := hbx0
    clear hbx0
    have x0_v2 := x0_v1.below hbx
    have x1_v2 := x1_v1.below hbx
    have x2_v2 := x2_v1.below hbx
    have yp_v2 := yp_v1.below hbx
    have yq_v2 := yq_v1.below hbx
    have ye1_v2 := ye1_v1.below hbx
    have T_v2 := Lib.hid (T_v1.out.bel hbx)
    have U_v2 := Lib.hid (U_v1.out.bel hbx)
    have C_v2 := Lib.hid (C_v1.out.bel hbx)
    have M_v2 := Lib.hid (M_v1.out.bel hbx)
    have X_v2 := Lib.hid (X_v1.out.bel hbx)
    have VC_v2 := Lib.hid (VC_v1.out.bel hbx)
    have VM_v2 := Lib.hid (VM_v1.out.bel hbx)
    have c_v2 := Lib.hid (c_v1.out.bel hbx)
    have x_v2 := Lib.hid (x_v1.out.bel hbx)
    have e1_v2 := Lib.hid (e1_v1.out.bel hbx)
    have B_v2 := B_v1.trans (hbx.mono B_v1.size)
    clear x0_v1 x1_v1 x2_v1 yp_v1 yq_v1 ye1_v1 T_v1 U_v1 C_v1 M_v1 X_v1 VC_v1 VM_v1 c_v1 x_v1 e1_v1 B_v1 hbx
    clear H1k
    obtain ⟨e2_a, e2_c, rfl, rfl⟩ := hT.shape
    rw [Ez1_n.out, Ez1_d.out] at hT ⊢
    have e2_v2 := Lib.hid hT
    clear hT
    have cyp0 : v2.cell? ⟨p, 0, none⟩ = some (.int .i64 b) := yp_v2.cell rfl
    have cyp1 : v2.cell? ⟨p, 1, none⟩ = some (.slice V_ca C.length V_cc) := yp_v2.cell rfl
    have cyp2 : v2.cell? ⟨p, 2, none⟩ = some (.slice V_ma M.length V_mc) := yp_v2.cell rfl
    have lyp := yp_v2.lt
    have cyq0 : v2.cell? ⟨q, 0, none⟩ = some (.slice x_pa t_n x_pc) := yq_v2.cell rfl
    have cyq1 : v2.cell? ⟨q, 1, none⟩ = some (.int .i64 t_k) := yq_v2.cell rfl
    have cyq2 : v2.cell? ⟨q, 2, none⟩ = some (.int .i64 t_i) := yq_v2.cell rfl
    have cyq3 : v2.cell? ⟨q, 3, none⟩ = some (.slice x_qa t_m x_qc) := yq_v2.cell rfl
    have lyq := yq_v2.lt
    go_wp2_with fail
    clear cyp0 cyp1 cyp2 lyp cyq0 cyq1 cyq2 cyq3 lyq
    obtain ⟨v3, hv3⟩ : ∃ x, v2.alloc (.cells #[.slice e2_a z1_n e2_c, .int .i64 z1_d] 26) = x := ⟨_, rfl⟩
    obtain ⟨e2p, he2p⟩ : ∃ x, v2.heap.size = x := ⟨_, rfl⟩
    have hbx : Below v2.heap.size v2 v3 := by rw [← hv3]; exact (Below.refl _ _).alloc (Nat.le_refl _) _
    have ye2_v3 : Blk v3 e2p #[.slice e2_a z1_n e2_c, .int .i64 z1_d] 26 := by rw [← hv3]; exact Blk.new _ _ _ he2p.symm
    try rw [hv3]
    try rw [he2p]
    clear hv3 he2p
    have x0_v3 := x0_v2.below hbx
    have x1_v3 := x1_v2.below hbx
    have x2_v3 := x2_v2.below hbx
    have yp_v3 := yp_v2.below hbx
    have yq_v3 := yq_v2.below hbx
    have ye1_v3 := ye1_v2.below hbx
    have T_v3 := Lib.hid (T_v2.out.bel hbx)
    have U_v3 := Lib.hid (U_v2.out.bel hbx)
    have C_v3 := Lib.hid (C_v2.out.bel hbx)
    have M_v3 := Lib.hid (M_v2.out.bel hbx)
    have X_v3 := Lib.hid (X_v2.out.bel hbx)
    have VC_v3 := Lib.hid (VC_v2.out.bel hbx)
    have VM_v3 := Lib.hid (VM_v2.out.bel hbx)
    have c_v3 := Lib.hid (c_v2.out.bel hbx)
    have x_v3 := Lib.hid (x_v2.out.bel hbx)
    have e1_v3 := Lib.hid (e1_v2.out.bel hbx)
    have e2_v3 := Lib.hid (e2_v2.out.bel hbx)
    have B_v3 := B_v2.trans (hbx.mono B_v2.size)
    clear x0_v2 x1_v2 x2_v2 yp_v2 yq_v2 ye1_v2 T_v2 U_v2 C_v2 M_v2 X_v2 VC_v2 VM_v2 c_v2 x_v2 e1_v2 e2_v2 B_v2 hbx
    have H1k := Lib.hid ((TypeOf_kT (b := b) VC_v3.out VM_v3.out c_v3.out x_v3.out Htidx.out (by have := Hs.out.2.2.1; omega) (by have := Hf.out.1; omega)).mono fun _ _ h => (TyPostE.to (c := c2) (z := z2) (by rw [Ho2.out]; exact Hk2.out) (by rw [Ho2.out]; exact Hz2.out) Hc2.out h))
    refine (H1k.out).mono ?_
    rintro e v4 ⟨s1, d1, rfl, hT, hbx0⟩
    have hbx : Below v3.heap.size v3 v4 := hbx0
    clear hbx0
    have x0_v4 := x0_v3.below hbx
    have x1_v4 := x1_v3.below hbx
    have x2_v4 := x2_v3.below hbx
    have yp_v4 := yp_v3.below hbx
    have yq_v4 := yq_v3.below hbx
    have ye1_v4 := ye1_v3.below hbx
    have ye2_v4 := ye2_v3.below hbx
    have T_v4 := Lib.hid (T_v3.out.bel hbx)
    have U_v4 := Lib.hid (U_v3.out.bel hbx)
    have C_v4 := Lib.hid (C_v3.out.bel hbx)
    have M_v4 := Lib.hid (M_v3.out.bel hbx)
    have X_v4 := Lib.hid (X_v3.out.bel hbx)
    have VC_v4 := Lib.hid (VC_v3.out.bel hbx)
    have VM_v4 := Lib.hid (VM_v3.out.bel hbx)
    have c_v4 := Lib.hid (c_v3.out.bel hbx)
    have x_v4 := Lib.hid (x_v3.out.bel hbx)
    have e1_v4 := Lib.hid (e1_v3.out.bel hbx)
    have e2_v4 := Lib.hid (e2_v3.out.bel hbx)
    have B_v4 := B_v3.trans (hbx.mono B_v3.size)
    clear x0_v3 x1_v3 x2_v3 yp_v3 yq_v3 ye1_v3 ye2_v3 T_v3 U_v3 C_v3 M_v3 X_v3 VC_v3 VM_v3 c_v3 x_v3 e1_v3 e2_v3 B_v3 hbx
    clear H1k
    obtain ⟨e3_a, e3_c, rfl, rfl⟩ := hT.shape
    rw [Ez2_n.out, Ez2_d.out] at hT ⊢
    have e3_v4 := Lib.hid hT
    clear hT
    have cx00 : v4.cell? ⟨w.heap.size, 0, none⟩ = some (.int .i64 b) := x0_v4.cell rfl
    have cx01 : v4.cell? ⟨w.heap.size, 1, none⟩ = some (.slice ca C.length cc) := x0_v4.cell rfl
    have cx02 : v4.cell? ⟨w.heap.size, 2, none⟩ = some (.slice ma M.length mc) := x0_v4.cell rfl
    have lx0 := x0_v4.lt
    have cx10 : v4.cell? ⟨w.heap.size + 1, 0, none⟩ = some (.slice t_pa t_n t_pc) := x1_v4.cell rfl
    have cx11 : v4.cell? ⟨w.heap.size + 1, 1, none⟩ = some (.int .i64 t_k) := x1_v4.cell rfl
    have cx12 : v4.cell? ⟨w.heap.size + 1, 2, none⟩ = some (.int .i64 t_i) := x1_v4.cell rfl
    have cx13 : v4.cell? ⟨w.heap.size + 1, 3, none⟩ = some (.slice t_qa t_m t_qc) := x1_v4.cell rfl
    have lx1 := x1_v4.lt
    go_wp2_with fail
    clear cx00 cx01 cx02 lx0 cx10 cx11 cx12 cx13 lx1
    obtain ⟨v5, hv5⟩ : ∃ x, v4.alloc (.cells #[.slice e3_a z2_n e3_c, .int .i64 z2_d] 40) = x := ⟨_, rfl⟩
    obtain ⟨e3p, he3p⟩ : ∃ x, v4.heap.size = x := ⟨_, rfl⟩
    have hbx : Below v4.heap.size v4 v5 := by rw [← hv5]; exact (Below.refl _ _).alloc (Nat.le_refl _) _
    have ye3_v5 : Blk v5 e3p #[.slice e3_a z2_n e3_c, .int .i64 z2_d] 40 := by rw [← hv5]; exact Blk.new _ _ _ he3p.symm
    try rw [hv5]
    try rw [he3p]
    clear hv5 he3p
    have x0_v5 := x0_v4.below hbx
    have x1_v5 := x1_v4.below hbx
    have x2_v5 := x2_v4.below hbx
    have yp_v5 := yp_v4.below hbx
    have yq_v5 := yq_v4.below hbx
    have ye1_v5 := ye1_v4.below hbx
    have ye2_v5 := ye2_v4.below hbx
    have T_v5 := Lib.hid (T_v4.out.bel hbx)
    have U_v5 := Lib.hid (U_v4.out.bel hbx)
    have C_v5 := Lib.hid (C_v4.out.bel hbx)
    have M_v5 := Lib.hid (M_v4.out.bel hbx)
    have X_v5 := Lib.hid (X_v4.out.bel hbx)
    have VC_v5 := Lib.hid (VC_v4.out.bel hbx)
    have VM_v5 := Lib.hid (VM_v4.out.bel hbx)
    have c_v5 := Lib.hid (c_v4.out.bel hbx)
    have x_v5 := Lib.hid (x_v4.out.bel hbx)
    have e1_v5 := Lib.hid (e1_v4.out.bel hbx)
    have e2_v5 := Lib.hid (e2_v4.out.bel hbx)
    have e3_v5 := Lib.hid (e3_v4.out.bel hbx)
    have B_v5 := B_v4.trans (hbx.mono B_v4.size)
    clear x0_v4 x1_v4 x2_v4 yp_v4 yq_v4 ye1_v4 ye2_v4 T_v4 U_v4 C_v4 M_v4 X_v4 VC_v4 VM_v4 c_v4 x_v4 e1_v4 e2_v4 e3_v4 B_v4 hbx
    have H1k := Lib.hid ((TypeOf_rT (b := b) C_v5.out M_v5.out X_v5.out T_v5.out Htidx.out (by have := Hs.out.2.2.1; omega) (by have := Hf.out.1; omega)).mono fun _ _ h => (HeadPost.to (k := k2) (z := z2) (by rw [Ho2.out]; exact Hk2.out) (by rw [Ho2.out]; exact Hz2.out) h))
    refine (H1k.out).mono ?_
    rintro e v6 ⟨s1, d1, rfl, hT, hbx0⟩
    have hbx : Below v5.heap.size v5 v6 := hbx0
    clear hbx0
    have x0_v6 := x0_v5.below hbx
    have x1_v6 := x1_v5.below hbx
    have x2_v6 := x2_v5.below hbx
    have yp_v6 := yp_v5.below hbx
    have yq_v6 := yq_v5.below hbx
    have ye1_v6 := ye1_v5.below hbx
    have ye2_v6 := ye2_v5.below hbx
    have ye3_v6 := ye3_v5.below hbx
    have T_v6 := Lib.hid (T_v5.out.bel hbx)
    have U_v6 := Lib.hid (U_v5.out.bel hbx)
    have C_v6 := Lib.hid (C_v5.out.bel hbx)
    have M_v6 := Lib.hid (M_v5.out.bel hbx)
    have X_v6 := Lib.hid (X_v5.out.bel hbx)
    have VC_v6 := Lib.hid (VC_v5.out.bel hbx)
    have VM_v6 := Lib.hid (VM_v5.out.bel hbx)
    have c_v6 := Lib.hid (c_v5.out.bel hbx)
    have x_v6 := Lib.hid (x_v5.out.bel hbx)
    have e1_v6 := Lib.hid (e1_v5.out.bel hbx)
    have e2_v6 := Lib.hid (e2_v5.out.bel hbx)
    have e3_v6 := Lib.hid (e3_v5.out.bel hbx)
    have B_v6 := B_v5.trans (hbx.mono B_v5.size)
    clear x0_v5 x1_v5 x2_v5 yp_v5 yq_v5 ye1_v5 ye2_v5 ye3_v5 T_v5 U_v5 C_v5 M_v5 X_v5 VC_v5 VM_v5 c_v5 x_v5 e1_v5 e2_v5 e3_v5 B_v5 hbx
    clear H1k
    obtain ⟨e4_a, e4_c, rfl, rfl⟩ := hT.shape
    rw [Ez2_n.out, Ez2_d.out] at hT ⊢
    have e4_v6 := Lib.hid hT
    clear hT
    have cyp0 : v6.cell? ⟨p, 0, none⟩ = some (.int .i64 b) := yp_v6.cell rfl
    have cyp1 : v6.cell? ⟨p, 1, none⟩ = some (.slice V_ca C.length V_cc) := yp_v6.cell rfl
    have cyp2 : v6.cell? ⟨p, 2, none⟩ = some (.slice V_ma M.length V_mc) := yp_v6.cell rfl
    have lyp := yp_v6.lt
    have cyq0 : v6.cell? ⟨q, 0, none⟩ = some (.slice x_pa t_n x_pc) := yq_v6.cell rfl
    have cyq1 : v6.cell? ⟨q, 1, none⟩ = some (.int .i64 t_k) := yq_v6.cell rfl
    have cyq2 : v6.cell? ⟨q, 2, none⟩ = some (.int .i64 t_i) := yq_v6.cell rfl
    have cyq3 : v6.cell? ⟨q, 3, none⟩ = some (.slice x_qa t_m x_qc) := yq_v6.cell rfl
    have lyq := yq_v6.lt
    go_wp2_with fail
    clear cyp0 cyp1 cyp2 lyp cyq0 cyq1 cyq2 cyq3 lyq
    obtain ⟨v7, hv7⟩ : ∃ x, v6.alloc (.cells #[.slice e4_a z2_n e4_c, .int .i64 z2_d] 26) = x := ⟨_, rfl⟩
    obtain ⟨e4p, he4p⟩ : ∃ x, v6.heap.size = x := ⟨_, rfl⟩
    have hbx : Below v6.heap.size v6 v7 := by rw [← hv7]; exact (Below.refl _ _).alloc (Nat.le_refl _) _
    have ye4_v7 : Blk v7 e4p #[.slice e4_a z2_n e4_c, .int .i64 z2_d] 26 := by rw [← hv7]; exact Blk.new _ _ _ he4p.symm
    try rw [hv7]
    try rw [he4p]
    clear hv7 he4p
    have x0_v7 := x0_v6.below hbx
    have x1_v7 := x1_v6.below hbx
    have x2_v7 := x2_v6.below hbx
    have yp_v7 := yp_v6.below hbx
    have yq_v7 := yq_v6.below hbx
    have ye1_v7 := ye1_v6.below hbx
    have ye2_v7 := ye2_v6.below hbx
    have ye3_v7 := ye3_v6.below hbx
    have T_v7 := Lib.hid (T_v6.out.bel hbx)
    have U_v7 := Lib.hid (U_v6.out.bel hbx)
    have C_v7 := Lib.hid (C_v6.out.bel hbx)
    have M_v7 := Lib.hid (M_v6.out.bel hbx)
    have X_v7 := Lib.hid (X_v6.out.bel hbx)
    have VC_v7 := Lib.hid (VC_v6.out.bel hbx)
    have VM_v7 := Lib.hid (VM_v6.out.bel hbx)
    have c_v7 := Lib.hid (c_v6.out.bel hbx)
    have x_v7 := Lib.hid (x_v6.out.bel hbx)
    have e1_v7 := Lib.hid (e1_v6.out.bel hbx)
    have e2_v7 := Lib.hid (e2_v6.out.bel hbx)
    have e3_v7 := Lib.hid (e3_v6.out.bel hbx)
    have e4_v7 := Lib.hid (e4_v6.out.bel hbx)
    have B_v7 := B_v6.trans (hbx.mono B_v6.size)
    clear x0_v6 x1_v6 x2_v6 yp_v6 yq_v6 ye1_v6 ye2_v6 ye3_v6 T_v6 U_v6 C_v6 M_v6 X_v6 VC_v6 VM_v6 c_v6 x_v6 e1_v6 e2_v6 e3_v6 e4_v6 B_v6 hbx
    have D1 : (k1 = false ∧ c1 = 10) ∨ (k1 = true ∧ c1 = 0) := by
      have h := Hc1.out
      rcases Bool.eq_false_or_eq_true k1 with hk | hk
      · exact .inr ⟨hk, by rw [h, hk]; rfl⟩
      · exact .inl ⟨hk, by rw [h, hk]; rfl⟩
    have D2 : (k2 = false ∧ c2 = 10) ∨ (k2 = true ∧ c2 = 0) := by
      have h := Hc2.out
      rcases Bool.eq_false_or_eq_true k2 with hk | hk
      · exact .inr ⟨hk, by rw [h, hk]; rfl⟩
      · exact .inl ⟨hk, by rw [h, hk]; rfl⟩
    clear Hc1 Hc2
    rcases D2 with ⟨rfl, rfl⟩ | ⟨rfl, rfl⟩
    · rcases D1 with ⟨rfl, rfl⟩ | ⟨rfl, rfl⟩
      all_goals
        skip
        refine wp_region_noPanic (wp_region_need (S := fun w' => w'.cell? ⟨e1p, 0, none⟩ = some (.slice e1_a z1_n e1_c) ∧ w'.cell? ⟨e1p, 1, none⟩ = some (.int .i64 z1_d) ∧ w'.cell? ⟨e2p, 0, none⟩ = some (.slice e2_a z1_n e2_c) ∧ w'.cell? ⟨e2p, 1, none⟩ = some (.int .i64 z1_d) ∧ w'.cell? ⟨e3p, 0, none⟩ = some (.slice e3_a z2_n e3_c) ∧ w'.cell? ⟨e3p, 1, none⟩ = some (.int .i64 z2_d) ∧ w'.cell? ⟨e4p, 0, none⟩ = some (.slice e4_a z2_n e4_c) ∧ w'.cell? ⟨e4p, 1, none⟩ = some (.int .i64 z2_d)) (by kernel_rfl) ?_)
        have hS : (v7.drew).cell? ⟨e1p, 0, none⟩ = some (.slice e1_a z1_n e1_c) ∧ (v7.drew).cell? ⟨e1p, 1, none⟩ = some (.int .i64 z1_d) ∧ (v7.drew).cell? ⟨e2p, 0, none⟩ = some (.slice e2_a z1_n e2_c) ∧ (v7.drew).cell? ⟨e2p, 1, none⟩ = some (.int .i64 z1_d) ∧ (v7.drew).cell? ⟨e3p, 0, none⟩ = some (.slice e3_a z2_n e3_c) ∧ (v7.drew).cell? ⟨e3p, 1, none⟩ = some (.int .i64 z2_d) ∧ (v7.drew).cell? ⟨e4p, 0, none⟩ = some (.slice e4_a z2_n e4_c) ∧ (v7.drew).cell? ⟨e4p, 1, none⟩ = some (.int .i64 z2_d) := ⟨ye1_v7.drew.cell rfl, ye1_v7.drew.cell rfl, ye2_v7.drew.cell rfl, ye2_v7.drew.cell rfl, ye3_v7.drew.cell rfl, ye3_v7.drew.cell rfl, ye4_v7.drew.cell rfl, ye4_v7.drew.cell rfl⟩
        refine wpN_take (i := 0) (v := ?_) rfl (by kernel_rfl) (fun _ _ _ h => h) hS (Or.inl ⟨by rfl, ?_⟩) ?_
        rotate_left; focus (intro wS hSw; (try dsimp only at hSw); go_simp; (try with_reducible rfl))
        try simp only [Act.put, List.setIfInBounds_toArray, List.set_cons_zero, List.set_cons_succ, List.getElem_toArray, List.getElem_cons_zero, List.getElem_cons_succ]
        refine wpN_take (i := 1) (v := ?_) rfl (by kernel_rfl) (fun _ _ _ h => h) hS (Or.inl ⟨by rfl, ?_⟩) ?_
        rotate_left; focus (intro wS hSw; (try dsimp only at hSw); go_simp; (try with_reducible rfl))
        try simp only [Act.put, List.setIfInBounds_toArray, List.set_cons_zero, List.set_cons_succ, List.getElem_toArray, List.getElem_cons_zero, List.getElem_cons_succ]
        refine wpN_take (i := 2) (v := ?_) rfl (by kernel_rfl) (fun _ _ _ h => h) hS (Or.inl ⟨by rfl, ?_⟩) ?_
        rotate_left; focus (intro wS hSw; (try dsimp only at hSw); go_simp; (try with_reducible rfl))
        try simp only [Act.put, List.setIfInBounds_toArray, List.set_cons_zero, List.set_cons_succ, List.getElem_toArray, List.getElem_cons_zero, List.getElem_cons_succ]
        refine wpN_take (i := 3) (v := ?_) rfl (by kernel_rfl) (fun _ _ _ h => h) hS (Or.inl ⟨by rfl, ?_⟩) ?_
        rotate_left; focus (intro wS hSw; (try dsimp only at hSw); go_simp; (try with_reducible rfl))
        try simp only [Act.put, List.setIfInBounds_toArray, List.set_cons_zero, List.set_cons_succ, List.getElem_toArray, List.getElem_cons_zero, List.getElem_cons_succ]
        refine wpN_take (i := 4) (v := ?_) rfl (by kernel_rfl) (fun _ _ _ h => h) hS (Or.inl ⟨by rfl, ?_⟩) ?_
        rotate_left; focus (intro wS hSw; (try dsimp only at hSw); go_simp; (try with_reducible rfl))
        try simp only [Act.put, List.setIfInBounds_toArray, List.set_cons_zero, List.set_cons_succ, List.getElem_toArray, List.getElem_cons_zero, List.getElem_cons_succ]
        refine wpN_take (i := 5) (v := ?_) rfl (by kernel_rfl) (fun _ _ _ h => h) hS (Or.inl ⟨by rfl, ?_⟩) ?_
        rotate_left; focus (intro wS hSw; (try dsimp only at hSw); go_simp; (try with_reducible rfl))
        try simp only [Act.put, List.setIfInBounds_toArray, List.set_cons_zero, List.set_cons_succ, List.getElem_toArray, List.getElem_cons_zero, List.getElem_cons_succ]
        refine wpN_take (i := 6) (v := ?_) rfl (by kernel_rfl) (fun _ _ _ h => h) hS (Or.inl ⟨by rfl, ?_⟩) ?_
        rotate_left; focus (intro wS hSw; (try dsimp only at hSw); go_simp; (try with_reducible rfl))
        try simp only [Act.put, List.setIfInBounds_toArray, List.set_cons_zero, List.set_cons_succ, List.getElem_toArray, List.getElem_cons_zero, List.getElem_cons_succ]
        refine wpN_take (i := 7) (v := ?_) rfl (by kernel_rfl) (fun _ _ _ h => h) hS (Or.inl ⟨by rfl, ?_⟩) ?_
        rotate_left; focus (intro wS hSw; (try dsimp only at hSw); go_simp; (try with_reducible rfl))
        try simp only [Act.put, List.setIfInBounds_toArray, List.set_cons_zero, List.set_cons_succ, List.getElem_toArray, List.getElem_cons_zero, List.getElem_cons_succ]
        first
        | (refine wpN_pure (i := 8) (v := undef) rfl (by kernel_rfl) (fun _ _ _ h => h) (Or.inr ⟨by rfl, rfl⟩) ?_)
        | (refine wpN_pure (i := 8) (v := ?_) rfl (by kernel_rfl) (fun _ _ _ h => h) (Or.inl ⟨by rfl, ?_⟩) ?_
           rotate_left; focus (intro wS hSw; go_simp; (try with_reducible rfl)))
        try simp only [Act.put, List.setIfInBounds_toArray, List.set_cons_zero, List.set_cons_succ, List.getElem_toArray, List.getElem_cons_zero, List.getElem_cons_succ]
        first
        | (refine wpN_pure (i := 9) (v := undef) rfl (by kernel_rfl) (fun _ _ _ h => h) (Or.inr ⟨by rfl, rfl⟩) ?_)
        | (refine wpN_pure (i := 9) (v := ?_) rfl (by kernel_rfl) (fun _ _ _ h => h) (Or.inl ⟨by rfl, ?_⟩) ?_
           rotate_left; focus (intro wS hSw; go_simp; (try with_reducible rfl)))
        try simp only [Act.put, List.setIfInBounds_toArray, List.set_cons_zero, List.set_cons_succ, List.getElem_toArray, List.getElem_cons_zero, List.getElem_cons_succ]
        refine wpN_take (i := 10) (v := ?_) rfl (by kernel_rfl) (fun _ _ _ h => h) hS (Or.inl ⟨by rfl, ?_⟩) ?_
        rotate_left; focus (intro wS hSw; (try dsimp only at hSw); go_simp; (try with_reducible rfl))
        try simp only [Act.put, List.setIfInBounds_toArray, List.set_cons_zero, List.set_cons_succ, List.getElem_toArray, List.getElem_cons_zero, List.getElem_cons_succ]
        refine wpN_take (i := 11) (v := ?_) rfl (by kernel_rfl) (fun _ _ _ h => h) hS (Or.inl ⟨by rfl, ?_⟩) ?_
        rotate_left; focus (intro wS hSw; (try dsimp only at hSw); go_simp; (try with_reducible rfl))
        try simp only [Act.put, List.setIfInBounds_toArray, List.set_cons_zero, List.set_cons_succ, List.getElem_toArray, List.getElem_cons_zero, List.getElem_cons_succ]
        refine wpN_take (i := 12) (v := ?_) rfl (by kernel_rfl) (fun _ _ _ h => h) hS (Or.inl ⟨by rfl, ?_⟩) ?_
        rotate_left; focus (intro wS hSw; (try dsimp only at hSw); go_simp; (try with_reducible rfl))
        try simp only [Act.put, List.setIfInBounds_toArray, List.set_cons_zero, List.set_cons_succ, List.getElem_toArray, List.getElem_cons_zero, List.getElem_cons_succ]
        refine wpN_take (i := 13) (v := ?_) rfl (by kernel_rfl) (fun _ _ _ h => h) hS (Or.inl ⟨by rfl, ?_⟩) ?_
        rotate_left; focus (intro wS hSw; (try dsimp only at hSw); go_simp; (try with_reducible rfl))
        try simp only [Act.put, List.setIfInBounds_toArray, List.set_cons_zero, List.set_cons_succ, List.getElem_toArray, List.getElem_cons_zero, List.getElem_cons_succ]
        refine wpN_take (i := 14) (v := ?_) rfl (by kernel_rfl) (fun _ _ _ h => h) hS (Or.inl ⟨by rfl, ?_⟩) ?_
        rotate_left; focus (intro wS hSw; (try dsimp only at hSw); go_simp; (try with_reducible rfl))
        try simp only [Act.put, List.setIfInBounds_toArray, List.set_cons_zero, List.set_cons_succ, List.getElem_toArray, List.getElem_cons_zero, List.getElem_cons_succ]
        refine wpN_take (i := 15) (v := ?_) rfl (by kernel_rfl) (fun _ _ _ h => h) hS (Or.inl ⟨by rfl, ?_⟩) ?_
        rotate_left; focus (intro wS hSw; (try dsimp only at hSw); go_simp; (try with_reducible rfl))
        try simp only [Act.put, List.setIfInBounds_toArray, List.set_cons_zero, List.set_cons_succ, List.getElem_toArray, List.getElem_cons_zero, List.getElem_cons_succ]
        refine wpN_take (i := 16) (v := ?_) rfl (by kernel_rfl) (fun _ _ _ h => h) hS (Or.inl ⟨by rfl, ?_⟩) ?_
        rotate_left; focus (intro wS hSw; (try dsimp only at hSw); go_simp; (try with_reducible rfl))
        try simp only [Act.put, List.setIfInBounds_toArray, List.set_cons_zero, List.set_cons_succ, List.getElem_toArray, List.getElem_cons_zero, List.getElem_cons_succ]
        refine wpN_take (i := 17) (v := ?_) rfl (by kernel_rfl) (fun _ _ _ h => h) hS (Or.inl ⟨by rfl, ?_⟩) ?_
        rotate_left; focus (intro wS hSw; (try dsimp only at hSw); go_simp; (try with_reducible rfl))
        try simp only [Act.put, List.setIfInBounds_toArray, List.set_cons_zero, List.set_cons_succ, List.getElem_toArray, List.getElem_cons_zero, List.getElem_cons_succ]
        refine wpN_take (i := 18) (v := ?_) rfl (by kernel_rfl) (fun _ _ _ h => h) hS (Or.inl ⟨by rfl, ?_⟩) ?_
        rotate_left; focus (intro wS hSw; (try dsimp only at hSw); go_simp; (try with_reducible rfl))
        try simp only [Act.put, List.setIfInBounds_toArray, List.set_cons_zero, List.set_cons_succ, List.getElem_toArray, List.getElem_cons_zero, List.getElem_cons_succ]
        refine wpN_take (i := 19) (v := ?_) rfl (by kernel_rfl) (fun _ _ _ h => h) hS (Or.inl ⟨by rfl, ?_⟩) ?_
        rotate_left; focus (intro wS hSw; (try dsimp only at hSw); go_simp; (try with_reducible rfl))
        try simp only [Act.put, List.setIfInBounds_toArray, List.set_cons_zero, List.set_cons_succ, List.getElem_toArray, List.getElem_cons_zero, List.getElem_cons_succ]
        refine wpN_take (i := 20) (v := ?_) rfl (by kernel_rfl) (fun _ _ _ h => h) hS (Or.inl ⟨by rfl, ?_⟩) ?_
        rotate_left; focus (intro wS hSw; (try dsimp only at hSw); go_simp; (try with_reducible rfl))
        try simp only [Act.put, List.setIfInBounds_toArray, List.set_cons_zero, List.set_cons_succ, List.getElem_toArray, List.getElem_cons_zero, List.getElem_cons_succ]
        refine wpN_take (i := 21) (v := ?_) rfl (by kernel_rfl) (fun _ _ _ h => h) hS (Or.inl ⟨by rfl, ?_⟩) ?_
        rotate_left; focus (intro wS hSw; (try dsimp only at hSw); go_simp; (try with_reducible rfl))
        try simp only [Act.put, List.setIfInBounds_toArray, List.set_cons_zero, List.set_cons_succ, List.getElem_toArray, List.getElem_cons_zero, List.getElem_cons_succ]
        refine wpN_take (i := 22) (v := ?_) rfl (by kernel_rfl) (fun _ _ _ h => h) hS (Or.inl ⟨by rfl, ?_⟩) ?_
        rotate_left; focus (intro wS hSw; (try dsimp only at hSw); go_simp; (try with_reducible rfl))
        try simp only [Act.put, List.setIfInBounds_toArray, List.set_cons_zero, List.set_cons_succ, List.getElem_toArray, List.getElem_cons_zero, List.getElem_cons_succ]
        refine wpN_take (i := 23) (v := ?_) rfl (by kernel_rfl) (fun _ _ _ h => h) hS (Or.inl ⟨by rfl, ?_⟩) ?_
        rotate_left; focus (intro wS hSw; (try dsimp only at hSw); go_simp; (try with_reducible rfl))
        try simp only [Act.put, List.setIfInBounds_toArray, List.set_cons_zero, List.set_cons_succ, List.getElem_toArray, List.getElem_cons_zero, List.getElem_cons_succ]
        refine wpN_take (i := 24) (v := ?_) rfl (by kernel_rfl) (fun _ _ _ h => h) hS (Or.inl ⟨by rfl, ?_⟩) ?_
        rotate_left; focus (intro wS hSw; (try dsimp only at hSw); go_simp; (try with_reducible rfl))
        try simp only [Act.put, List.setIfInBounds_toArray, List.set_cons_zero, List.set_cons_succ, List.getElem_toArray, List.getElem_cons_zero, List.getElem_cons_succ]
        refine wpN_take (i := 25) (v := ?_) rfl (by kernel_rfl) (fun _ _ _ h => h) hS (Or.inl ⟨by rfl, ?_⟩) ?_
        rotate_left; focus (intro wS hSw; (try dsimp only at hSw); go_simp; (try with_reducible rfl))
        try simp only [Act.put, List.setIfInBounds_toArray, List.set_cons_zero, List.set_cons_succ, List.getElem_toArray, List.getElem_cons_zero, List.getElem_cons_succ]
        refine wpN_take (i := 26) (v := ?_) rfl (by kernel_rfl) (fun _ _ _ h => h) hS (Or.inl ⟨by rfl, ?_⟩) ?_
        rotate_left; focus (intro wS hSw; (try dsimp only at hSw); go_simp; (try with_reducible rfl))
        try simp only [Act.put, List.setIfInBounds_toArray, List.set_cons_zero, List.set_cons_succ, List.getElem_toArray, List.getElem_cons_zero, List.getElem_cons_succ]
        refine wpN_take (i := 27) (v := ?_) rfl (by kernel_rfl) (fun _ _ _ h => h) hS (Or.inl ⟨by rfl, ?_⟩) ?_
        rotate_left; focus (intro wS hSw; (try dsimp only at hSw); go_simp; (try with_reducible rfl))
        try simp only [Act.put, List.setIfInBounds_toArray, List.set_cons_zero, List.set_cons_succ, List.getElem_toArray, List.getElem_cons_zero, List.getElem_cons_succ]
        refine wpN_take (i := 29) (v := ?_) rfl (by kernel_rfl) (fun _ _ _ h => h) hS (Or.inl ⟨by rfl, ?_⟩) ?_
        rotate_left; focus (intro wS hSw; (try dsimp only at hSw); go_simp; (try with_reducible rfl))
        try simp only [Act.put, List.setIfInBounds_toArray, List.set_cons_zero, List.set_cons_succ, List.getElem_toArray, List.getElem_cons_zero, List.getElem_cons_succ]
        refine wpN_step (i := 28) (by kernel_rfl) rfl (fun K hK => ?_)
        go_simp
        refine (of_any e1_v7.out v7.drew (by have := Hs1.out.1; omega) (Keep.refl _ _).drew).mono ?_
        rintro e g1 ⟨so, do', rfl, hT, hbx0⟩
        have hbx : Below v7.heap.size v7 g1 := (Below.refl _ _).drew.trans hbx0
        clear hbx0
        have x0_g1 := x0_v7.below hbx
        have x1_g1 := x1_v7.below hbx
        have x2_g1 := x2_v7.below hbx
        have yp_g1 := yp_v7.below hbx
        have yq_g1 := yq_v7.below hbx
        have ye1_g1 := ye1_v7.below hbx
        have ye2_g1 := ye2_v7.below hbx
        have ye3_g1 := ye3_v7.below hbx
        have ye4_g1 := ye4_v7.below hbx
        have T_g1 := Lib.hid (T_v7.out.bel hbx)
        have U_g1 := Lib.hid (U_v7.out.bel hbx)
        have x_g1 := Lib.hid (x_v7.out.bel hbx)
        have e1_g1 := Lib.hid (e1_v7.out.bel hbx)
        have e2_g1 := Lib.hid (e2_v7.out.bel hbx)
        have e3_g1 := Lib.hid (e3_v7.out.bel hbx)
        have e4_g1 := Lib.hid (e4_v7.out.bel hbx)
        have C_g1 := Lib.hid (C_v7.out.bel hbx)
        have M_g1 := Lib.hid (M_v7.out.bel hbx)
        have X_g1 := Lib.hid (X_v7.out.bel hbx)
        have VC_g1 := Lib.hid (VC_v7.out.bel hbx)
        have VM_g1 := Lib.hid (VM_v7.out.bel hbx)
        have c_g1 := Lib.hid (c_v7.out.bel hbx)
        have B_g1 := B_v7.trans (hbx.mono B_v7.size)
        clear x0_v7 x1_v7 x2_v7 yp_v7 yq_v7 ye1_v7 ye2_v7 ye3_v7 ye4_v7 T_v7 U_v7 x_v7 e1_v7 e2_v7 e3_v7 e4_v7 C_v7 M_v7 X_v7 VC_v7 VM_v7 c_v7 B_v7 hbx
        have hS : (g1).cell? ⟨e1p, 0, none⟩ = some (.slice e1_a z1_n e1_c) ∧ (g1).cell? ⟨e1p, 1, none⟩ = some (.int .i64 z1_d) ∧ (g1).cell? ⟨e2p, 0, none⟩ = some (.slice e2_a z1_n e2_c) ∧ (g1).cell? ⟨e2p, 1, none⟩ = some (.int .i64 z1_d) ∧ (g1).cell? ⟨e3p, 0, none⟩ = some (.slice e3_a z2_n e3_c) ∧ (g1).cell? ⟨e3p, 1, none⟩ = some (.int .i64 z2_d) ∧ (g1).cell? ⟨e4p, 0, none⟩ = some (.slice e4_a z2_n e4_c) ∧ (g1).cell? ⟨e4p, 1, none⟩ = some (.int .i64 z2_d) := ⟨ye1_g1.cell rfl, ye1_g1.cell rfl, ye2_g1.cell rfl, ye2_g1.cell rfl, ye3_g1.cell rfl, ye3_g1.cell rfl, ye4_g1.cell rfl, ye4_g1.cell rfl⟩
        refine hK.out _ _ (fun _ => hS) ?_
        clear hK K
        try simp only [Act.put, List.setIfInBounds_toArray, List.set_cons_zero, List.set_cons_succ, List.getElem_toArray, List.getElem_cons_zero, List.getElem_cons_succ]
        have O_g1 := Lib.hid hT.trueb; clear hT
        refine wpN_step (i := 30) (by kernel_rfl) rfl (fun K hK => ?_)
        go_simp
        refine (same_r O_g1.out e2_g1.out g1 (Keep.refl _ _) (Keep.refl _ _)).mono ?_
        intro e g2 h
        obtain ⟨r1, Hr1, rfl, hbx0⟩ := of_retB' h
        clear h
        have hbx : Below g1.heap.size g1 g2 := hbx0
        clear hbx0
        have x0_g2 := x0_g1.below hbx
        have x1_g2 := x1_g1.below hbx
        have x2_g2 := x2_g1.below hbx
        have yp_g2 := yp_g1.below hbx
        have yq_g2 := yq_g1.below hbx
        have ye1_g2 := ye1_g1.below hbx
        have ye2_g2 := ye2_g1.below hbx
        have ye3_g2 := ye3_g1.below hbx
        have ye4_g2 := ye4_g1.below hbx
        have T_g2 := Lib.hid (T_g1.out.bel hbx)
        have U_g2 := Lib.hid (U_g1.out.bel hbx)
        have x_g2 := Lib.hid (x_g1.out.bel hbx)
        have e1_g2 := Lib.hid (e1_g1.out.bel hbx)
        have e2_g2 := Lib.hid (e2_g1.out.bel hbx)
        have e3_g2 := Lib.hid (e3_g1.out.bel hbx)
        have e4_g2 := Lib.hid (e4_g1.out.bel hbx)
        have C_g2 := Lib.hid (C_g1.out.bel hbx)
        have M_g2 := Lib.hid (M_g1.out.bel hbx)
        have X_g2 := Lib.hid (X_g1.out.bel hbx)
        have VC_g2 := Lib.hid (VC_g1.out.bel hbx)
        have VM_g2 := Lib.hid (VM_g1.out.bel hbx)
        have c_g2 := Lib.hid (c_g1.out.bel hbx)
        have O_g2 := Lib.hid (O_g1.out.bel hbx)
        have B_g2 := B_g1.trans (hbx.mono B_g1.size)
        clear x0_g1 x1_g1 x2_g1 yp_g1 yq_g1 ye1_g1 ye2_g1 ye3_g1 ye4_g1 T_g1 U_g1 x_g1 e1_g1 e2_g1 e3_g1 e4_g1 C_g1 M_g1 X_g1 VC_g1 VM_g1 c_g1 O_g1 B_g1 hbx
        have hS : (g2).cell? ⟨e1p, 0, none⟩ = some (.slice e1_a z1_n e1_c) ∧ (g2).cell? ⟨e1p, 1, none⟩ = some (.int .i64 z1_d) ∧ (g2).cell? ⟨e2p, 0, none⟩ = some (.slice e2_a z1_n e2_c) ∧ (g2).cell? ⟨e2p, 1, none⟩ = some (.int .i64 z1_d) ∧ (g2).cell? ⟨e3p, 0, none⟩ = some (.slice e3_a z2_n e3_c) ∧ (g2).cell? ⟨e3p, 1, none⟩ = some (.int .i64 z2_d) ∧ (g2).cell? ⟨e4p, 0, none⟩ = some (.slice e4_a z2_n e4_c) ∧ (g2).cell? ⟨e4p, 1, none⟩ = some (.int .i64 z2_d) := ⟨ye1_g2.cell rfl, ye1_g2.cell rfl, ye2_g2.cell rfl, ye2_g2.cell rfl, ye3_g2.cell rfl, ye3_g2.cell rfl, ye4_g2.cell rfl, ye4_g2.cell rfl⟩
        refine hK.out _ _ (fun _ => hS) ?_
        clear hK K
        try simp only [Act.put, List.setIfInBounds_toArray, List.set_cons_zero, List.set_cons_succ, List.getElem_toArray, List.getElem_cons_zero, List.getElem_cons_succ]
        clear O_g2 e1_g2 e2_g2
        obtain rfl : r1 = true := Hr1.out.2 rfl
        clear Hr1
        refine wpN_take (i := 31) (v := ?_) rfl (by kernel_rfl) (fun _ _ _ h => h) hS (Or.inl ⟨by rfl, ?_⟩) ?_
        rotate_left; focus (intro wS hSw; (try dsimp only at hSw); go_simp; (try with_reducible rfl))
        try simp only [Act.put, List.setIfInBounds_toArray, List.set_cons_zero, List.set_cons_succ, List.getElem_toArray, List.getElem_cons_zero, List.getElem_cons_succ]
        refine wpN_take (i := 32) (v := ?_) rfl (by kernel_rfl) (fun _ _ _ h => h) hS (Or.inl ⟨by rfl, ?_⟩) ?_
        rotate_left; focus (intro wS hSw; (try dsimp only at hSw); go_simp; (try with_reducible rfl))
        try simp only [Act.put, List.setIfInBounds_toArray, List.set_cons_zero, List.set_cons_succ, List.getElem_toArray, List.getElem_cons_zero, List.getElem_cons_succ]
        refine wpN_take (i := 33) (v := ?_) rfl (by kernel_rfl) (fun _ _ _ h => h) hS (Or.inl ⟨by rfl, ?_⟩) ?_
        rotate_left; focus (intro wS hSw; (try dsimp only at hSw); go_simp; (try with_reducible rfl))
        try simp only [Act.put, List.setIfInBounds_toArray, List.set_cons_zero, List.set_cons_succ, List.getElem_toArray, List.getElem_cons_zero, List.getElem_cons_succ]
        refine wpN_take (i := 34) (v := ?_) rfl (by kernel_rfl) (fun _ _ _ h => h) hS (Or.inl ⟨by rfl, ?_⟩) ?_
        rotate_left; focus (intro wS hSw; (try dsimp only at hSw); go_simp; (try with_reducible rfl))
        try simp only [Act.put, List.setIfInBounds_toArray, List.set_cons_zero, List.set_cons_succ, List.getElem_toArray, List.getElem_cons_zero, List.getElem_cons_succ]
        refine wpN_take (i := 36) (v := ?_) rfl (by kernel_rfl) (fun _ _ _ h => h) hS (Or.inl ⟨by rfl, ?_⟩) ?_
        rotate_left; focus (intro wS hSw; (try dsimp only at hSw); go_simp; (try with_reducible rfl))
        try simp only [Act.put, List.setIfInBounds_toArray, List.set_cons_zero, List.set_cons_succ, List.getElem_toArray, List.getElem_cons_zero, List.getElem_cons_succ]
        refine wpN_step (i := 35) (by kernel_rfl) rfl (fun K hK => ?_)
        go_simp
        refine (of_any e3_g2.out g2 (by have := Hs2.out; omega) (Keep.refl _ _)).mono ?_
        rintro e g3 ⟨so, do', rfl, hT, hbx0⟩
        have hbx : Below g2.heap.size g2 g3 := hbx0
        clear hbx0
        have x0_g3 := x0_g2.below hbx
        have x1_g3 := x1_g2.below hbx
        have x2_g3 := x2_g2.below hbx
        have yp_g3 := yp_g2.below hbx
        have yq_g3 := yq_g2.below hbx
        have ye1_g3 := ye1_g2.below hbx
        have ye2_g3 := ye2_g2.below hbx
        have ye3_g3 := ye3_g2.below hbx
        have ye4_g3 := ye4_g2.below hbx
        have T_g3 := Lib.hid (T_g2.out.bel hbx)
        have U_g3 := Lib.hid (U_g2.out.bel hbx)
        have x_g3 := Lib.hid (x_g2.out.bel hbx)
        have e3_g3 := Lib.hid (e3_g2.out.bel hbx)
        have e4_g3 := Lib.hid (e4_g2.out.bel hbx)
        have C_g3 := Lib.hid (C_g2.out.bel hbx)
        have M_g3 := Lib.hid (M_g2.out.bel hbx)
        have X_g3 := Lib.hid (X_g2.out.bel hbx)
        have VC_g3 := Lib.hid (VC_g2.out.bel hbx)
        have VM_g3 := Lib.hid (VM_g2.out.bel hbx)
        have c_g3 := Lib.hid (c_g2.out.bel hbx)
        have B_g3 := B_g2.trans (hbx.mono B_g2.size)
        clear x0_g2 x1_g2 x2_g2 yp_g2 yq_g2 ye1_g2 ye2_g2 ye3_g2 ye4_g2 T_g2 U_g2 x_g2 e3_g2 e4_g2 C_g2 M_g2 X_g2 VC_g2 VM_g2 c_g2 B_g2 hbx
        have hS : (g3).cell? ⟨e1p, 0, none⟩ = some (.slice e1_a z1_n e1_c) ∧ (g3).cell? ⟨e1p, 1, none⟩ = some (.int .i64 z1_d) ∧ (g3).cell? ⟨e2p, 0, none⟩ = some (.slice e2_a z1_n e2_c) ∧ (g3).cell? ⟨e2p, 1, none⟩ = some (.int .i64 z1_d) ∧ (g3).cell? ⟨e3p, 0, none⟩ = some (.slice e3_a z2_n e3_c) ∧ (g3).cell? ⟨e3p, 1, none⟩ = some (.int .i64 z2_d) ∧ (g3).cell? ⟨e4p, 0, none⟩ = some (.slice e4_a z2_n e4_c) ∧ (g3).cell? ⟨e4p, 1, none⟩ = some (.int .i64 z2_d) := ⟨ye1_g3.cell rfl, ye1_g3.cell rfl, ye2_g3.cell rfl, ye2_g3.cell rfl, ye3_g3.cell rfl, ye3_g3.cell rfl, ye4_g3.cell rfl, ye4_g3.cell rfl⟩
        refine hK.out _ _ (fun _ => hS) ?_
        clear hK K
        try simp only [Act.put, List.setIfInBounds_toArray, List.set_cons_zero, List.set_cons_succ, List.getElem_toArray, List.getElem_cons_zero, List.getElem_cons_succ]
        have O_g3 := Lib.hid hT.trueb; clear hT
        refine wpN_step (i := 37) (by kernel_rfl) rfl (fun K hK => ?_)
        go_simp
        refine (same_r O_g3.out e4_g3.out g3 (Keep.refl _ _) (Keep.refl _ _)).mono ?_
        intro e g4 h
        obtain ⟨r1, Hr1, rfl, hbx0⟩ := of_retB' h
        clear h
        have hbx : Below g3.heap.size g3 g4 := hbx0
        clear hbx0
        have x0_g4 := x0_g3.below hbx
        have x1_g4 := x1_g3.below hbx
        have x2_g4 := x2_g3.below hbx
        have yp_g4 := yp_g3.below hbx
        have yq_g4 := yq_g3.below hbx
        have ye1_g4 := ye1_g3.below hbx
        have ye2_g4 := ye2_g3.below hbx
        have ye3_g4 := ye3_g3.below hbx
        have ye4_g4 := ye4_g3.below hbx
        have T_g4 := Lib.hid (T_g3.out.bel hbx)
        have U_g4 := Lib.hid (U_g3.out.bel hbx)
        have x_g4 := Lib.hid (x_g3.out.bel hbx)
        have e3_g4 := Lib.hid (e3_g3.out.bel hbx)
        have e4_g4 := Lib.hid (e4_g3.out.bel hbx)
        have C_g4 := Lib.hid (C_g3.out.bel hbx)
        have M_g4 := Lib.hid (M_g3.out.bel hbx)
        have X_g4 := Lib.hid (X_g3.out.bel hbx)
        have VC_g4 := Lib.hid (VC_g3.out.bel hbx)
        have VM_g4 := Lib.hid (VM_g3.out.bel hbx)
        have c_g4 := Lib.hid (c_g3.out.bel hbx)
        have O_g4 := Lib.hid (O_g3.out.bel hbx)
        have B_g4 := B_g3.trans (hbx.mono B_g3.size)
        clear x0_g3 x1_g3 x2_g3 yp_g3 yq_g3 ye1_g3 ye2_g3 ye3_g3 ye4_g3 T_g3 U_g3 x_g3 e3_g3 e4_g3 C_g3 M_g3 X_g3 VC_g3 VM_g3 c_g3 O_g3 B_g3 hbx
        have hS : (g4).cell? ⟨e1p, 0, none⟩ = some (.slice e1_a z1_n e1_c) ∧ (g4).cell? ⟨e1p, 1, none⟩ = some (.int .i64 z1_d) ∧ (g4).cell? ⟨e2p, 0, none⟩ = some (.slice e2_a z1_n e2_c) ∧ (g4).cell? ⟨e2p, 1, none⟩ = some (.int .i64 z1_d) ∧ (g4).cell? ⟨e3p, 0, none⟩ = some (.slice e3_a z2_n e3_c) ∧ (g4).cell? ⟨e3p, 1, none⟩ = some (.int .i64 z2_d) ∧ (g4).cell? ⟨e4p, 0, none⟩ = some (.slice e4_a z2_n e4_c) ∧ (g4).cell? ⟨e4p, 1, none⟩ = some (.int .i64 z2_d) := ⟨ye1_g4.cell rfl, ye1_g4.cell rfl, ye2_g4.cell rfl, ye2_g4.cell rfl, ye3_g4.cell rfl, ye3_g4.cell rfl, ye4_g4.cell rfl, ye4_g4.cell rfl⟩
        refine hK.out _ _ (fun _ => hS) ?_
        clear hK K
        try simp only [Act.put, List.setIfInBounds_toArray, List.set_cons_zero, List.set_cons_succ, List.getElem_toArray, List.getElem_cons_zero, List.getElem_cons_succ]
        clear O_g4 e3_g4
        obtain rfl : r1 = true := Hr1.out.2 rfl
        clear Hr1
        refine wpN_take (i := 38) (v := ?_) rfl (by kernel_rfl) (fun _ _ _ h => h) hS (Or.inl ⟨by rfl, ?_⟩) ?_
        rotate_left; focus (intro wS hSw; (try dsimp only at hSw); go_simp; (try with_reducible rfl))
        try simp only [Act.put, List.setIfInBounds_toArray, List.set_cons_zero, List.set_cons_succ, List.getElem_toArray, List.getElem_cons_zero, List.getElem_cons_succ]
        refine wpN_take (i := 39) (v := ?_) rfl (by kernel_rfl) (fun _ _ _ h => h) hS (Or.inl ⟨by rfl, ?_⟩) ?_
        rotate_left; focus (intro wS hSw; (try dsimp only at hSw); go_simp; (try with_reducible rfl))
        try simp only [Act.put, List.setIfInBounds_toArray, List.set_cons_zero, List.set_cons_succ, List.getElem_toArray, List.getElem_cons_zero, List.getElem_cons_succ]
        refine wpN_done (by kernel_rfl) ?_
        refine NoPanic.normal ?_
        clear hS
        clear ye1_g4 ye2_g4 ye3_g4
        go_wp2_with fail
        refine wp_region_noPanic (wp_region_need (S := fun w' => w'.cell? ⟨w.heap.size, 0, none⟩ = some (.int .i64 b) ∧ w'.cell? ⟨w.heap.size, 1, none⟩ = some (.slice ca C.length cc) ∧ w'.cell? ⟨w.heap.size, 2, none⟩ = some (.slice ma M.length mc) ∧ w'.cell? ⟨w.heap.size + 1, 0, none⟩ = some (.slice t_pa t_n t_pc) ∧ w'.cell? ⟨w.heap.size + 1, 1, none⟩ = some (.int .i64 t_k) ∧ w'.cell? ⟨w.heap.size + 1, 2, none⟩ = some (.int .i64 t_i) ∧ w'.cell? ⟨w.heap.size + 1, 3, none⟩ = some (.slice t_qa t_m t_qc) ∧ w'.cell? ⟨w.heap.size + 1 + 1, 0, none⟩ = some (.slice ua u_n uc) ∧ w'.cell? ⟨w.heap.size + 1 + 1, 1, none⟩ = some (.int .i64 u_d) ∧ w'.cell? ⟨p, 0, none⟩ = some (.int .i64 b) ∧ w'.cell? ⟨p, 1, none⟩ = some (.slice V_ca C.length V_cc) ∧ w'.cell? ⟨p, 2, none⟩ = some (.slice V_ma M.length V_mc) ∧ w'.cell? ⟨q, 0, none⟩ = some (.slice x_pa t_n x_pc) ∧ w'.cell? ⟨q, 1, none⟩ = some (.int .i64 t_k) ∧ w'.cell? ⟨q, 2, none⟩ = some (.int .i64 t_i) ∧ w'.cell? ⟨q, 3, none⟩ = some (.slice x_qa t_m x_qc) ∧ w'.cell? ⟨e4p, 0, none⟩ = some (.slice e4_a z2_n e4_c) ∧ w'.cell? ⟨e4p, 1, none⟩ = some (.int .i64 z2_d)) (by kernel_rfl) ?_)
        have hS : (g4.drew).cell? ⟨w.heap.size, 0, none⟩ = some (.int .i64 b) ∧ (g4.drew).cell? ⟨w.heap.size, 1, none⟩ = some (.slice ca C.length cc) ∧ (g4.drew).cell? ⟨w.heap.size, 2, none⟩ = some (.slice ma M.length mc) ∧ (g4.drew).cell? ⟨w.heap.size + 1, 0, none⟩ = some (.slice t_pa t_n t_pc) ∧ (g4.drew).cell? ⟨w.heap.size + 1, 1, none⟩ = some (.int .i64 t_k) ∧ (g4.drew).cell? ⟨w.heap.size + 1, 2, none⟩ = some (.int .i64 t_i) ∧ (g4.drew).cell? ⟨w.heap.size + 1, 3, none⟩ = some (.slice t_qa t_m t_qc) ∧ (g4.drew).cell? ⟨w.heap.size + 1 + 1, 0, none⟩ = some (.slice ua u_n uc) ∧ (g4.drew).cell? ⟨w.heap.size + 1 + 1, 1, none⟩ = some (.int .i64 u_d) ∧ (g4.drew).cell? ⟨p, 0, none⟩ = some (.int .i64 b) ∧ (g4.drew).cell? ⟨p, 1, none⟩ = some (.slice V_ca C.length V_cc) ∧ (g4.drew).cell? ⟨p, 2, none⟩ = some (.slice V_ma M.length V_mc) ∧ (g4.drew).cell? ⟨q, 0, none⟩ = some (.slice x_pa t_n x_pc) ∧ (g4.drew).cell? ⟨q, 1, none⟩ = some (.int .i64 t_k) ∧ (g4.drew).cell? ⟨q, 2, none⟩ = some (.int .i64 t_i) ∧ (g4.drew).cell? ⟨q, 3, none⟩ = some (.slice x_qa t_m x_qc) ∧ (g4.drew).cell? ⟨e4p, 0, none⟩ = some (.slice e4_a z2_n e4_c) ∧ (g4.drew).cell? ⟨e4p, 1, none⟩ = some (.int .i64 z2_d) := ⟨x0_g4.drew.cell rfl, x0_g4.drew.cell rfl, x0_g4.drew.cell rfl, x1_g4.drew.cell rfl, x1_g4.drew.cell rfl, x1_g4.drew.cell rfl, x1_g4.drew.cell rfl, x2_g4.drew.cell rfl, x2_g4.drew.cell rfl, yp_g4.drew.cell rfl, yp_g4.drew.cell rfl, yp_g4.drew.cell rfl, yq_g4.drew.cell rfl, yq_g4.drew.cell rfl, yq_g4.drew.cell rfl, yq_g4.drew.cell rfl, ye4_g4.drew.cell rfl, ye4_g4.drew.cell rfl⟩
        refine wpN_take (i := 0) (v := ?_) rfl (by kernel_rfl) (fun _ _ _ h => h) hS (Or.inl ⟨by rfl, ?_⟩) ?_
        rotate_left; focus (intro wS hSw; (try dsimp only at hSw); go_simp; (try with_reducible rfl))
        try simp only [Act.put, List.setIfInBounds_toArray, List.set_cons_zero, List.set_cons_succ, List.getElem_toArray, List.getElem_cons_zero, List.getElem_cons_succ]
        refine wpN_take (i := 1) (v := ?_) rfl (by kernel_rfl) (fun _ _ _ h => h) hS (Or.inl ⟨by rfl, ?_⟩) ?_
        rotate_left; focus (intro wS hSw; (try dsimp only at hSw); go_simp; (try with_reducible rfl))
        try simp only [Act.put, List.setIfInBounds_toArray, List.set_cons_zero, List.set_cons_succ, List.getElem_toArray, List.getElem_cons_zero, List.getElem_cons_succ]
        refine wpN_take (i := 2) (v := ?_) rfl (by kernel_rfl) (fun _ _ _ h => h) hS (Or.inl ⟨by rfl, ?_⟩) ?_
        rotate_left; focus (intro wS hSw; (try dsimp only at hSw); go_simp; (try with_reducible rfl))
        try simp only [Act.put, List.setIfInBounds_toArray, List.set_cons_zero, List.set_cons_succ, List.getElem_toArray, List.getElem_cons_zero, List.getElem_cons_succ]
        refine wpN_take (i := 3) (v := ?_) rfl (by kernel_rfl) (fun _ _ _ h => h) hS (Or.inl ⟨by rfl, ?_⟩) ?_
        rotate_left; focus (intro wS hSw; (try dsimp only at hSw); go_simp; (try with_reducible rfl))
        try simp only [Act.put, List.setIfInBounds_toArray, List.set_cons_zero, List.set_cons_succ, List.getElem_toArray, List.getElem_cons_zero, List.getElem_cons_succ]
        refine wpN_take (i := 6) (v := ?_) rfl (by kernel_rfl) (fun _ _ _ h => h) hS (Or.inl ⟨by rfl, ?_⟩) ?_
        rotate_left; focus (intro wS hSw; (try dsimp only at hSw); go_simp; (try with_reducible rfl))
        try simp only [Act.put, List.setIfInBounds_toArray, List.set_cons_zero, List.set_cons_succ, List.getElem_toArray, List.getElem_cons_zero, List.getElem_cons_succ]
        refine wpN_take (i := 7) (v := ?_) rfl (by kernel_rfl) (fun _ _ _ h => h) hS (Or.inl ⟨by rfl, ?_⟩) ?_
        rotate_left; focus (intro wS hSw; (try dsimp only at hSw); go_simp; (try with_reducible rfl))
        try simp only [Act.put, List.setIfInBounds_toArray, List.set_cons_zero, List.set_cons_succ, List.getElem_toArray, List.getElem_cons_zero, List.getElem_cons_succ]
        refine wpN_take (i := 8) (v := ?_) rfl (by kernel_rfl) (fun _ _ _ h => h) hS (Or.inl ⟨by rfl, ?_⟩) ?_
        rotate_left; focus (intro wS hSw; (try dsimp only at hSw); go_simp; (try with_reducible rfl))
        try simp only [Act.put, List.setIfInBounds_toArray, List.set_cons_zero, List.set_cons_succ, List.getElem_toArray, List.getElem_cons_zero, List.getElem_cons_succ]
        refine wpN_take (i := 9) (v := ?_) rfl (by kernel_rfl) (fun _ _ _ h => h) hS (Or.inl ⟨by rfl, ?_⟩) ?_
        rotate_left; focus (intro wS hSw; (try dsimp only at hSw); go_simp; (try with_reducible rfl))
        try simp only [Act.put, List.setIfInBounds_toArray, List.set_cons_zero, List.set_cons_succ, List.getElem_toArray, List.getElem_cons_zero, List.getElem_cons_succ]
        refine wpN_step (i := 4) (by kernel_rfl) rfl (fun K hK => ?_)
        go_simp
        refine (to_any U_g4.out g4.drew (by have := Hus.out.1; omega) (Keep.refl _ _).drew).mono ?_
        rintro e h1 ⟨so, do', rfl, hT, hbx0⟩
        have hbx : Below g4.heap.size g4 h1 := (Below.refl _ _).drew.trans hbx0
        clear hbx0
        have x0_h1 := x0_g4.below hbx
        have x1_h1 := x1_g4.below hbx
        have x2_h1 := x2_g4.below hbx
        have yp_h1 := yp_g4.below hbx
        have yq_h1 := yq_g4.below hbx
        have ye4_h1 := ye4_g4.below hbx
        have T_h1 := Lib.hid (T_g4.out.bel hbx)
        have U_h1 := Lib.hid (U_g4.out.bel hbx)
        have x_h1 := Lib.hid (x_g4.out.bel hbx)
        have e4_h1 := Lib.hid (e4_g4.out.bel hbx)
        have C_h1 := Lib.hid (C_g4.out.bel hbx)
        have M_h1 := Lib.hid (M_g4.out.bel hbx)
        have X_h1 := Lib.hid (X_g4.out.bel hbx)
        have VC_h1 := Lib.hid (VC_g4.out.bel hbx)
        have VM_h1 := Lib.hid (VM_g4.out.bel hbx)
        have c_h1 := Lib.hid (c_g4.out.bel hbx)
        have B_h1 := B_g4.trans (hbx.mono B_g4.size)
        clear x0_g4 x1_g4 x2_g4 yp_g4 yq_g4 ye4_g4 T_g4 U_g4 x_g4 e4_g4 C_g4 M_g4 X_g4 VC_g4 VM_g4 c_g4 B_g4 hbx
        have hS : (h1).cell? ⟨w.heap.size, 0, none⟩ = some (.int .i64 b) ∧ (h1).cell? ⟨w.heap.size, 1, none⟩ = some (.slice ca C.length cc) ∧ (h1).cell? ⟨w.heap.size, 2, none⟩ = some (.slice ma M.length mc) ∧ (h1).cell? ⟨w.heap.size + 1, 0, none⟩ = some (.slice t_pa t_n t_pc) ∧ (h1).cell? ⟨w.heap.size + 1, 1, none⟩ = some (.int .i64 t_k) ∧ (h1).cell? ⟨w.heap.size + 1, 2, none⟩ = some (.int .i64 t_i) ∧ (h1).cell? ⟨w.heap.size + 1, 3, none⟩ = some (.slice t_qa t_m t_qc) ∧ (h1).cell? ⟨w.heap.size + 1 + 1, 0, none⟩ = some (.slice ua u_n uc) ∧ (h1).cell? ⟨w.heap.size + 1 + 1, 1, none⟩ = some (.int .i64 u_d) ∧ (h1).cell? ⟨p, 0, none⟩ = some (.int .i64 b) ∧ (h1).cell? ⟨p, 1, none⟩ = some (.slice V_ca C.length V_cc) ∧ (h1).cell? ⟨p, 2, none⟩ = some (.slice V_ma M.length V_mc) ∧ (h1).cell? ⟨q, 0, none⟩ = some (.slice x_pa t_n x_pc) ∧ (h1).cell? ⟨q, 1, none⟩ = some (.int .i64 t_k) ∧ (h1).cell? ⟨q, 2, none⟩ = some (.int .i64 t_i) ∧ (h1).cell? ⟨q, 3, none⟩ = some (.slice x_qa t_m x_qc) ∧ (h1).cell? ⟨e4p, 0, none⟩ = some (.slice e4_a z2_n e4_c) ∧ (h1).cell? ⟨e4p, 1, none⟩ = some (.int .i64 z2_d) := ⟨x0_h1.cell rfl, x0_h1.cell rfl, x0_h1.cell rfl, x1_h1.cell rfl, x1_h1.cell rfl, x1_h1.cell rfl, x1_h1.cell rfl, x2_h1.cell rfl, x2_h1.cell rfl, yp_h1.cell rfl, yp_h1.cell rfl, yp_h1.cell rfl, yq_h1.cell rfl, yq_h1.cell rfl, yq_h1.cell rfl, yq_h1.cell rfl, ye4_h1.cell rfl, ye4_h1.cell rfl⟩
        refine hK.out _ _ (fun _ => hS) ?_
        clear hK K
        try simp only [Act.put, List.setIfInBounds_toArray, List.set_cons_zero, List.set_cons_succ, List.getElem_toArray, List.getElem_cons_zero, List.getElem_cons_succ]
        have O_h1 := Lib.hid hT.trueb; clear hT
        refine wpN_step (i := 5) (by kernel_rfl) rfl (fun K hK => ?_)
        go_simp
        refine (Check_kT VC_h1.out VM_h1.out c_h1.out x_h1.out O_h1.out (by have := Hf.out.1; have := Hs.out.2.2.1; omega) Hfit.out).mono ?_
        rintro e h2 ⟨cA, HcA, rfl, hbx0⟩
        have hbx : Below h1.heap.size h1 h2 := hbx0
        clear hbx0
        have x0_h2 := x0_h1.below hbx
        have x1_h2 := x1_h1.below hbx
        have x2_h2 := x2_h1.below hbx
        have yp_h2 := yp_h1.below hbx
        have yq_h2 := yq_h1.below hbx
        have ye4_h2 := ye4_h1.below hbx
        have T_h2 := Lib.hid (T_h1.out.bel hbx)
        have U_h2 := Lib.hid (U_h1.out.bel hbx)
        have x_h2 := Lib.hid (x_h1.out.bel hbx)
        have e4_h2 := Lib.hid (e4_h1.out.bel hbx)
        have C_h2 := Lib.hid (C_h1.out.bel hbx)
        have M_h2 := Lib.hid (M_h1.out.bel hbx)
        have X_h2 := Lib.hid (X_h1.out.bel hbx)
        have VC_h2 := Lib.hid (VC_h1.out.bel hbx)
        have VM_h2 := Lib.hid (VM_h1.out.bel hbx)
        have c_h2 := Lib.hid (c_h1.out.bel hbx)
        have O_h2 := Lib.hid (O_h1.out.bel hbx)
        have B_h2 := B_h1.trans (hbx.mono B_h1.size)
        clear x0_h1 x1_h1 x2_h1 yp_h1 yq_h1 ye4_h1 T_h1 U_h1 x_h1 e4_h1 C_h1 M_h1 X_h1 VC_h1 VM_h1 c_h1 O_h1 B_h1 hbx
        have hS : (h2).cell? ⟨w.heap.size, 0, none⟩ = some (.int .i64 b) ∧ (h2).cell? ⟨w.heap.size, 1, none⟩ = some (.slice ca C.length cc) ∧ (h2).cell? ⟨w.heap.size, 2, none⟩ = some (.slice ma M.length mc) ∧ (h2).cell? ⟨w.heap.size + 1, 0, none⟩ = some (.slice t_pa t_n t_pc) ∧ (h2).cell? ⟨w.heap.size + 1, 1, none⟩ = some (.int .i64 t_k) ∧ (h2).cell? ⟨w.heap.size + 1, 2, none⟩ = some (.int .i64 t_i) ∧ (h2).cell? ⟨w.heap.size + 1, 3, none⟩ = some (.slice t_qa t_m t_qc) ∧ (h2).cell? ⟨w.heap.size + 1 + 1, 0, none⟩ = some (.slice ua u_n uc) ∧ (h2).cell? ⟨w.heap.size + 1 + 1, 1, none⟩ = some (.int .i64 u_d) ∧ (h2).cell? ⟨p, 0, none⟩ = some (.int .i64 b) ∧ (h2).cell? ⟨p, 1, none⟩ = some (.slice V_ca C.length V_cc) ∧ (h2).cell? ⟨p, 2, none⟩ = some (.slice V_ma M.length V_mc) ∧ (h2).cell? ⟨q, 0, none⟩ = some (.slice x_pa t_n x_pc) ∧ (h2).cell? ⟨q, 1, none⟩ = some (.int .i64 t_k) ∧ (h2).cell? ⟨q, 2, none⟩ = some (.int .i64 t_i) ∧ (h2).cell? ⟨q, 3, none⟩ = some (.slice x_qa t_m x_qc) ∧ (h2).cell? ⟨e4p, 0, none⟩ = some (.slice e4_a z2_n e4_c) ∧ (h2).cell? ⟨e4p, 1, none⟩ = some (.int .i64 z2_d) := ⟨x0_h2.cell rfl, x0_h2.cell rfl, x0_h2.cell rfl, x1_h2.cell rfl, x1_h2.cell rfl, x1_h2.cell rfl, x1_h2.cell rfl, x2_h2.cell rfl, x2_h2.cell rfl, yp_h2.cell rfl, yp_h2.cell rfl, yp_h2.cell rfl, yq_h2.cell rfl, yq_h2.cell rfl, yq_h2.cell rfl, yq_h2.cell rfl, ye4_h2.cell rfl, ye4_h2.cell rfl⟩
        refine hK.out _ _ (fun _ => hS) ?_
        clear hK K
        try simp only [Act.put, List.setIfInBounds_toArray, List.set_cons_zero, List.set_cons_succ, List.getElem_toArray, List.getElem_cons_zero, List.getElem_cons_succ]
        clear O_h2
        refine wpN_step (i := 10) (by kernel_rfl) rfl (fun K hK => ?_)
        go_simp
        refine (Check_rT C_h2.out M_h2.out X_h2.out T_h2.out U_h2.out (by have := Hf.out.1; have := Hs.out.2.2.1; omega) Hfit.out).mono ?_
        rintro e h3 ⟨cB, HcB, rfl, hbx0⟩
        have hbx : Below h2.heap.size h2 h3 := hbx0
        clear hbx0
        have x0_h3 := x0_h2.below hbx
        have x1_h3 := x1_h2.below hbx
        have x2_h3 := x2_h2.below hbx
        have yp_h3 := yp_h2.below hbx
        have yq_h3 := yq_h2.below hbx
        have ye4_h3 := ye4_h2.below hbx
        have T_h3 := Lib.hid (T_h2.out.bel hbx)
        have U_h3 := Lib.hid (U_h2.out.bel hbx)
        have x_h3 := Lib.hid (x_h2.out.bel hbx)
        have e4_h3 := Lib.hid (e4_h2.out.bel hbx)
        have C_h3 := Lib.hid (C_h2.out.bel hbx)
        have M_h3 := Lib.hid (M_h2.out.bel hbx)
        have X_h3 := Lib.hid (X_h2.out.bel hbx)
        have VC_h3 := Lib.hid (VC_h2.out.bel hbx)
        have VM_h3 := Lib.hid (VM_h2.out.bel hbx)
        have c_h3 := Lib.hid (c_h2.out.bel hbx)
        have B_h3 := B_h2.trans (hbx.mono B_h2.size)
        clear x0_h2 x1_h2 x2_h2 yp_h2 yq_h2 ye4_h2 T_h2 U_h2 x_h2 e4_h2 C_h2 M_h2 X_h2 VC_h2 VM_h2 c_h2 B_h2 hbx
        have hS : (h3).cell? ⟨w.heap.size, 0, none⟩ = some (.int .i64 b) ∧ (h3).cell? ⟨w.heap.size, 1, none⟩ = some (.slice ca C.length cc) ∧ (h3).cell? ⟨w.heap.size, 2, none⟩ = some (.slice ma M.length mc) ∧ (h3).cell? ⟨w.heap.size + 1, 0, none⟩ = some (.slice t_pa t_n t_pc) ∧ (h3).cell? ⟨w.heap.size + 1, 1, none⟩ = some (.int .i64 t_k) ∧ (h3).cell? ⟨w.heap.size + 1, 2, none⟩ = some (.int .i64 t_i) ∧ (h3).cell? ⟨w.heap.size + 1, 3, none⟩ = some (.slice t_qa t_m t_qc) ∧ (h3).cell? ⟨w.heap.size + 1 + 1, 0, none⟩ = some (.slice ua u_n uc) ∧ (h3).cell? ⟨w.heap.size + 1 + 1, 1, none⟩ = some (.int .i64 u_d) ∧ (h3).cell? ⟨p, 0, none⟩ = some (.int .i64 b) ∧ (h3).cell? ⟨p, 1, none⟩ = some (.slice V_ca C.length V_cc) ∧ (h3).cell? ⟨p, 2, none⟩ = some (.slice V_ma M.length V_mc) ∧ (h3).cell? ⟨q, 0, none⟩ = some (.slice x_pa t_n x_pc) ∧ (h3).cell? ⟨q, 1, none⟩ = some (.int .i64 t_k) ∧ (h3).cell? ⟨q, 2, none⟩ = some (.int .i64 t_i) ∧ (h3).cell? ⟨q, 3, none⟩ = some (.slice x_qa t_m x_qc) ∧ (h3).cell? ⟨e4p, 0, none⟩ = some (.slice e4_a z2_n e4_c) ∧ (h3).cell? ⟨e4p, 1, none⟩ = some (.int .i64 z2_d) := ⟨x0_h3.cell rfl, x0_h3.cell rfl, x0_h3.cell rfl, x1_h3.cell rfl, x1_h3.cell rfl, x1_h3.cell rfl, x1_h3.cell rfl, x2_h3.cell rfl, x2_h3.cell rfl, yp_h3.cell rfl, yp_h3.cell rfl, yp_h3.cell rfl, yq_h3.cell rfl, yq_h3.cell rfl, yq_h3.cell rfl, yq_h3.cell rfl, ye4_h3.cell rfl, ye4_h3.cell rfl⟩
        refine hK.out _ _ (fun _ => hS) ?_
        clear hK K
        try simp only [Act.put, List.setIfInBounds_toArray, List.set_cons_zero, List.set_cons_succ, List.getElem_toArray, List.getElem_cons_zero, List.getElem_cons_succ]
        obtain rfl : cB = cA := checkCode_uniq HcB.out HcA.out
        clear HcA HcB
        refine wpN_take (i := 11) (v := ?_) rfl (by kernel_rfl) (fun _ _ _ h => h) hS (Or.inl ⟨by rfl, ?_⟩) ?_
        rotate_left; focus (intro wS hSw; (try dsimp only at hSw); go_simp; (try with_reducible rfl))
        try simp only [Act.put, List.setIfInBounds_toArray, List.set_cons_zero, List.set_cons_succ, List.getElem_toArray, List.getElem_cons_zero, List.getElem_cons_succ]
        refine wpN_take (i := 12) (v := ?_) rfl (by kernel_rfl) (fun _ _ _ h => h) hS (Or.inl ⟨by rfl, ?_⟩) ?_
        rotate_left; focus (intro wS hSw; (try dsimp only at hSw); go_simp; (try with_reducible rfl))
        try simp only [Act.put, List.setIfInBounds_toArray, List.set_cons_zero, List.set_cons_succ, List.getElem_toArray, List.getElem_cons_zero, List.getElem_cons_succ]
        refine wpN_take (i := 13) (v := ?_) rfl (by kernel_rfl) (fun _ _ _ h => h) hS (Or.inl ⟨by rfl, ?_⟩) ?_
        rotate_left; focus (intro wS hSw; (try dsimp only at hSw); go_simp; (try with_reducible rfl))
        try simp only [Act.put, List.setIfInBounds_toArray, List.set_cons_zero, List.set_cons_succ, List.getElem_toArray, List.getElem_cons_zero, List.getElem_cons_succ]
        refine wpN_take (i := 14) (v := ?_) rfl (by kernel_rfl) (fun _ _ _ h => h) hS (Or.inl ⟨by rfl, ?_⟩) ?_
        rotate_left; focus (intro wS hSw; (try dsimp only at hSw); go_simp; (try with_reducible rfl))
        try simp only [Act.put, List.setIfInBounds_toArray, List.set_cons_zero, List.set_cons_succ, List.getElem_toArray, List.getElem_cons_zero, List.getElem_cons_succ]
        refine wpN_pure (i := 15) (v := undef) rfl (by kernel_rfl) (fun _ _ _ h => h) (Or.inr ⟨by rfl, rfl⟩) ?_
        try simp only [Act.put, List.setIfInBounds_toArray, List.set_cons_zero, List.set_cons_succ, List.getElem_toArray, List.getElem_cons_zero, List.getElem_cons_succ]
        refine wpN_pure (i := 16) (v := undef) rfl (by kernel_rfl) (fun _ _ _ h => h) (Or.inr ⟨by rfl, rfl⟩) ?_
        try simp only [Act.put, List.setIfInBounds_toArray, List.set_cons_zero, List.set_cons_succ, List.getElem_toArray, List.getElem_cons_zero, List.getElem_cons_succ]
        refine wpN_pure (i := 17) (v := undef) rfl (by kernel_rfl) (fun _ _ _ h => h) (Or.inr ⟨by rfl, rfl⟩) ?_
        try simp only [Act.put, List.setIfInBounds_toArray, List.set_cons_zero, List.set_cons_succ, List.getElem_toArray, List.getElem_cons_zero, List.getElem_cons_succ]
        refine wpN_pure (i := 18) (v := undef) rfl (by kernel_rfl) (fun _ _ _ h => h) (Or.inr ⟨by rfl, rfl⟩) ?_
        try simp only [Act.put, List.setIfInBounds_toArray, List.set_cons_zero, List.set_cons_succ, List.getElem_toArray, List.getElem_cons_zero, List.getElem_cons_succ]
        refine wpN_pure (i := 19) (v := undef) rfl (by kernel_rfl) (fun _ _ _ h => h) (Or.inr ⟨by rfl, rfl⟩) ?_
        try simp only [Act.put, List.setIfInBounds_toArray, List.set_cons_zero, List.set_cons_succ, List.getElem_toArray, List.getElem_cons_zero, List.getElem_cons_succ]
        refine wpN_pure (i := 20) (v := undef) rfl (by kernel_rfl) (fun _ _ _ h => h) (Or.inr ⟨by rfl, rfl⟩) ?_
        try simp only [Act.put, List.setIfInBounds_toArray, List.set_cons_zero, List.set_cons_succ, List.getElem_toArray, List.getElem_cons_zero, List.getElem_cons_succ]
        refine wpN_pure (i := 21) (v := undef) rfl (by kernel_rfl) (fun _ _ _ h => h) (Or.inr ⟨by rfl, rfl⟩) ?_
        try simp only [Act.put, List.setIfInBounds_toArray, List.set_cons_zero, List.set_cons_succ, List.getElem_toArray, List.getElem_cons_zero, List.getElem_cons_succ]
        refine wpN_pure (i := 22) (v := undef) rfl (by kernel_rfl) (fun _ _ _ h => h) (Or.inr ⟨by rfl, rfl⟩) ?_
        try simp only [Act.put, List.setIfInBounds_toArray, List.set_cons_zero, List.set_cons_succ, List.getElem_toArray, List.getElem_cons_zero, List.getElem_cons_succ]
        refine wpN_pure (i := 23) (v := undef) rfl (by kernel_rfl) (fun _ _ _ h => h) (Or.inr ⟨by rfl, rfl⟩) ?_
        try simp only [Act.put, List.setIfInBounds_toArray, List.set_cons_zero, List.set_cons_succ, List.getElem_toArray, List.getElem_cons_zero, List.getElem_cons_succ]
        refine wpN_pure (i := 24) (v := undef) rfl (by kernel_rfl) (fun _ _ _ h => h) (Or.inr ⟨by rfl, rfl⟩) ?_
        try simp only [Act.put, List.setIfInBounds_toArray, List.set_cons_zero, List.set_cons_succ, List.getElem_toArray, List.getElem_cons_zero, List.getElem_cons_succ]
        refine wpN_pure (i := 25) (v := undef) rfl (by kernel_rfl) (fun _ _ _ h => h) (Or.inr ⟨by rfl, rfl⟩) ?_
        try simp only [Act.put, List.setIfInBounds_toArray, List.set_cons_zero, List.set_cons_succ, List.getElem_toArray, List.getElem_cons_zero, List.getElem_cons_succ]
        refine wpN_pure (i := 26) (v := undef) rfl (by kernel_rfl) (fun _ _ _ h => h) (Or.inr ⟨by rfl, rfl⟩) ?_
        try simp only [Act.put, List.setIfInBounds_toArray, List.set_cons_zero, List.set_cons_succ, List.getElem_toArray, List.getElem_cons_zero, List.getElem_cons_succ]
        refine wpN_take (i := 27) (v := ?_) rfl (by kernel_rfl) (fun _ _ _ h => h) hS (Or.inl ⟨by rfl, ?_⟩) ?_
        rotate_left; focus (intro wS hSw; (try dsimp only at hSw); go_simp; (try with_reducible rfl))
        try simp only [Act.put, List.setIfInBounds_toArray, List.set_cons_zero, List.set_cons_succ, List.getElem_toArray, List.getElem_cons_zero, List.getElem_cons_succ]
        refine wpN_take (i := 28) (v := ?_) rfl (by kernel_rfl) (fun _ _ _ h => h) hS (Or.inl ⟨by rfl, ?_⟩) ?_
        rotate_left; focus (intro wS hSw; (try dsimp only at hSw); go_simp; (try with_reducible rfl))
        try simp only [Act.put, List.setIfInBounds_toArray, List.set_cons_zero, List.set_cons_succ, List.getElem_toArray, List.getElem_cons_zero, List.getElem_cons_succ]
        refine wpN_done (by kernel_rfl) ?_
        refine NoPanic.normal ?_
        clear hS
        go_wp2_with fail
        refine wp_region_noPanic (wp_region_need (S := fun w' => w'.cell? ⟨w.heap.size, 0, none⟩ = some (.int .i64 b) ∧ w'.cell? ⟨w.heap.size, 1, none⟩ = some (.slice ca C.length cc) ∧ w'.cell? ⟨w.heap.size, 2, none⟩ = some (.slice ma M.length mc) ∧ w'.cell? ⟨p, 0, none⟩ = some (.int .i64 b) ∧ w'.cell? ⟨p, 1, none⟩ = some (.slice V_ca C.length V_cc) ∧ w'.cell? ⟨p, 2, none⟩ = some (.slice V_ma M.length V_mc)) (by kernel_rfl) ?_)
        have hS : (h3.drew).cell? ⟨w.heap.size, 0, none⟩ = some (.int .i64 b) ∧ (h3.drew).cell? ⟨w.heap.size, 1, none⟩ = some (.slice ca C.length cc) ∧ (h3.drew).cell? ⟨w.heap.size, 2, none⟩ = some (.slice ma M.length mc) ∧ (h3.drew).cell? ⟨p, 0, none⟩ = some (.int .i64 b) ∧ (h3.drew).cell? ⟨p, 1, none⟩ = some (.slice V_ca C.length V_cc) ∧ (h3.drew).cell? ⟨p, 2, none⟩ = some (.slice V_ma M.length V_mc) := ⟨x0_h3.drew.cell rfl, x0_h3.drew.cell rfl, x0_h3.drew.cell rfl, yp_h3.drew.cell rfl, yp_h3.drew.cell rfl, yp_h3.drew.cell rfl⟩
        refine wpN_step (i := 0) (by kernel_rfl) rfl (fun K hK => ?_)
        go_simp
        refine (known06 h3.drew).mono ?_
        rintro e j1 ⟨rfl, hbx0⟩
        have hbx : Below h3.heap.size h3 j1 := (Below.refl _ _).drew.trans hbx0
        clear hbx0
        have x0_j1 := x0_h3.below hbx
        have x1_j1 := x1_h3.below hbx
        have x2_j1 := x2_h3.below hbx
        have yp_j1 := yp_h3.below hbx
        have yq_j1 := yq_h3.below hbx
        have ye4_j1 := ye4_h3.below hbx
        have T_j1 := Lib.hid (T_h3.out.bel hbx)
        have U_j1 := Lib.hid (U_h3.out.bel hbx)
        have x_j1 := Lib.hid (x_h3.out.bel hbx)
        have e4_j1 := Lib.hid (e4_h3.out.bel hbx)
        have C_j1 := Lib.hid (C_h3.out.bel hbx)
        have M_j1 := Lib.hid (M_h3.out.bel hbx)
        have X_j1 := Lib.hid (X_h3.out.bel hbx)
        have VC_j1 := Lib.hid (VC_h3.out.bel hbx)
        have VM_j1 := Lib.hid (VM_h3.out.bel hbx)
        have c_j1 := Lib.hid (c_h3.out.bel hbx)
        have B_j1 := B_h3.trans (hbx.mono B_h3.size)
        clear x0_h3 x1_h3 x2_h3 yp_h3 yq_h3 ye4_h3 T_h3 U_h3 x_h3 e4_h3 C_h3 M_h3 X_h3 VC_h3 VM_h3 c_h3 B_h3 hbx
        have hS : (j1).cell? ⟨w.heap.size, 0, none⟩ = some (.int .i64 b) ∧ (j1).cell? ⟨w.heap.size, 1, none⟩ = some (.slice ca C.length cc) ∧ (j1).cell? ⟨w.heap.size, 2, none⟩ = some (.slice ma M.length mc) ∧ (j1).cell? ⟨p, 0, none⟩ = some (.int .i64 b) ∧ (j1).cell? ⟨p, 1, none⟩ = some (.slice V_ca C.length V_cc) ∧ (j1).cell? ⟨p, 2, none⟩ = some (.slice V_ma M.length V_mc) := ⟨x0_j1.cell rfl, x0_j1.cell rfl, x0_j1.cell rfl, yp_j1.cell rfl, yp_j1.cell rfl, yp_j1.cell rfl⟩
        refine hK.out _ _ (fun _ => hS) ?_
        clear hK K
        try simp only [Act.put, List.setIfInBounds_toArray, List.set_cons_zero, List.set_cons_succ, List.getElem_toArray, List.getElem_cons_zero, List.getElem_cons_succ]
        refine wpN_take (i := 1) (v := ?_) rfl (by kernel_rfl) (fun _ _ _ h => h) hS (Or.inl ⟨by rfl, ?_⟩) ?_
        rotate_left; focus (intro wS hSw; (try dsimp only at hSw); go_simp; (try with_reducible rfl))
        try simp only [Act.put, List.setIfInBounds_toArray, List.set_cons_zero, List.set_cons_succ, List.getElem_toArray, List.getElem_cons_zero, List.getElem_cons_succ]
        refine wpN_take (i := 2) (v := ?_) rfl (by kernel_rfl) (fun _ _ _ h => h) hS (Or.inl ⟨by rfl, ?_⟩) ?_
        rotate_left; focus (intro wS hSw; (try dsimp only at hSw); go_simp; (try with_reducible rfl))
        try simp only [Act.put, List.setIfInBounds_toArray, List.set_cons_zero, List.set_cons_succ, List.getElem_toArray, List.getElem_cons_zero, List.getElem_cons_succ]
        refine wpN_take (i := 4) (v := ?_) rfl (by kernel_rfl) (fun _ _ _ h => h) hS (Or.inl ⟨by rfl, ?_⟩) ?_
        rotate_left; focus (intro wS hSw; (try dsimp only at hSw); go_simp; (try with_reducible rfl))
        try simp only [Act.put, List.setIfInBounds_toArray, List.set_cons_zero, List.set_cons_succ, List.getElem_toArray, List.getElem_cons_zero, List.getElem_cons_succ]
        refine wpN_step (i := 3) (by kernel_rfl) rfl (fun K hK => ?_)
        go_simp
        refine (RightWorld_k VC_j1.out VM_j1.out (fun t' h => by have := (Hs.out.2.2.2 t' (List.mem_append_left _ h)).1; omega)).mono ?_
        intro e j2 h
        obtain ⟨r5, Hr5, rfl, hbx0⟩ := of_retB' h
        clear h
        have hbx : Below j1.heap.size j1 j2 := hbx0
        clear hbx0
        have x0_j2 := x0_j1.below hbx
        have x1_j2 := x1_j1.below hbx
        have x2_j2 := x2_j1.below hbx
        have yp_j2 := yp_j1.below hbx
        have yq_j2 := yq_j1.below hbx
        have ye4_j2 := ye4_j1.below hbx
        have T_j2 := Lib.hid (T_j1.out.bel hbx)
        have U_j2 := Lib.hid (U_j1.out.bel hbx)
        have x_j2 := Lib.hid (x_j1.out.bel hbx)
        have e4_j2 := Lib.hid (e4_j1.out.bel hbx)
        have C_j2 := Lib.hid (C_j1.out.bel hbx)
        have M_j2 := Lib.hid (M_j1.out.bel hbx)
        have X_j2 := Lib.hid (X_j1.out.bel hbx)
        have VC_j2 := Lib.hid (VC_j1.out.bel hbx)
        have VM_j2 := Lib.hid (VM_j1.out.bel hbx)
        have c_j2 := Lib.hid (c_j1.out.bel hbx)
        have B_j2 := B_j1.trans (hbx.mono B_j1.size)
        clear x0_j1 x1_j1 x2_j1 yp_j1 yq_j1 ye4_j1 T_j1 U_j1 x_j1 e4_j1 C_j1 M_j1 X_j1 VC_j1 VM_j1 c_j1 B_j1 hbx
        have hS : (j2).cell? ⟨w.heap.size, 0, none⟩ = some (.int .i64 b) ∧ (j2).cell? ⟨w.heap.size, 1, none⟩ = some (.slice ca C.length cc) ∧ (j2).cell? ⟨w.heap.size, 2, none⟩ = some (.slice ma M.length mc) ∧ (j2).cell? ⟨p, 0, none⟩ = some (.int .i64 b) ∧ (j2).cell? ⟨p, 1, none⟩ = some (.slice V_ca C.length V_cc) ∧ (j2).cell? ⟨p, 2, none⟩ = some (.slice V_ma M.length V_mc) := ⟨x0_j2.cell rfl, x0_j2.cell rfl, x0_j2.cell rfl, yp_j2.cell rfl, yp_j2.cell rfl, yp_j2.cell rfl⟩
        refine hK.out _ _ (fun _ => hS) ?_
        clear hK K
        try simp only [Act.put, List.setIfInBounds_toArray, List.set_cons_zero, List.set_cons_succ, List.getElem_toArray, List.getElem_cons_zero, List.getElem_cons_succ]
        refine wpN_step (i := 5) (by kernel_rfl) rfl (fun K hK => ?_)
        go_simp
        refine (RightWorld_r C_j2.out M_j2.out).mono ?_
        intro e j3 h
        obtain ⟨r6, Hr6, rfl, hbx0⟩ := of_retB' h
        clear h
        have hbx : Below j2.heap.size j2 j3 := hbx0
        clear hbx0
        have x0_j3 := x0_j2.below hbx
        have x1_j3 := x1_j2.below hbx
        have x2_j3 := x2_j2.below hbx
        have yp_j3 := yp_j2.below hbx
        have yq_j3 := yq_j2.below hbx
        have ye4_j3 := ye4_j2.below hbx
        have T_j3 := Lib.hid (T_j2.out.bel hbx)
        have U_j3 := Lib.hid (U_j2.out.bel hbx)
        have x_j3 := Lib.hid (x_j2.out.bel hbx)
        have e4_j3 := Lib.hid (e4_j2.out.bel hbx)
        have C_j3 := Lib.hid (C_j2.out.bel hbx)
        have M_j3 := Lib.hid (M_j2.out.bel hbx)
        have X_j3 := Lib.hid (X_j2.out.bel hbx)
        have VC_j3 := Lib.hid (VC_j2.out.bel hbx)
        have VM_j3 := Lib.hid (VM_j2.out.bel hbx)
        have c_j3 := Lib.hid (c_j2.out.bel hbx)
        have B_j3 := B_j2.trans (hbx.mono B_j2.size)
        clear x0_j2 x1_j2 x2_j2 yp_j2 yq_j2 ye4_j2 T_j2 U_j2 x_j2 e4_j2 C_j2 M_j2 X_j2 VC_j2 VM_j2 c_j2 B_j2 hbx
        have hS : (j3).cell? ⟨w.heap.size, 0, none⟩ = some (.int .i64 b) ∧ (j3).cell? ⟨w.heap.size, 1, none⟩ = some (.slice ca C.length cc) ∧ (j3).cell? ⟨w.heap.size, 2, none⟩ = some (.slice ma M.length mc) ∧ (j3).cell? ⟨p, 0, none⟩ = some (.int .i64 b) ∧ (j3).cell? ⟨p, 1, none⟩ = some (.slice V_ca C.length V_cc) ∧ (j3).cell? ⟨p, 2, none⟩ = some (.slice V_ma M.length V_mc) := ⟨x0_j3.cell rfl, x0_j3.cell rfl, x0_j3.cell rfl, yp_j3.cell rfl, yp_j3.cell rfl, yp_j3.cell rfl⟩
        refine hK.out _ _ (fun _ => hS) ?_
        clear hK K
        try simp only [Act.put, List.setIfInBounds_toArray, List.set_cons_zero, List.set_cons_succ, List.getElem_toArray, List.getElem_cons_zero, List.getElem_cons_succ]
        have hrr : r6 = r5 := Bool.eq_iff_iff.2 (Hr6.out.trans Hr5.out.symm)
        rw [hrr]
        clear Hr6 Hr5 hrr
        refine wpN_take (i := 6) (v := ?_) rfl (by kernel_rfl) (fun _ _ _ h => h) hS (Or.inl ⟨by rfl, ?_⟩) ?_
        rotate_left; focus (intro wS hSw; (try dsimp only at hSw); go_simp; (try with_reducible rfl))
        try simp only [Act.put, List.setIfInBounds_toArray, List.set_cons_zero, List.set_cons_succ, List.getElem_toArray, List.getElem_cons_zero, List.getElem_cons_succ]
        refine wpN_take (i := 7) (v := ?_) rfl (by kernel_rfl) (fun _ _ _ h => h) hS (Or.inl ⟨by rfl, ?_⟩) ?_
        rotate_left; focus (intro wS hSw; (try dsimp only at hSw); go_simp; (try with_reducible rfl))
        try simp only [Act.put, List.setIfInBounds_toArray, List.set_cons_zero, List.set_cons_succ, List.getElem_toArray, List.getElem_cons_zero, List.getElem_cons_succ]
        refine wpN_step (i := 8) (by kernel_rfl) rfl (fun K hK => ?_)
        go_simp
        refine hK.out _ _ (fun h => absurd h (by decide)) ?_
        clear hK K
        try simp only [Act.put, List.setIfInBounds_toArray, List.set_cons_zero, List.set_cons_succ, List.getElem_toArray, List.getElem_cons_zero, List.getElem_cons_succ]
        refine wpN_done (by kernel_rfl) ?_
        refine NoPanic.normal ?_
        go_wp2_with fail
        go_ret
        exact ⟨rfl, B_j3⟩
    · rcases D1 with ⟨rfl, rfl⟩ | ⟨rfl, rfl⟩
      all_goals
        skip
        refine wp_region_noPanic (wp_region_need (S := fun w' => w'.cell? ⟨e1p, 0, none⟩ = some (.slice e1_a z1_n e1_c) ∧ w'.cell? ⟨e1p, 1, none⟩ = some (.int .i64 z1_d) ∧ w'.cell? ⟨e2p, 0, none⟩ = some (.slice e2_a z1_n e2_c) ∧ w'.cell? ⟨e2p, 1, none⟩ = some (.int .i64 z1_d) ∧ w'.cell? ⟨e3p, 0, none⟩ = some (.slice e3_a z2_n e3_c) ∧ w'.cell? ⟨e3p, 1, none⟩ = some (.int .i64 z2_d) ∧ w'.cell? ⟨e4p, 0, none⟩ = some (.slice e4_a z2_n e4_c) ∧ w'.cell? ⟨e4p, 1, none⟩ = some (.int .i64 z2_d)) (by kernel_rfl) ?_)
        have hS : (v7.drew).cell? ⟨e1p, 0, none⟩ = some (.slice e1_a z1_n e1_c) ∧ (v7.drew).cell? ⟨e1p, 1, none⟩ = some (.int .i64 z1_d) ∧ (v7.drew).cell? ⟨e2p, 0, none⟩ = some (.slice e2_a z1_n e2_c) ∧ (v7.drew).cell? ⟨e2p, 1, none⟩ = some (.int .i64 z1_d) ∧ (v7.drew).cell? ⟨e3p, 0, none⟩ = some (.slice e3_a z2_n e3_c) ∧ (v7.drew).cell? ⟨e3p, 1, none⟩ = some (.int .i64 z2_d) ∧ (v7.drew).cell? ⟨e4p, 0, none⟩ = some (.slice e4_a z2_n e4_c) ∧ (v7.drew).cell? ⟨e4p, 1, none⟩ = some (.int .i64 z2_d) := ⟨ye1_v7.drew.cell rfl, ye1_v7.drew.cell rfl, ye2_v7.drew.cell rfl, ye2_v7.drew.cell rfl, ye3_v7.drew.cell rfl, ye3_v7.drew.cell rfl, ye4_v7.drew.cell rfl, ye4_v7.drew.cell rfl⟩
        refine wpN_take (i := 0) (v := ?_) rfl (by kernel_rfl) (fun _ _ _ h => h) hS (Or.inl ⟨by rfl, ?_⟩) ?_
        rotate_left; focus (intro wS hSw; (try dsimp only at hSw); go_simp; (try with_reducible rfl))
        try simp only [Act.put, List.setIfInBounds_toArray, List.set_cons_zero, List.set_cons_succ, List.getElem_toArray, List.getElem_cons_zero, List.getElem_cons_succ]
        refine wpN_take (i := 1) (v := ?_) rfl (by kernel_rfl) (fun _ _ _ h => h) hS (Or.inl ⟨by rfl, ?_⟩) ?_
        rotate_left; focus (intro wS hSw; (try dsimp only at hSw); go_simp; (try with_reducible rfl))
        try simp only [Act.put, List.setIfInBounds_toArray, List.set_cons_zero, List.set_cons_succ, List.getElem_toArray, List.getElem_cons_zero, List.getElem_cons_succ]
        refine wpN_take (i := 2) (v := ?_) rfl (by kernel_rfl) (fun _ _ _ h => h) hS (Or.inl ⟨by rfl, ?_⟩) ?_
        rotate_left; focus (intro wS hSw; (try dsimp only at hSw); go_simp; (try with_reducible rfl))
        try simp only [Act.put, List.setIfInBounds_toArray, List.set_cons_zero, List.set_cons_succ, List.getElem_toArray, List.getElem_cons_zero, List.getElem_cons_succ]
        refine wpN_take (i := 3) (v := ?_) rfl (by kernel_rfl) (fun _ _ _ h => h) hS (Or.inl ⟨by rfl, ?_⟩) ?_
        rotate_left; focus (intro wS hSw; (try dsimp only at hSw); go_simp; (try with_reducible rfl))
        try simp only [Act.put, List.setIfInBounds_toArray, List.set_cons_zero, List.set_cons_succ, List.getElem_toArray, List.getElem_cons_zero, List.getElem_cons_succ]
        refine wpN_take (i := 4) (v := ?_) rfl (by kernel_rfl) (fun _ _ _ h => h) hS (Or.inl ⟨by rfl, ?_⟩) ?_
        rotate_left; focus (intro wS hSw; (try dsimp only at hSw); go_simp; (try with_reducible rfl))
        try simp only [Act.put, List.setIfInBounds_toArray, List.set_cons_zero, List.set_cons_succ, List.getElem_toArray, List.getElem_cons_zero, List.getElem_cons_succ]
        refine wpN_take (i := 5) (v := ?_) rfl (by kernel_rfl) (fun _ _ _ h => h) hS (Or.inl ⟨by rfl, ?_⟩) ?_
        rotate_left; focus (intro wS hSw; (try dsimp only at hSw); go_simp; (try with_reducible rfl))
        try simp only [Act.put, List.setIfInBounds_toArray, List.set_cons_zero, List.set_cons_succ, List.getElem_toArray, List.getElem_cons_zero, List.getElem_cons_succ]
        refine wpN_take (i := 6) (v := ?_) rfl (by kernel_rfl) (fun _ _ _ h => h) hS (Or.inl ⟨by rfl, ?_⟩) ?_
        rotate_left; focus (intro wS hSw; (try dsimp only at hSw); go_simp; (try with_reducible rfl))
        try simp only [Act.put, List.setIfInBounds_toArray, List.set_cons_zero, List.set_cons_succ, List.getElem_toArray, List.getElem_cons_zero, List.getElem_cons_succ]
        refine wpN_take (i := 7) (v := ?_) rfl (by kernel_rfl) (fun _ _ _ h => h) hS (Or.inl ⟨by rfl, ?_⟩) ?_
        rotate_left; focus (intro wS hSw; (try dsimp only at hSw); go_simp; (try with_reducible rfl))
        try simp only [Act.put, List.setIfInBounds_toArray, List.set_cons_zero, List.set_cons_succ, List.getElem_toArray, List.getElem_cons_zero, List.getElem_cons_succ]
        first
        | (refine wpN_pure (i := 8) (v := undef) rfl (by kernel_rfl) (fun _ _ _ h => h) (Or.inr ⟨by rfl, rfl⟩) ?_)
        | (refine wpN_pure (i := 8) (v := ?_) rfl (by kernel_rfl) (fun _ _ _ h => h) (Or.inl ⟨by rfl, ?_⟩) ?_
           rotate_left; focus (intro wS hSw; go_simp; (try with_reducible rfl)))
        try simp only [Act.put, List.setIfInBounds_toArray, List.set_cons_zero, List.set_cons_succ, List.getElem_toArray, List.getElem_cons_zero, List.getElem_cons_succ]
        first
        | (refine wpN_pure (i := 9) (v := undef) rfl (by kernel_rfl) (fun _ _ _ h => h) (Or.inr ⟨by rfl, rfl⟩) ?_)
        | (refine wpN_pure (i := 9) (v := ?_) rfl (by kernel_rfl) (fun _ _ _ h => h) (Or.inl ⟨by rfl, ?_⟩) ?_
           rotate_left; focus (intro wS hSw; go_simp; (try with_reducible rfl)))
        try simp only [Act.put, List.setIfInBounds_toArray, List.set_cons_zero, List.set_cons_succ, List.getElem_toArray, List.getElem_cons_zero, List.getElem_cons_succ]
        refine wpN_take (i := 10) (v := ?_) rfl (by kernel_rfl) (fun _ _ _ h => h) hS (Or.inl ⟨by rfl, ?_⟩) ?_
        rotate_left; focus (intro wS hSw; (try dsimp only at hSw); go_simp; (try with_reducible rfl))
        try simp only [Act.put, List.setIfInBounds_toArray, List.set_cons_zero, List.set_cons_succ, List.getElem_toArray, List.getElem_cons_zero, List.getElem_cons_succ]
        refine wpN_take (i := 11) (v := ?_) rfl (by kernel_rfl) (fun _ _ _ h => h) hS (Or.inl ⟨by rfl, ?_⟩) ?_
        rotate_left; focus (intro wS hSw; (try dsimp only at hSw); go_simp; (try with_reducible rfl))
        try simp only [Act.put, List.setIfInBounds_toArray, List.set_cons_zero, List.set_cons_succ, List.getElem_toArray, List.getElem_cons_zero, List.getElem_cons_succ]
        refine wpN_take (i := 12) (v := ?_) rfl (by kernel_rfl) (fun _ _ _ h => h) hS (Or.inl ⟨by rfl, ?_⟩) ?_
        rotate_left; focus (intro wS hSw; (try dsimp only at hSw); go_simp; (try with_reducible rfl))
        try simp only [Act.put, List.setIfInBounds_toArray, List.set_cons_zero, List.set_cons_succ, List.getElem_toArray, List.getElem_cons_zero, List.getElem_cons_succ]
        refine wpN_take (i := 13) (v := ?_) rfl (by kernel_rfl) (fun _ _ _ h => h) hS (Or.inl ⟨by rfl, ?_⟩) ?_
        rotate_left; focus (intro wS hSw; (try dsimp only at hSw); go_simp; (try with_reducible rfl))
        try simp only [Act.put, List.setIfInBounds_toArray, List.set_cons_zero, List.set_cons_succ, List.getElem_toArray, List.getElem_cons_zero, List.getElem_cons_succ]
        refine wpN_take (i := 14) (v := ?_) rfl (by kernel_rfl) (fun _ _ _ h => h) hS (Or.inl ⟨by rfl, ?_⟩) ?_
        rotate_left; focus (intro wS hSw; (try dsimp only at hSw); go_simp; (try with_reducible rfl))
        try simp only [Act.put, List.setIfInBounds_toArray, List.set_cons_zero, List.set_cons_succ, List.getElem_toArray, List.getElem_cons_zero, List.getElem_cons_succ]
        refine wpN_take (i := 15) (v := ?_) rfl (by kernel_rfl) (fun _ _ _ h => h) hS (Or.inl ⟨by rfl, ?_⟩) ?_
        rotate_left; focus (intro wS hSw; (try dsimp only at hSw); go_simp; (try with_reducible rfl))
        try simp only [Act.put, List.setIfInBounds_toArray, List.set_cons_zero, List.set_cons_succ, List.getElem_toArray, List.getElem_cons_zero, List.getElem_cons_succ]
        refine wpN_take (i := 16) (v := ?_) rfl (by kernel_rfl) (fun _ _ _ h => h) hS (Or.inl ⟨by rfl, ?_⟩) ?_
        rotate_left; focus (intro wS hSw; (try dsimp only at hSw); go_simp; (try with_reducible rfl))
        try simp only [Act.put, List.setIfInBounds_toArray, List.set_cons_zero, List.set_cons_succ, List.getElem_toArray, List.getElem_cons_zero, List.getElem_cons_succ]
        refine wpN_take (i := 17) (v := ?_) rfl (by kernel_rfl) (fun _ _ _ h => h) hS (Or.inl ⟨by rfl, ?_⟩) ?_
        rotate_left; focus (intro wS hSw; (try dsimp only at hSw); go_simp; (try with_reducible rfl))
        try simp only [Act.put, List.setIfInBounds_toArray, List.set_cons_zero, List.set_cons_succ, List.getElem_toArray, List.getElem_cons_zero, List.getElem_cons_succ]
        refine wpN_take (i := 18) (v := ?_) rfl (by kernel_rfl) (fun _ _ _ h => h) hS (Or.inl ⟨by rfl, ?_⟩) ?_
        rotate_left; focus (intro wS hSw; (try dsimp only at hSw); go_simp; (try with_reducible rfl))
        try simp only [Act.put, List.setIfInBounds_toArray, List.set_cons_zero, List.set_cons_succ, List.getElem_toArray, List.getElem_cons_zero, List.getElem_cons_succ]
        refine wpN_take (i := 19) (v := ?_) rfl (by kernel_rfl) (fun _ _ _ h => h) hS (Or.inl ⟨by rfl, ?_⟩) ?_
        rotate_left; focus (intro wS hSw; (try dsimp only at hSw); go_simp; (try with_reducible rfl))
        try simp only [Act.put, List.setIfInBounds_toArray, List.set_cons_zero, List.set_cons_succ, List.getElem_toArray, List.getElem_cons_zero, List.getElem_cons_succ]
        refine wpN_take (i := 20) (v := ?_) rfl (by kernel_rfl) (fun _ _ _ h => h) hS (Or.inl ⟨by rfl, ?_⟩) ?_
        rotate_left; focus (intro wS hSw; (try dsimp only at hSw); go_simp; (try with_reducible rfl))
        try simp only [Act.put, List.setIfInBounds_toArray, List.set_cons_zero, List.set_cons_succ, List.getElem_toArray, List.getElem_cons_zero, List.getElem_cons_succ]
        refine wpN_take (i := 21) (v := ?_) rfl (by kernel_rfl) (fun _ _ _ h => h) hS (Or.inl ⟨by rfl, ?_⟩) ?_
        rotate_left; focus (intro wS hSw; (try dsimp only at hSw); go_simp; (try with_reducible rfl))
        try simp only [Act.put, List.setIfInBounds_toArray, List.set_cons_zero, List.set_cons_succ, List.getElem_toArray, List.getElem_cons_zero, List.getElem_cons_succ]
        refine wpN_pure (i := 22) (v := undef) rfl (by kernel_rfl) (fun _ _ _ h => h) (Or.inr ⟨by rfl, rfl⟩) ?_
        try simp only [Act.put, List.setIfInBounds_toArray, List.set_cons_zero, List.set_cons_succ, List.getElem_toArray, List.getElem_cons_zero, List.getElem_cons_succ]
        refine wpN_pure (i := 23) (v := undef) rfl (by kernel_rfl) (fun _ _ _ h => h) (Or.inr ⟨by rfl, rfl⟩) ?_
        try simp only [Act.put, List.setIfInBounds_toArray, List.set_cons_zero, List.set_cons_succ, List.getElem_toArray, List.getElem_cons_zero, List.getElem_cons_succ]
        refine wpN_take (i := 24) (v := ?_) rfl (by kernel_rfl) (fun _ _ _ h => h) hS (Or.inl ⟨by rfl, ?_⟩) ?_
        rotate_left; focus (intro wS hSw; (try dsimp only at hSw); go_simp; (try with_reducible rfl))
        try simp only [Act.put, List.setIfInBounds_toArray, List.set_cons_zero, List.set_cons_succ, List.getElem_toArray, List.getElem_cons_zero, List.getElem_cons_succ]
        refine wpN_take (i := 25) (v := ?_) rfl (by kernel_rfl) (fun _ _ _ h => h) hS (Or.inl ⟨by rfl, ?_⟩) ?_
        rotate_left; focus (intro wS hSw; (try dsimp only at hSw); go_simp; (try with_reducible rfl))
        try simp only [Act.put, List.setIfInBounds_toArray, List.set_cons_zero, List.set_cons_succ, List.getElem_toArray, List.getElem_cons_zero, List.getElem_cons_succ]
        refine wpN_take (i := 26) (v := ?_) rfl (by kernel_rfl) (fun _ _ _ h => h) hS (Or.inl ⟨by rfl, ?_⟩) ?_
        rotate_left; focus (intro wS hSw; (try dsimp only at hSw); go_simp; (try with_reducible rfl))
        try simp only [Act.put, List.setIfInBounds_toArray, List.set_cons_zero, List.set_cons_succ, List.getElem_toArray, List.getElem_cons_zero, List.getElem_cons_succ]
        refine wpN_take (i := 27) (v := ?_) rfl (by kernel_rfl) (fun _ _ _ h => h) hS (Or.inl ⟨by rfl, ?_⟩) ?_
        rotate_left; focus (intro wS hSw; (try dsimp only at hSw); go_simp; (try with_reducible rfl))
        try simp only [Act.put, List.setIfInBounds_toArray, List.set_cons_zero, List.set_cons_succ, List.getElem_toArray, List.getElem_cons_zero, List.getElem_cons_succ]
        refine wpN_take (i := 29) (v := ?_) rfl (by kernel_rfl) (fun _ _ _ h => h) hS (Or.inl ⟨by rfl, ?_⟩) ?_
        rotate_left; focus (intro wS hSw; (try dsimp only at hSw); go_simp; (try with_reducible rfl))
        try simp only [Act.put, List.setIfInBounds_toArray, List.set_cons_zero, List.set_cons_succ, List.getElem_toArray, List.getElem_cons_zero, List.getElem_cons_succ]
        refine wpN_step (i := 28) (by kernel_rfl) rfl (fun K hK => ?_)
        go_simp
        refine (of_any e1_v7.out v7.drew (by have := Hs1.out.1; omega) (Keep.refl _ _).drew).mono ?_
        rintro e g1 ⟨so, do', rfl, hT, hbx0⟩
        have hbx : Below v7.heap.size v7 g1 := (Below.refl _ _).drew.trans hbx0
        clear hbx0
        have x0_g1 := x0_v7.below hbx
        have x1_g1 := x1_v7.below hbx
        have x2_g1 := x2_v7.below hbx
        have yp_g1 := yp_v7.below hbx
        have yq_g1 := yq_v7.below hbx
        have ye1_g1 := ye1_v7.below hbx
        have ye2_g1 := ye2_v7.below hbx
        have ye3_g1 := ye3_v7.below hbx
        have ye4_g1 := ye4_v7.below hbx
        have T_g1 := Lib.hid (T_v7.out.bel hbx)
        have U_g1 := Lib.hid (U_v7.out.bel hbx)
        have x_g1 := Lib.hid (x_v7.out.bel hbx)
        have e1_g1 := Lib.hid (e1_v7.out.bel hbx)
        have e2_g1 := Lib.hid (e2_v7.out.bel hbx)
        have e3_g1 := Lib.hid (e3_v7.out.bel hbx)
        have e4_g1 := Lib.hid (e4_v7.out.bel hbx)
        have C_g1 := Lib.hid (C_v7.out.bel hbx)
        have M_g1 := Lib.hid (M_v7.out.bel hbx)
        have X_g1 := Lib.hid (X_v7.out.bel hbx)
        have VC_g1 := Lib.hid (VC_v7.out.bel hbx)
        have VM_g1 := Lib.hid (VM_v7.out.bel hbx)
        have c_g1 := Lib.hid (c_v7.out.bel hbx)
        have B_g1 := B_v7.trans (hbx.mono B_v7.size)
        clear x0_v7 x1_v7 x2_v7 yp_v7 yq_v7 ye1_v7 ye2_v7 ye3_v7 ye4_v7 T_v7 U_v7 x_v7 e1_v7 e2_v7 e3_v7 e4_v7 C_v7 M_v7 X_v7 VC_v7 VM_v7 c_v7 B_v7 hbx
        have hS : (g1).cell? ⟨e1p, 0, none⟩ = some (.slice e1_a z1_n e1_c) ∧ (g1).cell? ⟨e1p, 1, none⟩ = some (.int .i64 z1_d) ∧ (g1).cell? ⟨e2p, 0, none⟩ = some (.slice e2_a z1_n e2_c) ∧ (g1).cell? ⟨e2p, 1, none⟩ = some (.int .i64 z1_d) ∧ (g1).cell? ⟨e3p, 0, none⟩ = some (.slice e3_a z2_n e3_c) ∧ (g1).cell? ⟨e3p, 1, none⟩ = some (.int .i64 z2_d) ∧ (g1).cell? ⟨e4p, 0, none⟩ = some (.slice e4_a z2_n e4_c) ∧ (g1).cell? ⟨e4p, 1, none⟩ = some (.int .i64 z2_d) := ⟨ye1_g1.cell rfl, ye1_g1.cell rfl, ye2_g1.cell rfl, ye2_g1.cell rfl, ye3_g1.cell rfl, ye3_g1.cell rfl, ye4_g1.cell rfl, ye4_g1.cell rfl⟩
        refine hK.out _ _ (fun _ => hS) ?_
        clear hK K
        try simp only [Act.put, List.setIfInBounds_toArray, List.set_cons_zero, List.set_cons_succ, List.getElem_toArray, List.getElem_cons_zero, List.getElem_cons_succ]
        have O_g1 := Lib.hid hT.trueb; clear hT
        refine wpN_step (i := 30) (by kernel_rfl) rfl (fun K hK => ?_)
        go_simp
        refine (same_r O_g1.out e2_g1.out g1 (Keep.refl _ _) (Keep.refl _ _)).mono ?_
        intro e g2 h
        obtain ⟨r1, Hr1, rfl, hbx0⟩ := of_retB' h
        clear h
        have hbx : Below g1.heap.size g1 g2 := hbx0
        clear hbx0
        have x0_g2 := x0_g1.below hbx
        have x1_g2 := x1_g1.below hbx
        have x2_g2 := x2_g1.below hbx
        have yp_g2 := yp_g1.below hbx
        have yq_g2 := yq_g1.below hbx
        have ye1_g2 := ye1_g1.below hbx
        have ye2_g2 := ye2_g1.below hbx
        have ye3_g2 := ye3_g1.below hbx
        have ye4_g2 := ye4_g1.below hbx
        have T_g2 := Lib.hid (T_g1.out.bel hbx)
        have U_g2 := Lib.hid (U_g1.out.bel hbx)
        have x_g2 := Lib.hid (x_g1.out.bel hbx)
        have e1_g2 := Lib.hid (e1_g1.out.bel hbx)
        have e2_g2 := Lib.hid (e2_g1.out.bel hbx)
        have e3_g2 := Lib.hid (e3_g1.out.bel hbx)
        have e4_g2 := Lib.hid (e4_g1.out.bel hbx)
        have C_g2 := Lib.hid (C_g1.out.bel hbx)
        have M_g2 := Lib.hid (M_g1.out.bel hbx)
        have X_g2 := Lib.hid (X_g1.out.bel hbx)
        have VC_g2 := Lib.hid (VC_g1.out.bel hbx)
        have VM_g2 := Lib.hid (VM_g1.out.bel hbx)
        have c_g2 := Lib.hid (c_g1.out.bel hbx)
        have O_g2 := Lib.hid (O_g1.out.bel hbx)
        have B_g2 := B_g1.trans (hbx.mono B_g1.size)
        clear x0_g1 x1_g1 x2_g1 yp_g1 yq_g1 ye1_g1 ye2_g1 ye3_g1 ye4_g1 T_g1 U_g1 x_g1 e1_g1 e2_g1 e3_g1 e4_g1 C_g1 M_g1 X_g1 VC_g1 VM_g1 c_g1 O_g1 B_g1 hbx
        have hS : (g2).cell? ⟨e1p, 0, none⟩ = some (.slice e1_a z1_n e1_c) ∧ (g2).cell? ⟨e1p, 1, none⟩ = some (.int .i64 z1_d) ∧ (g2).cell? ⟨e2p, 0, none⟩ = some (.slice e2_a z1_n e2_c) ∧ (g2).cell? ⟨e2p, 1, none⟩ = some (.int .i64 z1_d) ∧ (g2).cell? ⟨e3p, 0, none⟩ = some (.slice e3_a z2_n e3_c) ∧ (g2).cell? ⟨e3p, 1, none⟩ = some (.int .i64 z2_d) ∧ (g2).cell? ⟨e4p, 0, none⟩ = some (.slice e4_a z2_n e4_c) ∧ (g2).cell? ⟨e4p, 1, none⟩ = some (.int .i64 z2_d) := ⟨ye1_g2.cell rfl, ye1_g2.cell rfl, ye2_g2.cell rfl, ye2_g2.cell rfl, ye3_g2.cell rfl, ye3_g2.cell rfl, ye4_g2.cell rfl, ye4_g2.cell rfl⟩
        refine hK.out _ _ (fun _ => hS) ?_
        clear hK K
        try simp only [Act.put, List.setIfInBounds_toArray, List.set_cons_zero, List.set_cons_succ, List.getElem_toArray, List.getElem_cons_zero, List.getElem_cons_succ]
        clear O_g2 e1_g2 e2_g2
        obtain rfl : r1 = true := Hr1.out.2 rfl
        clear Hr1
        refine wpN_take (i := 31) (v := ?_) rfl (by kernel_rfl) (fun _ _ _ h => h) hS (Or.inl ⟨by rfl, ?_⟩) ?_
        rotate_left; focus (intro wS hSw; (try dsimp only at hSw); go_simp; (try with_reducible rfl))
        try simp only [Act.put, List.setIfInBounds_toArray, List.set_cons_zero, List.set_cons_succ, List.getElem_toArray, List.getElem_cons_zero, List.getElem_cons_succ]
        refine wpN_take (i := 32) (v := ?_) rfl (by kernel_rfl) (fun _ _ _ h => h) hS (Or.inl ⟨by rfl, ?_⟩) ?_
        rotate_left; focus (intro wS hSw; (try dsimp only at hSw); go_simp; (try with_reducible rfl))
        try simp only [Act.put, List.setIfInBounds_toArray, List.set_cons_zero, List.set_cons_succ, List.getElem_toArray, List.getElem_cons_zero, List.getElem_cons_succ]
        refine wpN_take (i := 33) (v := ?_) rfl (by kernel_rfl) (fun _ _ _ h => h) hS (Or.inl ⟨by rfl, ?_⟩) ?_
        rotate_left; focus (intro wS hSw; (try dsimp only at hSw); go_simp; (try with_reducible rfl))
        try simp only [Act.put, List.setIfInBounds_toArray, List.set_cons_zero, List.set_cons_succ, List.getElem_toArray, List.getElem_cons_zero, List.getElem_cons_succ]
        refine wpN_take (i := 34) (v := ?_) rfl (by kernel_rfl) (fun _ _ _ h => h) hS (Or.inl ⟨by rfl, ?_⟩) ?_
        rotate_left; focus (intro wS hSw; (try dsimp only at hSw); go_simp; (try with_reducible rfl))
        try simp only [Act.put, List.setIfInBounds_toArray, List.set_cons_zero, List.set_cons_succ, List.getElem_toArray, List.getElem_cons_zero, List.getElem_cons_succ]
        refine wpN_take (i := 36) (v := ?_) rfl (by kernel_rfl) (fun _ _ _ h => h) hS (Or.inl ⟨by rfl, ?_⟩) ?_
        rotate_left; focus (intro wS hSw; (try dsimp only at hSw); go_simp; (try with_reducible rfl))
        try simp only [Act.put, List.setIfInBounds_toArray, List.set_cons_zero, List.set_cons_succ, List.getElem_toArray, List.getElem_cons_zero, List.getElem_cons_succ]
        refine wpN_step (i := 35) (by kernel_rfl) rfl (fun K hK => ?_)
        go_simp
        refine (of_any e3_g2.out g2 (by have := Hs2.out; omega) (Keep.refl _ _)).mono ?_
        rintro e g3 ⟨so, do', rfl, hT, hbx0⟩
        have hbx : Below g2.heap.size g2 g3 := hbx0
        clear hbx0
        have x0_g3 := x0_g2.below hbx
        have x1_g3 := x1_g2.below hbx
        have x2_g3 := x2_g2.below hbx
        have yp_g3 := yp_g2.below hbx
        have yq_g3 := yq_g2.below hbx
        have ye1_g3 := ye1_g2.below hbx
        have ye2_g3 := ye2_g2.below hbx
        have ye3_g3 := ye3_g2.below hbx
        have ye4_g3 := ye4_g2.below hbx
        have T_g3 := Lib.hid (T_g2.out.bel hbx)
        have U_g3 := Lib.hid (U_g2.out.bel hbx)
        have x_g3 := Lib.hid (x_g2.out.bel hbx)
        have e3_g3 := Lib.hid (e3_g2.out.bel hbx)
        have e4_g3 := Lib.hid (e4_g2.out.bel hbx)
        have C_g3 := Lib.hid (C_g2.out.bel hbx)
        have M_g3 := Lib.hid (M_g2.out.bel hbx)
        have X_g3 := Lib.hid (X_g2.out.bel hbx)
        have VC_g3 := Lib.hid (VC_g2.out.bel hbx)
        have VM_g3 := Lib.hid (VM_g2.out.bel hbx)
        have c_g3 := Lib.hid (c_g2.out.bel hbx)
        have B_g3 := B_g2.trans (hbx.mono B_g2.size)
        clear x0_g2 x1_g2 x2_g2 yp_g2 yq_g2 ye1_g2 ye2_g2 ye3_g2 ye4_g2 T_g2 U_g2 x_g2 e3_g2 e4_g2 C_g2 M_g2 X_g2 VC_g2 VM_g2 c_g2 B_g2 hbx
        have hS : (g3).cell? ⟨e1p, 0, none⟩ = some (.slice e1_a z1_n e1_c) ∧ (g3).cell? ⟨e1p, 1, none⟩ = some (.int .i64 z1_d) ∧ (g3).cell? ⟨e2p, 0, none⟩ = some (.slice e2_a z1_n e2_c) ∧ (g3).cell? ⟨e2p, 1, none⟩ = some (.int .i64 z1_d) ∧ (g3).cell? ⟨e3p, 0, none⟩ = some (.slice e3_a z2_n e3_c) ∧ (g3).cell? ⟨e3p, 1, none⟩ = some (.int .i64 z2_d) ∧ (g3).cell? ⟨e4p, 0, none⟩ = some (.slice e4_a z2_n e4_c) ∧ (g3).cell? ⟨e4p, 1, none⟩ = some (.int .i64 z2_d) := ⟨ye1_g3.cell rfl, ye1_g3.cell rfl, ye2_g3.cell rfl, ye2_g3.cell rfl, ye3_g3.cell rfl, ye3_g3.cell rfl, ye4_g3.cell rfl, ye4_g3.cell rfl⟩
        refine hK.out _ _ (fun _ => hS) ?_
        clear hK K
        try simp only [Act.put, List.setIfInBounds_toArray, List.set_cons_zero, List.set_cons_succ, List.getElem_toArray, List.getElem_cons_zero, List.getElem_cons_succ]
        have O_g3 := Lib.hid hT.trueb; clear hT
        refine wpN_step (i := 37) (by kernel_rfl) rfl (fun K hK => ?_)
        go_simp
        refine (same_r O_g3.out e4_g3.out g3 (Keep.refl _ _) (Keep.refl _ _)).mono ?_
        intro e g4 h
        obtain ⟨r1, Hr1, rfl, hbx0⟩ := of_retB' h
        clear h
        have hbx : Below g3.heap.size g3 g4 := hbx0
        clear hbx0
        have x0_g4 := x0_g3.below hbx
        have x1_g4 := x1_g3.below hbx
        have x2_g4 := x2_g3.below hbx
        have yp_g4 := yp_g3.below hbx
        have yq_g4 := yq_g3.below hbx
        have ye1_g4 := ye1_g3.below hbx
        have ye2_g4 := ye2_g3.below hbx
        have ye3_g4 := ye3_g3.below hbx
        have ye4_g4 := ye4_g3.below hbx
        have T_g4 := Lib.hid (T_g3.out.bel hbx)
        have U_g4 := Lib.hid (U_g3.out.bel hbx)
        have x_g4 := Lib.hid (x_g3.out.bel hbx)
        have e3_g4 := Lib.hid (e3_g3.out.bel hbx)
        have e4_g4 := Lib.hid (e4_g3.out.bel hbx)
        have C_g4 := Lib.hid (C_g3.out.bel hbx)
        have M_g4 := Lib.hid (M_g3.out.bel hbx)
        have X_g4 := Lib.hid (X_g3.out.bel hbx)
        have VC_g4 := Lib.hid (VC_g3.out.bel hbx)
        have VM_g4 := Lib.hid (VM_g3.out.bel hbx)
        have c_g4 := Lib.hid (c_g3.out.bel hbx)
        have O_g4 := Lib.hid (O_g3.out.bel hbx)
        have B_g4 := B_g3.trans (hbx.mono B_g3.size)
        clear x0_g3 x1_g3 x2_g3 yp_g3 yq_g3 ye1_g3 ye2_g3 ye3_g3 ye4_g3 T_g3 U_g3 x_g3 e3_g3 e4_g3 C_g3 M_g3 X_g3 VC_g3 VM_g3 c_g3 O_g3 B_g3 hbx
        have hS : (g4).cell? ⟨e1p, 0, none⟩ = some (.slice e1_a z1_n e1_c) ∧ (g4).cell? ⟨e1p, 1, none⟩ = some (.int .i64 z1_d) ∧ (g4).cell? ⟨e2p, 0, none⟩ = some (.slice e2_a z1_n e2_c) ∧ (g4).cell? ⟨e2p, 1, none⟩ = some (.int .i64 z1_d) ∧ (g4).cell? ⟨e3p, 0, none⟩ = some (.slice e3_a z2_n e3_c) ∧ (g4).cell? ⟨e3p, 1, none⟩ = some (.int .i64 z2_d) ∧ (g4).cell? ⟨e4p, 0, none⟩ = some (.slice e4_a z2_n e4_c) ∧ (g4).cell? ⟨e4p, 1, none⟩ = some (.int .i64 z2_d) := ⟨ye1_g4.cell rfl, ye1_g4.cell rfl, ye2_g4.cell rfl, ye2_g4.cell rfl, ye3_g4.cell rfl, ye3_g4.cell rfl, ye4_g4.cell rfl, ye4_g4.cell rfl⟩
        refine hK.out _ _ (fun _ => hS) ?_
        clear hK K
        try simp only [Act.put, List.setIfInBounds_toArray, List.set_cons_zero, List.set_cons_succ, List.getElem_toArray, List.getElem_cons_zero, List.getElem_cons_succ]
        clear O_g4 e3_g4
        obtain rfl : r1 = true := Hr1.out.2 rfl
        clear Hr1
        refine wpN_take (i := 38) (v := ?_) rfl (by kernel_rfl) (fun _ _ _ h => h) hS (Or.inl ⟨by rfl, ?_⟩) ?_
        rotate_left; focus (intro wS hSw; (try dsimp only at hSw); go_simp; (try with_reducible rfl))
        try simp only [Act.put, List.setIfInBounds_toArray, List.set_cons_zero, List.set_cons_succ, List.getElem_toArray, List.getElem_cons_zero, List.getElem_cons_succ]
        refine wpN_take (i := 39) (v := ?_) rfl (by kernel_rfl) (fun _ _ _ h => h) hS (Or.inl ⟨by rfl, ?_⟩) ?_
        rotate_left; focus (intro wS hSw; (try dsimp only at hSw); go_simp; (try with_reducible rfl))
        try simp only [Act.put, List.setIfInBounds_toArray, List.set_cons_zero, List.set_cons_succ, List.getElem_toArray, List.getElem_cons_zero, List.getElem_cons_succ]
        refine wpN_done (by kernel_rfl) ?_
        refine NoPanic.normal ?_
        clear hS
        clear ye1_g4 ye2_g4 ye3_g4
        go_wp2_with fail
        refine wp_region_noPanic (wp_region_need (S := fun w' => w'.cell? ⟨w.heap.size, 0, none⟩ = some (.int .i64 b) ∧ w'.cell? ⟨w.heap.size, 1, none⟩ = some (.slice ca C.length cc) ∧ w'.cell? ⟨w.heap.size, 2, none⟩ = some (.slice ma M.length mc) ∧ w'.cell? ⟨w.heap.size + 1, 0, none⟩ = some (.slice t_pa t_n t_pc) ∧ w'.cell? ⟨w.heap.size + 1, 1, none⟩ = some (.int .i64 t_k) ∧ w'.cell? ⟨w.heap.size + 1, 2, none⟩ = some (.int .i64 t_i) ∧ w'.cell? ⟨w.heap.size + 1, 3, none⟩ = some (.slice t_qa t_m t_qc) ∧ w'.cell? ⟨w.heap.size + 1 + 1, 0, none⟩ = some (.slice ua u_n uc) ∧ w'.cell? ⟨w.heap.size + 1 + 1, 1, none⟩ = some (.int .i64 u_d) ∧ w'.cell? ⟨p, 0, none⟩ = some (.int .i64 b) ∧ w'.cell? ⟨p, 1, none⟩ = some (.slice V_ca C.length V_cc) ∧ w'.cell? ⟨p, 2, none⟩ = some (.slice V_ma M.length V_mc) ∧ w'.cell? ⟨q, 0, none⟩ = some (.slice x_pa t_n x_pc) ∧ w'.cell? ⟨q, 1, none⟩ = some (.int .i64 t_k) ∧ w'.cell? ⟨q, 2, none⟩ = some (.int .i64 t_i) ∧ w'.cell? ⟨q, 3, none⟩ = some (.slice x_qa t_m x_qc) ∧ w'.cell? ⟨e4p, 0, none⟩ = some (.slice e4_a z2_n e4_c) ∧ w'.cell? ⟨e4p, 1, none⟩ = some (.int .i64 z2_d)) (by kernel_rfl) ?_)
        have hS : (g4.drew).cell? ⟨w.heap.size, 0, none⟩ = some (.int .i64 b) ∧ (g4.drew).cell? ⟨w.heap.size, 1, none⟩ = some (.slice ca C.length cc) ∧ (g4.drew).cell? ⟨w.heap.size, 2, none⟩ = some (.slice ma M.length mc) ∧ (g4.drew).cell? ⟨w.heap.size + 1, 0, none⟩ = some (.slice t_pa t_n t_pc) ∧ (g4.drew).cell? ⟨w.heap.size + 1, 1, none⟩ = some (.int .i64 t_k) ∧ (g4.drew).cell? ⟨w.heap.size + 1, 2, none⟩ = some (.int .i64 t_i) ∧ (g4.drew).cell? ⟨w.heap.size + 1, 3, none⟩ = some (.slice t_qa t_m t_qc) ∧ (g4.drew).cell? ⟨w.heap.size + 1 + 1, 0, none⟩ = some (.slice ua u_n uc) ∧ (g4.drew).cell? ⟨w.heap.size + 1 + 1, 1, none⟩ = some (.int .i64 u_d) ∧ (g4.drew).cell? ⟨p, 0, none⟩ = some (.int .i64 b) ∧ (g4.drew).cell? ⟨p, 1, none⟩ = some (.slice V_ca C.length V_cc) ∧ (g4.drew).cell? ⟨p, 2, none⟩ = some (.slice V_ma M.length V_mc) ∧ (g4.drew).cell? ⟨q, 0, none⟩ = some (.slice x_pa t_n x_pc) ∧ (g4.drew).cell? ⟨q, 1, none⟩ = some (.int .i64 t_k) ∧ (g4.drew).cell? ⟨q, 2, none⟩ = some (.int .i64 t_i) ∧ (g4.drew).cell? ⟨q, 3, none⟩ = some (.slice x_qa t_m x_qc) ∧ (g4.drew).cell? ⟨e4p, 0, none⟩ = some (.slice e4_a z2_n e4_c) ∧ (g4.drew).cell? ⟨e4p, 1, none⟩ = some (.int .i64 z2_d) := ⟨x0_g4.drew.cell rfl, x0_g4.drew.cell rfl, x0_g4.drew.cell rfl, x1_g4.drew.cell rfl, x1_g4.drew.cell rfl, x1_g4.drew.cell rfl, x1_g4.drew.cell rfl, x2_g4.drew.cell rfl, x2_g4.drew.cell rfl, yp_g4.drew.cell rfl, yp_g4.drew.cell rfl, yp_g4.drew.cell rfl, yq_g4.drew.cell rfl, yq_g4.drew.cell rfl, yq_g4.drew.cell rfl, yq_g4.drew.cell rfl, ye4_g4.drew.cell rfl, ye4_g4.drew.cell rfl⟩
        refine wpN_take (i := 0) (v := ?_) rfl (by kernel_rfl) (fun _ _ _ h => h) hS (Or.inl ⟨by rfl, ?_⟩) ?_
        rotate_left; focus (intro wS hSw; (try dsimp only at hSw); go_simp; (try with_reducible rfl))
        try simp only [Act.put, List.setIfInBounds_toArray, List.set_cons_zero, List.set_cons_succ, List.getElem_toArray, List.getElem_cons_zero, List.getElem_cons_succ]
        refine wpN_take (i := 1) (v := ?_) rfl (by kernel_rfl) (fun _ _ _ h => h) hS (Or.inl ⟨by rfl, ?_⟩) ?_
        rotate_left; focus (intro wS hSw; (try dsimp only at hSw); go_simp; (try with_reducible rfl))
        try simp only [Act.put, List.setIfInBounds_toArray, List.set_cons_zero, List.set_cons_succ, List.getElem_toArray, List.getElem_cons_zero, List.getElem_cons_succ]
        refine wpN_take (i := 2) (v := ?_) rfl (by kernel_rfl) (fun _ _ _ h => h) hS (Or.inl ⟨by rfl, ?_⟩) ?_
        rotate_left; focus (intro wS hSw; (try dsimp only at hSw); go_simp; (try with_reducible rfl))
        try simp only [Act.put, List.setIfInBounds_toArray, List.set_cons_zero, List.set_cons_succ, List.getElem_toArray, List.getElem_cons_zero, List.getElem_cons_succ]
        refine wpN_take (i := 3) (v := ?_) rfl (by kernel_rfl) (fun _ _ _ h => h) hS (Or.inl ⟨by rfl, ?_⟩) ?_
        rotate_left; focus (intro wS hSw; (try dsimp only at hSw); go_simp; (try with_reducible rfl))
        try simp only [Act.put, List.setIfInBounds_toArray, List.set_cons_zero, List.set_cons_succ, List.getElem_toArray, List.getElem_cons_zero, List.getElem_cons_succ]
        refine wpN_take (i := 6) (v := ?_) rfl (by kernel_rfl) (fun _ _ _ h => h) hS (Or.inl ⟨by rfl, ?_⟩) ?_
        rotate_left; focus (intro wS hSw; (try dsimp only at hSw); go_simp; (try with_reducible rfl))
        try simp only [Act.put, List.setIfInBounds_toArray, List.set_cons_zero, List.set_cons_succ, List.getElem_toArray, List.getElem_cons_zero, List.getElem_cons_succ]
        refine wpN_take (i := 7) (v := ?_) rfl (by kernel_rfl) (fun _ _ _ h => h) hS (Or.inl ⟨by rfl, ?_⟩) ?_
        rotate_left; focus (intro wS hSw; (try dsimp only at hSw); go_simp; (try with_reducible rfl))
        try simp only [Act.put, List.setIfInBounds_toArray, List.set_cons_zero, List.set_cons_succ, List.getElem_toArray, List.getElem_cons_zero, List.getElem_cons_succ]
        refine wpN_take (i := 8) (v := ?_) rfl (by kernel_rfl) (fun _ _ _ h => h) hS (Or.inl ⟨by rfl, ?_⟩) ?_
        rotate_left; focus (intro wS hSw; (try dsimp only at hSw); go_simp; (try with_reducible rfl))
        try simp only [Act.put, List.setIfInBounds_toArray, List.set_cons_zero, List.set_cons_succ, List.getElem_toArray, List.getElem_cons_zero, List.getElem_cons_succ]
        refine wpN_take (i := 9) (v := ?_) rfl (by kernel_rfl) (fun _ _ _ h => h) hS (Or.inl ⟨by rfl, ?_⟩) ?_
        rotate_left; focus (intro wS hSw; (try dsimp only at hSw); go_simp; (try with_reducible rfl))
        try simp only [Act.put, List.setIfInBounds_toArray, List.set_cons_zero, List.set_cons_succ, List.getElem_toArray, List.getElem_cons_zero, List.getElem_cons_succ]
        refine wpN_step (i := 4) (by kernel_rfl) rfl (fun K hK => ?_)
        go_simp
        refine (to_any U_g4.out g4.drew (by have := Hus.out.1; omega) (Keep.refl _ _).drew).mono ?_
        rintro e h1 ⟨so, do', rfl, hT, hbx0⟩
        have hbx : Below g4.heap.size g4 h1 := (Below.refl _ _).drew.trans hbx0
        clear hbx0
        have x0_h1 := x0_g4.below hbx
        have x1_h1 := x1_g4.below hbx
        have x2_h1 := x2_g4.below hbx
        have yp_h1 := yp_g4.below hbx
        have yq_h1 := yq_g4.below hbx
        have ye4_h1 := ye4_g4.below hbx
        have T_h1 := Lib.hid (T_g4.out.bel hbx)
        have U_h1 := Lib.hid (U_g4.out.bel hbx)
        have x_h1 := Lib.hid (x_g4.out.bel hbx)
        have e4_h1 := Lib.hid (e4_g4.out.bel hbx)
        have C_h1 := Lib.hid (C_g4.out.bel hbx)
        have M_h1 := Lib.hid (M_g4.out.bel hbx)
        have X_h1 := Lib.hid (X_g4.out.bel hbx)
        have VC_h1 := Lib.hid (VC_g4.out.bel hbx)
        have VM_h1 := Lib.hid (VM_g4.out.bel hbx)
        have c_h1 := Lib.hid (c_g4.out.bel hbx)
        have B_h1 := B_g4.trans (hbx.mono B_g4.size)
        clear x0_g4 x1_g4 x2_g4 yp_g4 yq_g4 ye4_g4 T_g4 U_g4 x_g4 e4_g4 C_g4 M_g4 X_g4 VC_g4 VM_g4 c_g4 B_g4 hbx
        have hS : (h1).cell? ⟨w.heap.size, 0, none⟩ = some (.int .i64 b) ∧ (h1).cell? ⟨w.heap.size, 1, none⟩ = some (.slice ca C.length cc) ∧ (h1).cell? ⟨w.heap.size, 2, none⟩ = some (.slice ma M.length mc) ∧ (h1).cell? ⟨w.heap.size + 1, 0, none⟩ = some (.slice t_pa t_n t_pc) ∧ (h1).cell? ⟨w.heap.size + 1, 1, none⟩ = some (.int .i64 t_k) ∧ (h1).cell? ⟨w.heap.size + 1, 2, none⟩ = some (.int .i64 t_i) ∧ (h1).cell? ⟨w.heap.size + 1, 3, none⟩ = some (.slice t_qa t_m t_qc) ∧ (h1).cell? ⟨w.heap.size + 1 + 1, 0, none⟩ = some (.slice ua u_n uc) ∧ (h1).cell? ⟨w.heap.size + 1 + 1, 1, none⟩ = some (.int .i64 u_d) ∧ (h1).cell? ⟨p, 0, none⟩ = some (.int .i64 b) ∧ (h1).cell? ⟨p, 1, none⟩ = some (.slice V_ca C.length V_cc) ∧ (h1).cell? ⟨p, 2, none⟩ = some (.slice V_ma M.length V_mc) ∧ (h1).cell? ⟨q, 0, none⟩ = some (.slice x_pa t_n x_pc) ∧ (h1).cell? ⟨q, 1, none⟩ = some (.int .i64 t_k) ∧ (h1).cell? ⟨q, 2, none⟩ = some (.int .i64 t_i) ∧ (h1).cell? ⟨q, 3, none⟩ = some (.slice x_qa t_m x_qc) ∧ (h1).cell? ⟨e4p, 0, none⟩ = some (.slice e4_a z2_n e4_c) ∧ (h1).cell? ⟨e4p, 1, none⟩ = some (.int .i64 z2_d) := ⟨x0_h1.cell rfl, x0_h1.cell rfl, x0_h1.cell rfl, x1_h1.cell rfl, x1_h1.cell rfl, x1_h1.cell rfl, x1_h1.cell rfl, x2_h1.cell rfl, x2_h1.cell rfl, yp_h1.cell rfl, yp_h1.cell rfl, yp_h1.cell rfl, yq_h1.cell rfl, yq_h1.cell rfl, yq_h1.cell rfl, yq_h1.cell rfl, ye4_h1.cell rfl, ye4_h1.cell rfl⟩
        refine hK.out _ _ (fun _ => hS) ?_
        clear hK K
        try simp only [Act.put, List.setIfInBounds_toArray, List.set_cons_zero, List.set_cons_succ, List.getElem_toArray, List.getElem_cons_zero, List.getElem_cons_succ]
        have O_h1 := Lib.hid hT.trueb; clear hT
        refine wpN_step (i := 5) (by kernel_rfl) rfl (fun K hK => ?_)
        go_simp
        refine (Check_kT VC_h1.out VM_h1.out c_h1.out x_h1.out O_h1.out (by have := Hf.out.1; have := Hs.out.2.2.1; omega) Hfit.out).mono ?_
        rintro e h2 ⟨cA, HcA, rfl, hbx0⟩
        have hbx : Below h1.heap.size h1 h2 := hbx0
        clear hbx0
        have x0_h2 := x0_h1.below hbx
        have x1_h2 := x1_h1.below hbx
        have x2_h2 := x2_h1.below hbx
        have yp_h2 := yp_h1.below hbx
        have yq_h2 := yq_h1.below hbx
        have ye4_h2 := ye4_h1.below hbx
        have T_h2 := Lib.hid (T_h1.out.bel hbx)
        have U_h2 := Lib.hid (U_h1.out.bel hbx)
        have x_h2 := Lib.hid (x_h1.out.bel hbx)
        have e4_h2 := Lib.hid (e4_h1.out.bel hbx)
        have C_h2 := Lib.hid (C_h1.out.bel hbx)
        have M_h2 := Lib.hid (M_h1.out.bel hbx)
        have X_h2 := Lib.hid (X_h1.out.bel hbx)
        have VC_h2 := Lib.hid (VC_h1.out.bel hbx)
        have VM_h2 := Lib.hid (VM_h1.out.bel hbx)
        have c_h2 := Lib.hid (c_h1.out.bel hbx)
        have O_h2 := Lib.hid (O_h1.out.bel hbx)
        have B_h2 := B_h1.trans (hbx.mono B_h1.size)
        clear x0_h1 x1_h1 x2_h1 yp_h1 yq_h1 ye4_h1 T_h1 U_h1 x_h1 e4_h1 C_h1 M_h1 X_h1 VC_h1 VM_h1 c_h1 O_h1 B_h1 hbx
        have hS : (h2).cell? ⟨w.heap.size, 0, none⟩ = some (.int .i64 b) ∧ (h2).cell? ⟨w.heap.size, 1, none⟩ = some (.slice ca C.length cc) ∧ (h2).cell? ⟨w.heap.size, 2, none⟩ = some (.slice ma M.length mc) ∧ (h2).cell? ⟨w.heap.size + 1, 0, none⟩ = some (.slice t_pa t_n t_pc) ∧ (h2).cell? ⟨w.heap.size + 1, 1, none⟩ = some (.int .i64 t_k) ∧ (h2).cell? ⟨w.heap.size + 1, 2, none⟩ = some (.int .i64 t_i) ∧ (h2).cell? ⟨w.heap.size + 1, 3, none⟩ = some (.slice t_qa t_m t_qc) ∧ (h2).cell? ⟨w.heap.size + 1 + 1, 0, none⟩ = some (.slice ua u_n uc) ∧ (h2).cell? ⟨w.heap.size + 1 + 1, 1, none⟩ = some (.int .i64 u_d) ∧ (h2).cell? ⟨p, 0, none⟩ = some (.int .i64 b) ∧ (h2).cell? ⟨p, 1, none⟩ = some (.slice V_ca C.length V_cc) ∧ (h2).cell? ⟨p, 2, none⟩ = some (.slice V_ma M.length V_mc) ∧ (h2).cell? ⟨q, 0, none⟩ = some (.slice x_pa t_n x_pc) ∧ (h2).cell? ⟨q, 1, none⟩ = some (.int .i64 t_k) ∧ (h2).cell? ⟨q, 2, none⟩ = some (.int .i64 t_i) ∧ (h2).cell? ⟨q, 3, none⟩ = some (.slice x_qa t_m x_qc) ∧ (h2).cell? ⟨e4p, 0, none⟩ = some (.slice e4_a z2_n e4_c) ∧ (h2).cell? ⟨e4p, 1, none⟩ = some (.int .i64 z2_d) := ⟨x0_h2.cell rfl, x0_h2.cell rfl, x0_h2.cell rfl, x1_h2.cell rfl, x1_h2.cell rfl, x1_h2.cell rfl, x1_h2.cell rfl, x2_h2.cell rfl, x2_h2.cell rfl, yp_h2.cell rfl, yp_h2.cell rfl, yp_h2.cell rfl, yq_h2.cell rfl, yq_h2.cell rfl, yq_h2.cell rfl, yq_h2.cell rfl, ye4_h2.cell rfl, ye4_h2.cell rfl⟩
        refine hK.out _ _ (fun _ => hS) ?_
        clear hK K
        try simp only [Act.put, List.setIfInBounds_toArray, List.set_cons_zero, List.set_cons_succ, List.getElem_toArray, List.getElem_cons_zero, List.getElem_cons_succ]
        clear O_h2
        refine wpN_step (i := 10) (by kernel_rfl) rfl (fun K hK => ?_)
        go_simp
        refine (Check_rT C_h2.out M_h2.out X_h2.out T_h2.out U_h2.out (by have := Hf.out.1; have := Hs.out.2.2.1; omega) Hfit.out).mono ?_
        rintro e h3 ⟨cB, HcB, rfl, hbx0⟩
        have hbx : Below h2.heap.size h2 h3 := hbx0
        clear hbx0
        have x0_h3 := x0_h2.below hbx
        have x1_h3 := x1_h2.below hbx
        have x2_h3 := x2_h2.below hbx
        have yp_h3 := yp_h2.below hbx
        have yq_h3 := yq_h2.below hbx
        have ye4_h3 := ye4_h2.below hbx
        have T_h3 := Lib.hid (T_h2.out.bel hbx)
        have U_h3 := Lib.hid (U_h2.out.bel hbx)
        have x_h3 := Lib.hid (x_h2.out.bel hbx)
        have e4_h3 := Lib.hid (e4_h2.out.bel hbx)
        have C_h3 := Lib.hid (C_h2.out.bel hbx)
        have M_h3 := Lib.hid (M_h2.out.bel hbx)
        have X_h3 := Lib.hid (X_h2.out.bel hbx)
        have VC_h3 := Lib.hid (VC_h2.out.bel hbx)
        have VM_h3 := Lib.hid (VM_h2.out.bel hbx)
        have c_h3 := Lib.hid (c_h2.out.bel hbx)
        have B_h3 := B_h2.trans (hbx.mono B_h2.size)
        clear x0_h2 x1_h2 x2_h2 yp_h2 yq_h2 ye4_h2 T_h2 U_h2 x_h2 e4_h2 C_h2 M_h2 X_h2 VC_h2 VM_h2 c_h2 B_h2 hbx
        have hS : (h3).cell? ⟨w.heap.size, 0, none⟩ = some (.int .i64 b) ∧ (h3).cell? ⟨w.heap.size, 1, none⟩ = some (.slice ca C.length cc) ∧ (h3).cell? ⟨w.heap.size, 2, none⟩ = some (.slice ma M.length mc) ∧ (h3).cell? ⟨w.heap.size + 1, 0, none⟩ = some (.slice t_pa t_n t_pc) ∧ (h3).cell? ⟨w.heap.size + 1, 1, none⟩ = some (.int .i64 t_k) ∧ (h3).cell? ⟨w.heap.size + 1, 2, none⟩ = some (.int .i64 t_i) ∧ (h3).cell? ⟨w.heap.size + 1, 3, none⟩ = some (.slice t_qa t_m t_qc) ∧ (h3).cell? ⟨w.heap.size + 1 + 1, 0, none⟩ = some (.slice ua u_n uc) ∧ (h3).cell? ⟨w.heap.size + 1 + 1, 1, none⟩ = some (.int .i64 u_d) ∧ (h3).cell? ⟨p, 0, none⟩ = some (.int .i64 b) ∧ (h3).cell? ⟨p, 1, none⟩ = some (.slice V_ca C.length V_cc) ∧ (h3).cell? ⟨p, 2, none⟩ = some (.slice V_ma M.length V_mc) ∧ (h3).cell? ⟨q, 0, none⟩ = some (.slice x_pa t_n x_pc) ∧ (h3).cell? ⟨q, 1, none⟩ = some (.int .i64 t_k) ∧ (h3).cell? ⟨q, 2, none⟩ = some (.int .i64 t_i) ∧ (h3).cell? ⟨q, 3, none⟩ = some (.slice x_qa t_m x_qc) ∧ (h3).cell? ⟨e4p, 0, none⟩ = some (.slice e4_a z2_n e4_c) ∧ (h3).cell? ⟨e4p, 1, none⟩ = some (.int .i64 z2_d) := ⟨x0_h3.cell rfl, x0_h3.cell rfl, x0_h3.cell rfl, x1_h3.cell rfl, x1_h3.cell rfl, x1_h3.cell rfl, x1_h3.cell rfl, x2_h3.cell rfl, x2_h3.cell rfl, yp_h3.cell rfl, yp_h3.cell rfl, yp_h3.cell rfl, yq_h3.cell rfl, yq_h3.cell rfl, yq_h3.cell rfl, yq_h3.cell rfl, ye4_h3.cell rfl, ye4_h3.cell rfl⟩
        refine hK.out _ _ (fun _ => hS) ?_
        clear hK K
        try simp only [Act.put, List.setIfInBounds_toArray, List.set_cons_zero, List.set_cons_succ, List.getElem_toArray, List.getElem_cons_zero, List.getElem_cons_succ]
        obtain rfl : cB = cA := checkCode_uniq HcB.out HcA.out
        clear HcA HcB
        refine wpN_take (i := 11) (v := ?_) rfl (by kernel_rfl) (fun _ _ _ h => h) hS (Or.inl ⟨by rfl, ?_⟩) ?_
        rotate_left; focus (intro wS hSw; (try dsimp only at hSw); go_simp; (try with_reducible rfl))
        try simp only [Act.put, List.setIfInBounds_toArray, List.set_cons_zero, List.set_cons_succ, List.getElem_toArray, List.getElem_cons_zero, List.getElem_cons_succ]
        refine wpN_take (i := 12) (v := ?_) rfl (by kernel_rfl) (fun _ _ _ h => h) hS (Or.inl ⟨by rfl, ?_⟩) ?_
        rotate_left; focus (intro wS hSw; (try dsimp only at hSw); go_simp; (try with_reducible rfl))
        try simp only [Act.put, List.setIfInBounds_toArray, List.set_cons_zero, List.set_cons_succ, List.getElem_toArray, List.getElem_cons_zero, List.getElem_cons_succ]
        refine wpN_take (i := 13) (v := ?_) rfl (by kernel_rfl) (fun _ _ _ h => h) hS (Or.inl ⟨by rfl, ?_⟩) ?_
        rotate_left; focus (intro wS hSw; (try dsimp only at hSw); go_simp; (try with_reducible rfl))
        try simp only [Act.put, List.setIfInBounds_toArray, List.set_cons_zero, List.set_cons_succ, List.getElem_toArray, List.getElem_cons_zero, List.getElem_cons_succ]
        refine wpN_take (i := 14) (v := ?_) rfl (by kernel_rfl) (fun _ _ _ h => h) hS (Or.inl ⟨by rfl, ?_⟩) ?_
        rotate_left; focus (intro wS hSw; (try dsimp only at hSw); go_simp; (try with_reducible rfl))
        try simp only [Act.put, List.setIfInBounds_toArray, List.set_cons_zero, List.set_cons_succ, List.getElem_toArray, List.getElem_cons_zero, List.getElem_cons_succ]
        refine wpN_take (i := 15) (v := ?_) rfl (by kernel_rfl) (fun _ _ _ h => h) hS (Or.inl ⟨by rfl, ?_⟩) ?_
        rotate_left; focus (intro wS hSw; (try dsimp only at hSw); go_simp; (try with_reducible rfl))
        try simp only [Act.put, List.setIfInBounds_toArray, List.set_cons_zero, List.set_cons_succ, List.getElem_toArray, List.getElem_cons_zero, List.getElem_cons_succ]
        refine wpN_take (i := 16) (v := ?_) rfl (by kernel_rfl) (fun _ _ _ h => h) hS (Or.inl ⟨by rfl, ?_⟩) ?_
        rotate_left; focus (intro wS hSw; (try dsimp only at hSw); go_simp; (try with_reducible rfl))
        try simp only [Act.put, List.setIfInBounds_toArray, List.set_cons_zero, List.set_cons_succ, List.getElem_toArray, List.getElem_cons_zero, List.getElem_cons_succ]
        refine wpN_take (i := 17) (v := ?_) rfl (by kernel_rfl) (fun _ _ _ h => h) hS (Or.inl ⟨by rfl, ?_⟩) ?_
        rotate_left; focus (intro wS hSw; (try dsimp only at hSw); go_simp; (try with_reducible rfl))
        try simp only [Act.put, List.setIfInBounds_toArray, List.set_cons_zero, List.set_cons_succ, List.getElem_toArray, List.getElem_cons_zero, List.getElem_cons_succ]
        refine wpN_take (i := 18) (v := ?_) rfl (by kernel_rfl) (fun _ _ _ h => h) hS (Or.inl ⟨by rfl, ?_⟩) ?_
        rotate_left; focus (intro wS hSw; (try dsimp only at hSw); go_simp; (try with_reducible rfl))
        try simp only [Act.put, List.setIfInBounds_toArray, List.set_cons_zero, List.set_cons_succ, List.getElem_toArray, List.getElem_cons_zero, List.getElem_cons_succ]
        refine wpN_take (i := 21) (v := ?_) rfl (by kernel_rfl) (fun _ _ _ h => h) hS (Or.inl ⟨by rfl, ?_⟩) ?_
        rotate_left; focus (intro wS hSw; (try dsimp only at hSw); go_simp; (try with_reducible rfl))
        try simp only [Act.put, List.setIfInBounds_toArray, List.set_cons_zero, List.set_cons_succ, List.getElem_toArray, List.getElem_cons_zero, List.getElem_cons_succ]
        refine wpN_take (i := 22) (v := ?_) rfl (by kernel_rfl) (fun _ _ _ h => h) hS (Or.inl ⟨by rfl, ?_⟩) ?_
        rotate_left; focus (intro wS hSw; (try dsimp only at hSw); go_simp; (try with_reducible rfl))
        try simp only [Act.put, List.setIfInBounds_toArray, List.set_cons_zero, List.set_cons_succ, List.getElem_toArray, List.getElem_cons_zero, List.getElem_cons_succ]
        refine wpN_take (i := 23) (v := ?_) rfl (by kernel_rfl) (fun _ _ _ h => h) hS (Or.inl ⟨by rfl, ?_⟩) ?_
        rotate_left; focus (intro wS hSw; (try dsimp only at hSw); go_simp; (try with_reducible rfl))
        try simp only [Act.put, List.setIfInBounds_toArray, List.set_cons_zero, List.set_cons_succ, List.getElem_toArray, List.getElem_cons_zero, List.getElem_cons_succ]
        refine wpN_take (i := 24) (v := ?_) rfl (by kernel_rfl) (fun _ _ _ h => h) hS (Or.inl ⟨by rfl, ?_⟩) ?_
        rotate_left; focus (intro wS hSw; (try dsimp only at hSw); go_simp; (try with_reducible rfl))
        try simp only [Act.put, List.setIfInBounds_toArray, List.set_cons_zero, List.set_cons_succ, List.getElem_toArray, List.getElem_cons_zero, List.getElem_cons_succ]
        refine wpN_step (i := 19) (by kernel_rfl) rfl (fun K hK => ?_)
        go_simp
        refine (to_any e4_h3.out h3 (by have := Hs2.out; omega) (Keep.refl _ _)).mono ?_
        rintro e h4 ⟨so, do', rfl, hT, hbx0⟩
        have hbx : Below h3.heap.size h3 h4 := hbx0
        clear hbx0
        have x0_h4 := x0_h3.below hbx
        have x1_h4 := x1_h3.below hbx
        have x2_h4 := x2_h3.below hbx
        have yp_h4 := yp_h3.below hbx
        have yq_h4 := yq_h3.below hbx
        have ye4_h4 := ye4_h3.below hbx
        have T_h4 := Lib.hid (T_h3.out.bel hbx)
        have U_h4 := Lib.hid (U_h3.out.bel hbx)
        have x_h4 := Lib.hid (x_h3.out.bel hbx)
        have e4_h4 := Lib.hid (e4_h3.out.bel hbx)
        have C_h4 := Lib.hid (C_h3.out.bel hbx)
        have M_h4 := Lib.hid (M_h3.out.bel hbx)
        have X_h4 := Lib.hid (X_h3.out.bel hbx)
        have VC_h4 := Lib.hid (VC_h3.out.bel hbx)
        have VM_h4 := Lib.hid (VM_h3.out.bel hbx)
        have c_h4 := Lib.hid (c_h3.out.bel hbx)
        have B_h4 := B_h3.trans (hbx.mono B_h3.size)
        clear x0_h3 x1_h3 x2_h3 yp_h3 yq_h3 ye4_h3 T_h3 U_h3 x_h3 e4_h3 C_h3 M_h3 X_h3 VC_h3 VM_h3 c_h3 B_h3 hbx
        have hS : (h4).cell? ⟨w.heap.size, 0, none⟩ = some (.int .i64 b) ∧ (h4).cell? ⟨w.heap.size, 1, none⟩ = some (.slice ca C.length cc) ∧ (h4).cell? ⟨w.heap.size, 2, none⟩ = some (.slice ma M.length mc) ∧ (h4).cell? ⟨w.heap.size + 1, 0, none⟩ = some (.slice t_pa t_n t_pc) ∧ (h4).cell? ⟨w.heap.size + 1, 1, none⟩ = some (.int .i64 t_k) ∧ (h4).cell? ⟨w.heap.size + 1, 2, none⟩ = some (.int .i64 t_i) ∧ (h4).cell? ⟨w.heap.size + 1, 3, none⟩ = some (.slice t_qa t_m t_qc) ∧ (h4).cell? ⟨w.heap.size + 1 + 1, 0, none⟩ = some (.slice ua u_n uc) ∧ (h4).cell? ⟨w.heap.size + 1 + 1, 1, none⟩ = some (.int .i64 u_d) ∧ (h4).cell? ⟨p, 0, none⟩ = some (.int .i64 b) ∧ (h4).cell? ⟨p, 1, none⟩ = some (.slice V_ca C.length V_cc) ∧ (h4).cell? ⟨p, 2, none⟩ = some (.slice V_ma M.length V_mc) ∧ (h4).cell? ⟨q, 0, none⟩ = some (.slice x_pa t_n x_pc) ∧ (h4).cell? ⟨q, 1, none⟩ = some (.int .i64 t_k) ∧ (h4).cell? ⟨q, 2, none⟩ = some (.int .i64 t_i) ∧ (h4).cell? ⟨q, 3, none⟩ = some (.slice x_qa t_m x_qc) ∧ (h4).cell? ⟨e4p, 0, none⟩ = some (.slice e4_a z2_n e4_c) ∧ (h4).cell? ⟨e4p, 1, none⟩ = some (.int .i64 z2_d) := ⟨x0_h4.cell rfl, x0_h4.cell rfl, x0_h4.cell rfl, x1_h4.cell rfl, x1_h4.cell rfl, x1_h4.cell rfl, x1_h4.cell rfl, x2_h4.cell rfl, x2_h4.cell rfl, yp_h4.cell rfl, yp_h4.cell rfl, yp_h4.cell rfl, yq_h4.cell rfl, yq_h4.cell rfl, yq_h4.cell rfl, yq_h4.cell rfl, ye4_h4.cell rfl, ye4_h4.cell rfl⟩
        refine hK.out _ _ (fun _ => hS) ?_
        clear hK K
        try simp only [Act.put, List.setIfInBounds_toArray, List.set_cons_zero, List.set_cons_succ, List.getElem_toArray, List.getElem_cons_zero, List.getElem_cons_succ]
        have O_h4 := Lib.hid hT.trueb; clear hT
        refine wpN_step (i := 20) (by kernel_rfl) rfl (fun K hK => ?_)
        go_simp
        refine (Check_kT VC_h4.out VM_h4.out c_h4.out x_h4.out O_h4.out (by have := Hf.out.1; have := Hs.out.2.2.1; omega) Hfit.out).mono ?_
        rintro e h5 ⟨cC, HcC, rfl, hbx0⟩
        have hbx : Below h4.heap.size h4 h5 := hbx0
        clear hbx0
        have x0_h5 := x0_h4.below hbx
        have x1_h5 := x1_h4.below hbx
        have x2_h5 := x2_h4.below hbx
        have yp_h5 := yp_h4.below hbx
        have yq_h5 := yq_h4.below hbx
        have ye4_h5 := ye4_h4.below hbx
        have T_h5 := Lib.hid (T_h4.out.bel hbx)
        have U_h5 := Lib.hid (U_h4.out.bel hbx)
        have x_h5 := Lib.hid (x_h4.out.bel hbx)
        have e4_h5 := Lib.hid (e4_h4.out.bel hbx)
        have C_h5 := Lib.hid (C_h4.out.bel hbx)
        have M_h5 := Lib.hid (M_h4.out.bel hbx)
        have X_h5 := Lib.hid (X_h4.out.bel hbx)
        have VC_h5 := Lib.hid (VC_h4.out.bel hbx)
        have VM_h5 := Lib.hid (VM_h4.out.bel hbx)
        have c_h5 := Lib.hid (c_h4.out.bel hbx)
        have O_h5 := Lib.hid (O_h4.out.bel hbx)
        have B_h5 := B_h4.trans (hbx.mono B_h4.size)
        clear x0_h4 x1_h4 x2_h4 yp_h4 yq_h4 ye4_h4 T_h4 U_h4 x_h4 e4_h4 C_h4 M_h4 X_h4 VC_h4 VM_h4 c_h4 O_h4 B_h4 hbx
        have hS : (h5).cell? ⟨w.heap.size, 0, none⟩ = some (.int .i64 b) ∧ (h5).cell? ⟨w.heap.size, 1, none⟩ = some (.slice ca C.length cc) ∧ (h5).cell? ⟨w.heap.size, 2, none⟩ = some (.slice ma M.length mc) ∧ (h5).cell? ⟨w.heap.size + 1, 0, none⟩ = some (.slice t_pa t_n t_pc) ∧ (h5).cell? ⟨w.heap.size + 1, 1, none⟩ = some (.int .i64 t_k) ∧ (h5).cell? ⟨w.heap.size + 1, 2, none⟩ = some (.int .i64 t_i) ∧ (h5).cell? ⟨w.heap.size + 1, 3, none⟩ = some (.slice t_qa t_m t_qc) ∧ (h5).cell? ⟨w.heap.size + 1 + 1, 0, none⟩ = some (.slice ua u_n uc) ∧ (h5).cell? ⟨w.heap.size + 1 + 1, 1, none⟩ = some (.int .i64 u_d) ∧ (h5).cell? ⟨p, 0, none⟩ = some (.int .i64 b) ∧ (h5).cell? ⟨p, 1, none⟩ = some (.slice V_ca C.length V_cc) ∧ (h5).cell? ⟨p, 2, none⟩ = some (.slice V_ma M.length V_mc) ∧ (h5).cell? ⟨q, 0, none⟩ = some (.slice x_pa t_n x_pc) ∧ (h5).cell? ⟨q, 1, none⟩ = some (.int .i64 t_k) ∧ (h5).cell? ⟨q, 2, none⟩ = some (.int .i64 t_i) ∧ (h5).cell? ⟨q, 3, none⟩ = some (.slice x_qa t_m x_qc) ∧ (h5).cell? ⟨e4p, 0, none⟩ = some (.slice e4_a z2_n e4_c) ∧ (h5).cell? ⟨e4p, 1, none⟩ = some (.int .i64 z2_d) := ⟨x0_h5.cell rfl, x0_h5.cell rfl, x0_h5.cell rfl, x1_h5.cell rfl, x1_h5.cell rfl, x1_h5.cell rfl, x1_h5.cell rfl, x2_h5.cell rfl, x2_h5.cell rfl, yp_h5.cell rfl, yp_h5.cell rfl, yp_h5.cell rfl, yq_h5.cell rfl, yq_h5.cell rfl, yq_h5.cell rfl, yq_h5.cell rfl, ye4_h5.cell rfl, ye4_h5.cell rfl⟩
        refine hK.out _ _ (fun _ => hS) ?_
        clear hK K
        try simp only [Act.put, List.setIfInBounds_toArray, List.set_cons_zero, List.set_cons_succ, List.getElem_toArray, List.getElem_cons_zero, List.getElem_cons_succ]
        clear O_h5
        refine wpN_step (i := 25) (by kernel_rfl) rfl (fun K hK => ?_)
        go_simp
        refine (Check_rT C_h5.out M_h5.out X_h5.out T_h5.out e4_h5.out (by have := Hf.out.1; have := Hs.out.2.2.1; omega) Hfit.out).mono ?_
        rintro e h6 ⟨cD, HcD, rfl, hbx0⟩
        have hbx : Below h5.heap.size h5 h6 := hbx0
        clear hbx0
        have x0_h6 := x0_h5.below hbx
        have x1_h6 := x1_h5.below hbx
        have x2_h6 := x2_h5.below hbx
        have yp_h6 := yp_h5.below hbx
        have yq_h6 := yq_h5.below hbx
        have ye4_h6 := ye4_h5.below hbx
        have T_h6 := Lib.hid (T_h5.out.bel hbx)
        have U_h6 := Lib.hid (U_h5.out.bel hbx)
        have x_h6 := Lib.hid (x_h5.out.bel hbx)
        have e4_h6 := Lib.hid (e4_h5.out.bel hbx)
        have C_h6 := Lib.hid (C_h5.out.bel hbx)
        have M_h6 := Lib.hid (M_h5.out.bel hbx)
        have X_h6 := Lib.hid (X_h5.out.bel hbx)
        have VC_h6 := Lib.hid (VC_h5.out.bel hbx)
        have VM_h6 := Lib.hid (VM_h5.out.bel hbx)
        have c_h6 := Lib.hid (c_h5.out.bel hbx)
        have B_h6 := B_h5.trans (hbx.mono B_h5.size)
        clear x0_h5 x1_h5 x2_h5 yp_h5 yq_h5 ye4_h5 T_h5 U_h5 x_h5 e4_h5 C_h5 M_h5 X_h5 VC_h5 VM_h5 c_h5 B_h5 hbx
        have hS : (h6).cell? ⟨w.heap.size, 0, none⟩ = some (.int .i64 b) ∧ (h6).cell? ⟨w.heap.size, 1, none⟩ = some (.slice ca C.length cc) ∧ (h6).cell? ⟨w.heap.size, 2, none⟩ = some (.slice ma M.length mc) ∧ (h6).cell? ⟨w.heap.size + 1, 0, none⟩ = some (.slice t_pa t_n t_pc) ∧ (h6).cell? ⟨w.heap.size + 1, 1, none⟩ = some (.int .i64 t_k) ∧ (h6).cell? ⟨w.heap.size + 1, 2, none⟩ = some (.int .i64 t_i) ∧ (h6).cell? ⟨w.heap.size + 1, 3, none⟩ = some (.slice t_qa t_m t_qc) ∧ (h6).cell? ⟨w.heap.size + 1 + 1, 0, none⟩ = some (.slice ua u_n uc) ∧ (h6).cell? ⟨w.heap.size + 1 + 1, 1, none⟩ = some (.int .i64 u_d) ∧ (h6).cell? ⟨p, 0, none⟩ = some (.int .i64 b) ∧ (h6).cell? ⟨p, 1, none⟩ = some (.slice V_ca C.length V_cc) ∧ (h6).cell? ⟨p, 2, none⟩ = some (.slice V_ma M.length V_mc) ∧ (h6).cell? ⟨q, 0, none⟩ = some (.slice x_pa t_n x_pc) ∧ (h6).cell? ⟨q, 1, none⟩ = some (.int .i64 t_k) ∧ (h6).cell? ⟨q, 2, none⟩ = some (.int .i64 t_i) ∧ (h6).cell? ⟨q, 3, none⟩ = some (.slice x_qa t_m x_qc) ∧ (h6).cell? ⟨e4p, 0, none⟩ = some (.slice e4_a z2_n e4_c) ∧ (h6).cell? ⟨e4p, 1, none⟩ = some (.int .i64 z2_d) := ⟨x0_h6.cell rfl, x0_h6.cell rfl, x0_h6.cell rfl, x1_h6.cell rfl, x1_h6.cell rfl, x1_h6.cell rfl, x1_h6.cell rfl, x2_h6.cell rfl, x2_h6.cell rfl, yp_h6.cell rfl, yp_h6.cell rfl, yp_h6.cell rfl, yq_h6.cell rfl, yq_h6.cell rfl, yq_h6.cell rfl, yq_h6.cell rfl, ye4_h6.cell rfl, ye4_h6.cell rfl⟩
        refine hK.out _ _ (fun _ => hS) ?_
        clear hK K
        try simp only [Act.put, List.setIfInBounds_toArray, List.set_cons_zero, List.set_cons_succ, List.getElem_toArray, List.getElem_cons_zero, List.getElem_cons_succ]
        obtain rfl : cD = cC := checkCode_uniq HcD.out HcC.out
        clear HcC HcD
        refine wpN_take (i := 26) (v := ?_) rfl (by kernel_rfl) (fun _ _ _ h => h) hS (Or.inl ⟨by rfl, ?_⟩) ?_
        rotate_left; focus (intro wS hSw; (try dsimp only at hSw); go_simp; (try with_reducible rfl))
        try simp only [Act.put, List.setIfInBounds_toArray, List.set_cons_zero, List.set_cons_succ, List.getElem_toArray, List.getElem_cons_zero, List.getElem_cons_succ]
        refine wpN_take (i := 27) (v := ?_) rfl (by kernel_rfl) (fun _ _ _ h => h) hS (Or.inl ⟨by rfl, ?_⟩) ?_
        rotate_left; focus (intro wS hSw; (try dsimp only at hSw); go_simp; (try with_reducible rfl))
        try simp only [Act.put, List.setIfInBounds_toArray, List.set_cons_zero, List.set_cons_succ, List.getElem_toArray, List.getElem_cons_zero, List.getElem_cons_succ]
        refine wpN_take (i := 28) (v := ?_) rfl (by kernel_rfl) (fun _ _ _ h => h) hS (Or.inl ⟨by rfl, ?_⟩) ?_
        rotate_left; focus (intro wS hSw; (try dsimp only at hSw); go_simp; (try with_reducible rfl))
        try simp only [Act.put, List.setIfInBounds_toArray, List.set_cons_zero, List.set_cons_succ, List.getElem_toArray, List.getElem_cons_zero, List.getElem_cons_succ]
        refine wpN_done (by kernel_rfl) ?_
        refine NoPanic.normal ?_
        clear hS
        go_wp2_with fail
        refine wp_region_noPanic (wp_region_need (S := fun w' => w'.cell? ⟨w.heap.size, 0, none⟩ = some (.int .i64 b) ∧ w'.cell? ⟨w.heap.size, 1, none⟩ = some (.slice ca C.length cc) ∧ w'.cell? ⟨w.heap.size, 2, none⟩ = some (.slice ma M.length mc) ∧ w'.cell? ⟨p, 0, none⟩ = some (.int .i64 b) ∧ w'.cell? ⟨p, 1, none⟩ = some (.slice V_ca C.length V_cc) ∧ w'.cell? ⟨p, 2, none⟩ = some (.slice V_ma M.length V_mc)) (by kernel_rfl) ?_)
        have hS : (h6.drew).cell? ⟨w.heap.size, 0, none⟩ = some (.int .i64 b) ∧ (h6.drew).cell? ⟨w.heap.size, 1, none⟩ = some (.slice ca C.length cc) ∧ (h6.drew).cell? ⟨w.heap.size, 2, none⟩ = some (.slice ma M.length mc) ∧ (h6.drew).cell? ⟨p, 0, none⟩ = some (.int .i64 b) ∧ (h6.drew).cell? ⟨p, 1, none⟩ = some (.slice V_ca C.length V_cc) ∧ (h6.drew).cell? ⟨p, 2, none⟩ = some (.slice V_ma M.length V_mc) := ⟨x0_h6.drew.cell rfl, x0_h6.drew.cell rfl, x0_h6.drew.cell rfl, yp_h6.drew.cell rfl, yp_h6.drew.cell rfl, yp_h6.drew.cell rfl⟩
        refine wpN_step (i := 0) (by kernel_rfl) rfl (fun K hK => ?_)
        go_simp
        refine (known06 h6.drew).mono ?_
        rintro e j1 ⟨rfl, hbx0⟩
        have hbx : Below h6.heap.size h6 j1 := (Below.refl _ _).drew.trans hbx0
        clear hbx0
        have x0_j1 := x0_h6.below hbx
        have x1_j1 := x1_h6.below hbx
        have x2_j1 := x2_h6.below hbx
        have yp_j1 := yp_h6.below hbx
        have yq_j1 := yq_h6.below hbx
        have ye4_j1 := ye4_h6.below hbx
        have T_j1 := Lib.hid (T_h6.out.bel hbx)
        have U_j1 := Lib.hid (U_h6.out.bel hbx)
        have x_j1 := Lib.hid (x_h6.out.bel hbx)
        have e4_j1 := Lib.hid (e4_h6.out.bel hbx)
        have C_j1 := Lib.hid (C_h6.out.bel hbx)
        have M_j1 := Lib.hid (M_h6.out.bel hbx)
        have X_j1 := Lib.hid (X_h6.out.bel hbx)
        have VC_j1 := Lib.hid (VC_h6.out.bel hbx)
        have VM_j1 := Lib.hid (VM_h6.out.bel hbx)
        have c_j1 := Lib.hid (c_h6.out.bel hbx)
        have B_j1 := B_h6.trans (hbx.mono B_h6.size)
        clear x0_h6 x1_h6 x2_h6 yp_h6 yq_h6 ye4_h6 T_h6 U_h6 x_h6 e4_h6 C_h6 M_h6 X_h6 VC_h6 VM_h6 c_h6 B_h6 hbx
        have hS : (j1).cell? ⟨w.heap.size, 0, none⟩ = some (.int .i64 b) ∧ (j1).cell? ⟨w.heap.size, 1, none⟩ = some (.slice ca C.length cc) ∧ (j1).cell? ⟨w.heap.size, 2, none⟩ = some (.slice ma M.length mc) ∧ (j1).cell? ⟨p, 0, none⟩ = some (.int .i64 b) ∧ (j1).cell? ⟨p, 1, none⟩ = some (.slice V_ca C.length V_cc) ∧ (j1).cell? ⟨p, 2, none⟩ = some (.slice V_ma M.length V_mc) := ⟨x0_j1.cell rfl, x0_j1.cell rfl, x0_j1.cell rfl, yp_j1.cell rfl, yp_j1.cell rfl, yp_j1.cell rfl⟩
        refine hK.out _ _ (fun _ => hS) ?_
        clear hK K
        try simp only [Act.put, List.setIfInBounds_toArray, List.set_cons_zero, List.set_cons_succ, List.getElem_toArray, List.getElem_cons_zero, List.getElem_cons_succ]
        refine wpN_take (i := 1) (v := ?_) rfl (by kernel_rfl) (fun _ _ _ h => h) hS (Or.inl ⟨by rfl, ?_⟩) ?_
        rotate_left; focus (intro wS hSw; (try dsimp only at hSw); go_simp; (try with_reducible rfl))
        try simp only [Act.put, List.setIfInBounds_toArray, List.set_cons_zero, List.set_cons_succ, List.getElem_toArray, List.getElem_cons_zero, List.getElem_cons_succ]
        refine wpN_take (i := 2) (v := ?_) rfl (by kernel_rfl) (fun _ _ _ h => h) hS (Or.inl ⟨by rfl, ?_⟩) ?_
        rotate_left; focus (intro wS hSw; (try dsimp only at hSw); go_simp; (try with_reducible rfl))
        try simp only [Act.put, List.setIfInBounds_toArray, List.set_cons_zero, List.set_cons_succ, List.getElem_toArray, List.getElem_cons_zero, List.getElem_cons_succ]
        refine wpN_take (i := 4) (v := ?_) rfl (by kernel_rfl) (fun _ _ _ h => h) hS (Or.inl ⟨by rfl, ?_⟩) ?_
        rotate_left; focus (intro wS hSw; (try dsimp only at hSw); go_simp; (try with_reducible rfl))
        try simp only [Act.put, List.setIfInBounds_toArray, List.set_cons_zero, List.set_cons_succ, List.getElem_toArray, List.getElem_cons_zero, List.getElem_cons_succ]
        refine wpN_step (i := 3) (by kernel_rfl) rfl (fun K hK => ?_)
        go_simp
        refine (RightWorld_k VC_j1.out VM_j1.out (fun t' h => by have := (Hs.out.2.2.2 t' (List.mem_append_left _ h)).1; omega)).mono ?_
        intro e j2 h
        obtain ⟨r5, Hr5, rfl, hbx0⟩ := of_retB' h
        clear h
        have hbx : Below j1.heap.size j1 j2 := hbx0
        clear hbx0
        have x0_j2 := x0_j1.below hbx
        have x1_j2 := x1_j1.below hbx
        have x2_j2 := x2_j1.below hbx
        have yp_j2 := yp_j1.below hbx
        have yq_j2 := yq_j1.below hbx
        have ye4_j2 := ye4_j1.below hbx
        have T_j2 := Lib.hid (T_j1.out.bel hbx)
        have U_j2 := Lib.hid (U_j1.out.bel hbx)
        have x_j2 := Lib.hid (x_j1.out.bel hbx)
        have e4_j2 := Lib.hid (e4_j1.out.bel hbx)
        have C_j2 := Lib.hid (C_j1.out.bel hbx)
        have M_j2 := Lib.hid (M_j1.out.bel hbx)
        have X_j2 := Lib.hid (X_j1.out.bel hbx)
        have VC_j2 := Lib.hid (VC_j1.out.bel hbx)
        have VM_j2 := Lib.hid (VM_j1.out.bel hbx)
        have c_j2 := Lib.hid (c_j1.out.bel hbx)
        have B_j2 := B_j1.trans (hbx.mono B_j1.size)
        clear x0_j1 x1_j1 x2_j1 yp_j1 yq_j1 ye4_j1 T_j1 U_j1 x_j1 e4_j1 C_j1 M_j1 X_j1 VC_j1 VM_j1 c_j1 B_j1 hbx
        have hS : (j2).cell? ⟨w.heap.size, 0, none⟩ = some (.int .i64 b) ∧ (j2).cell? ⟨w.heap.size, 1, none⟩ = some (.slice ca C.length cc) ∧ (j2).cell? ⟨w.heap.size, 2, none⟩ = some (.slice ma M.length mc) ∧ (j2).cell? ⟨p, 0, none⟩ = some (.int .i64 b) ∧ (j2).cell? ⟨p, 1, none⟩ = some (.slice V_ca C.length V_cc) ∧ (j2).cell? ⟨p, 2, none⟩ = some (.slice V_ma M.length V_mc) := ⟨x0_j2.cell rfl, x0_j2.cell rfl, x0_j2.cell rfl, yp_j2.cell rfl, yp_j2.cell rfl, yp_j2.cell rfl⟩
        refine hK.out _ _ (fun _ => hS) ?_
        clear hK K
        try simp only [Act.put, List.setIfInBounds_toArray, List.set_cons_zero, List.set_cons_succ, List.getElem_toArray, List.getElem_cons_zero, List.getElem_cons_succ]
        refine wpN_step (i := 5) (by kernel_rfl) rfl (fun K hK => ?_)
        go_simp
        refine (RightWorld_r C_j2.out M_j2.out).mono ?_
        intro e j3 h
        obtain ⟨r6, Hr6, rfl, hbx0⟩ := of_retB' h
        clear h
        have hbx : Below j2.heap.size j2 j3 := hbx0
        clear hbx0
        have x0_j3 := x0_j2.below hbx
        have x1_j3 := x1_j2.below hbx
        have x2_j3 := x2_j2.below hbx
        have yp_j3 := yp_j2.below hbx
        have yq_j3 := yq_j2.below hbx
        have ye4_j3 := ye4_j2.below hbx
        have T_j3 := Lib.hid (T_j2.out.bel hbx)
        have U_j3 := Lib.hid (U_j2.out.bel hbx)
        have x_j3 := Lib.hid (x_j2.out.bel hbx)
        have e4_j3 := Lib.hid (e4_j2.out.bel hbx)
        have C_j3 := Lib.hid (C_j2.out.bel hbx)
        have M_j3 := Lib.hid (M_j2.out.bel hbx)
        have X_j3 := Lib.hid (X_j2.out.bel hbx)
        have VC_j3 := Lib.hid (VC_j2.out.bel hbx)
        have VM_j3 := Lib.hid (VM_j2.out.bel hbx)
        have c_j3 := Lib.hid (c_j2.out.bel hbx)
        have B_j3 := B_j2.trans (hbx.mono B_j2.size)
        clear x0_j2 x1_j2 x2_j2 yp_j2 yq_j2 ye4_j2 T_j2 U_j2 x_j2 e4_j2 C_j2 M_j2 X_j2 VC_j2 VM_j2 c_j2 B_j2 hbx
        have hS : (j3).cell? ⟨w.heap.size, 0, none⟩ = some (.int .i64 b) ∧ (j3).cell? ⟨w.heap.size, 1, none⟩ = some (.slice ca C.length cc) ∧ (j3).cell? ⟨w.heap.size, 2, none⟩ = some (.slice ma M.length mc) ∧ (j3).cell? ⟨p, 0, none⟩ = some (.int .i64 b) ∧ (j3).cell? ⟨p, 1, none⟩ = some (.slice V_ca C.length V_cc) ∧ (j3).cell? ⟨p, 2, none⟩ = some (.slice V_ma M.length V_mc) := ⟨x0_j3.cell rfl, x0_j3.cell rfl, x0_j3.cell rfl, yp_j3.cell rfl, yp_j3.cell rfl, yp_j3.cell rfl⟩
        refine hK.out _ _ (fun _ => hS) ?_
        clear hK K
        try simp only [Act.put, List.setIfInBounds_toArray, List.set_cons_zero, List.set_cons_succ, List.getElem_toArray, List.getElem_cons_zero, List.getElem_cons_succ]
        have hrr : r6 = r5 := Bool.eq_iff_iff.2 (Hr6.out.trans Hr5.out.symm)
        rw [hrr]
        clear Hr6 Hr5 hrr
        refine wpN_take (i := 6) (v := ?_) rfl (by kernel_rfl) (fun _ _ _ h => h) hS (Or.inl ⟨by rfl, ?_⟩) ?_
        rotate_left; focus (intro wS hSw; (try dsimp only at hSw); go_simp; (try with_reducible rfl))
        try simp only [Act.put, List.setIfInBounds_toArray, List.set_cons_zero, List.set_cons_succ, List.getElem_toArray, List.getElem_cons_zero, List.getElem_cons_succ]
        refine wpN_take (i := 7) (v := ?_) rfl (by kernel_rfl) (fun _ _ _ h => h) hS (Or.inl ⟨by rfl, ?_⟩) ?_
        rotate_left; focus (intro wS hSw; (try dsimp only at hSw); go_simp; (try with_reducible rfl))
        try simp only [Act.put, List.setIfInBounds_toArray, List.set_cons_zero, List.set_cons_succ, List.getElem_toArray, List.getElem_cons_zero, List.getElem_cons_succ]
        refine wpN_step (i := 8) (by kernel_rfl) rfl (fun K hK => ?_)
        go_simp
        refine hK.out _ _ (fun h => absurd h (by decide)) ?_
        clear hK K
        try simp only [Act.put, List.setIfInBounds_toArray, List.set_cons_zero, List.set_cons_succ, List.getElem_toArray, List.getElem_cons_zero, List.getElem_cons_succ]
        refine wpN_done (by kernel_rfl) ?_
        refine NoPanic.normal ?_
        go_wp2_with fail
        go_ret
        exact ⟨rfl, B_j3⟩
end Go.Proofs.Ytejpgifofkiofaa

