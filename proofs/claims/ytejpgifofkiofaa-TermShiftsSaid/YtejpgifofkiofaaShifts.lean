/-
  The law TermShifts, stepped through.
-/
import Derived.Test.YtejpgifofkiofaaKnown06
import Derived.Test.YtejpgifofkiofaaEtas
import Derived.Test.YtejpgifofkiofaaShiftK
import Derived.Test.YtejpgifofkiofaaShift6
import Derived.Test.YtejpgifofkiofaaShiftBack
namespace Go.Proofs.Ytejpgifofkiofaa
open Go.RowKit

set_option maxRecDepth 100000 in
set_option maxHeartbeats 4000000 in
theorem termShifts_walk {w : World} {tb tk ti ta : Value} {t : Tm} (b f : Int) (ht : IsTm (fun _ => True) w tb tk ti ta t) (hfit : t.Fit)
    (hb : -9223372036854775808 ≤ b ∧ b ≤ 9223372036854775807) (hf : -9223372036854775808 ≤ f ∧ f ≤ 9223372036854775807) :
    Calls Try.prog 4 #[.agg #[tb, tk, ti, ta], .int .i64 b, .int .i64 f] w fun e w' => e = .returned (.bool true) ∧ Below w.heap.size w w' := by
  obtain ⟨pa, pc, qa, qc, rfl, rfl, rfl, rfl⟩ := ht.shape
  obtain ⟨x1, hx1⟩ : ∃ x, t.binds.length = x := ⟨_, rfl⟩
  obtain ⟨x2, hx2⟩ : ∃ x, t.args.length = x := ⟨_, rfl⟩
  obtain ⟨x3, hx3⟩ : ∃ x, t.kind = x := ⟨_, rfl⟩
  obtain ⟨x4, hx4⟩ : ∃ x, t.index = x := ⟨_, rfl⟩
  rw [hx1, hx2, hx3, hx4] at ht ⊢
  have Hx1 := Lib.hid hx1; have Hx2 := Lib.hid hx2; have Hx3 := Lib.hid hx3; have Hx4 := Lib.hid hx4
  clear hx1 hx2 hx3 hx4
  have Ht := Lib.hid ht; have Hfit := Lib.hid hfit
  clear ht hfit
  go_enter Try.func4, Try.ntmps4
  go_wp2_with fail
  obtain ⟨w4, hw4⟩ : ∃ w4, (w.alloc (.cells #[.slice pa x1 pc, .int .i64 x3, .int .i64 x4, .slice qa x2 qc] 29)).alloc (.cells #[.slice pa x1 pc, .int .i64 x3, .int .i64 x4, .slice qa x2 qc] 29) = w4 := ⟨_, rfl⟩
  have B_w4 : Below w.heap.size w w4 := by rw [← hw4]; exact ((Below.refl _ _).alloc (Nat.le_refl _) _).alloc (by simp) _
  have xt_w4 : Blk w4 w.heap.size #[.slice pa x1 pc, .int .i64 x3, .int .i64 x4, .slice qa x2 qc] 29 := by rw [← hw4]; exact (Blk.new _ _ _ rfl).alloc _
  have xv : Blk w4 (w.heap.size + 1) #[.slice pa x1 pc, .int .i64 x3, .int .i64 x4, .slice qa x2 qc] 29 := by rw [← hw4]; exact Blk.new _ _ _ (by simp)
  try rw [hw4]
  clear hw4
  have T_w4 := Lib.hid (Ht.out.bel B_w4)
  clear Ht
  refine (few06 (isSl_one6 xv T_w4.out) (by simp)).mono ?_
  intro e w5 h
  obtain ⟨r, Hr, rfl, hbx⟩ := h
  clear xv
  have xt_w5 := xt_w4.below hbx
  have T_w5 := Lib.hid (T_w4.out.bel hbx)
  have B_w5 := B_w4.trans (hbx.mono B_w4.size)
  clear xt_w4 T_w4 B_w4
  clear hbx
  cases r
  · clear Hr
    go_wp2_with fail
    refine (known06 w5).mono ?_
    rintro e wk ⟨rfl, hbk⟩
    go_wp2_with fail
    go_ret
    exact ⟨rfl, B_w5.trans (hbk.mono B_w5.size)⟩
  have Hf := Lib.hid ((Hr.out rfl) t (by simp))
  clear Hr
  have c0 : w5.cell? ⟨w.heap.size, 0, none⟩ = some (.slice pa x1 pc) := xt_w5.cell rfl
  have c1 : w5.cell? ⟨w.heap.size, 1, none⟩ = some (.int .i64 x3) := xt_w5.cell rfl
  have c2 : w5.cell? ⟨w.heap.size, 2, none⟩ = some (.int .i64 x4) := xt_w5.cell rfl
  have c3 : w5.cell? ⟨w.heap.size, 3, none⟩ = some (.slice qa x2 qc) := xt_w5.cell rfl
  have hlt5 := xt_w5.lt
  go_wp2_with fail
  refine (to6_any T_w5.out w5 (by have := Hf.out; omega) (Keep.refl _ _)).mono ?_
  intro e w6 h
  obtain ⟨b4, k4, i4, a4, rfl, hT, hbx⟩ := h
  clear c0 c1 c2 c3 hlt5
  have O_w6 := Lib.hid (hT.weaken (F' := fun _ => True) fun _ _ _ => trivial)
  clear hT
  have xt_w6 := xt_w5.below hbx
  have T_w6 := Lib.hid (T_w5.out.bel hbx)
  have B_w6 := B_w5.trans (hbx.mono B_w5.size)
  clear xt_w5 T_w5 B_w5 hbx
  obtain ⟨PP, hPP⟩ : ∃ PP, t.shift b f = PP := ⟨_, rfl⟩
  have Hsf := Lib.hid (Tm.shift_fit (b := b) (f := f) Hfit.out (by have := Hf.out; omega))
  have Hbk : Hid (PP.2 = 0 → 0 ≤ b → PP.1.shift (-b) f = (t, 0)) := by show _ → _; rw [← hPP]; exact fun h h' => Tm.shift_back h h' hb.2
  have Hcode : Hid (0 ≤ PP.2 ∧ PP.2 ≤ 2) := by show _ ∧ _; rw [← hPP]; exact Tm.shift_code t b f
  rw [hPP] at Hsf
  have hS1 := shift_k O_w6.out (by have := Hf.out; omega) Hfit.out b f hb hf
  have hS2 := fun (F : Nat → Prop) (w0 : World) tb tk ti ta (h : IsTm F w0 tb tk ti ta t) w hk => Shift_r h w hk b f (by have := Hf.out; omega) Hfit.out hb hf
  rw [hPP] at hS1 hS2
  clear hPP
  obtain ⟨X, code⟩ := PP
  simp only at Hsf Hbk Hcode
  have HS2 := Lib.hid hS2; clear hS2
  go_wp2_with fail
  refine hS1.mono ?_
  clear hS1 O_w6
  intro e v0 h
  obtain ⟨b5, k5, i5, a5, rfl, hT, hbx⟩ := h
  have X_v0 := Lib.hid (hT.weaken (F' := fun _ => True) fun _ _ _ => trivial)
  clear hT
  have xt_v0 := xt_w6.below hbx
  have T_v0 := Lib.hid (T_w6.out.bel hbx)
  have B_v0 := B_w6.trans (hbx.mono B_w6.size)
  clear xt_w6 T_w6 B_w6 hbx
  obtain ⟨ya, yc, za, zc, rfl, rfl, rfl, rfl⟩ := X_v0.out.shape
  obtain ⟨y1, hy1⟩ : ∃ y, X.binds.length = y := ⟨_, rfl⟩
  obtain ⟨y2, hy2⟩ : ∃ y, X.args.length = y := ⟨_, rfl⟩
  obtain ⟨y3, hy3⟩ : ∃ y, X.kind = y := ⟨_, rfl⟩
  obtain ⟨y4, hy4⟩ : ∃ y, X.index = y := ⟨_, rfl⟩
  rw [hy1, hy2, hy3, hy4] at X_v0 ⊢
  have Hy1 := Lib.hid hy1; have Hy2 := Lib.hid hy2; have Hy3 := Lib.hid hy3; have Hy4 := Lib.hid hy4
  clear hy1 hy2 hy3 hy4
  have c0 : v0.cell? ⟨w.heap.size, 0, none⟩ = some (.slice pa x1 pc) := xt_v0.cell rfl
  have c1 : v0.cell? ⟨w.heap.size, 1, none⟩ = some (.int .i64 x3) := xt_v0.cell rfl
  have c2 : v0.cell? ⟨w.heap.size, 2, none⟩ = some (.int .i64 x4) := xt_v0.cell rfl
  have c3 : v0.cell? ⟨w.heap.size, 3, none⟩ = some (.slice qa x2 qc) := xt_v0.cell rfl
  have hlt5 := xt_v0.lt
  go_wp2_with fail
  obtain ⟨v1, hv1⟩ : ∃ v1, v0.alloc (.cells #[.slice ya y1 yc, .int .i64 y3, .int .i64 y4, .slice za y2 zc] 37) = v1 := ⟨_, rfl⟩
  obtain ⟨p, hp⟩ : ∃ p, v0.heap.size = p := ⟨_, rfl⟩
  have hbx : Below v0.heap.size v0 v1 := by rw [← hv1]; exact (Below.refl _ _).alloc (Nat.le_refl _) _
  have xp_v1 : Blk v1 p #[.slice ya y1 yc, .int .i64 y3, .int .i64 y4, .slice za y2 zc] 37 := by rw [← hv1]; exact Blk.new _ _ _ hp.symm
  have hwp : w.heap.size < p := by rw [← hp]; exact hlt5
  try rw [hv1]
  try rw [hp]
  clear hv1 hp c0 c1 c2 c3 hlt5
  have xt_v1 := xt_v0.below hbx
  have T_v1 := Lib.hid (T_v0.out.bel hbx)
  have X_v1 := Lib.hid (X_v0.out.bel hbx)
  have B_v1 := B_v0.trans (hbx.mono B_v0.size)
  clear xt_v0 T_v0 X_v0 B_v0 hbx
  refine (HS2.out _ v1 _ _ _ _ T_v1.out v1 (Keep.refl _ _)).mono ?_
  intro e v2 h
  obtain ⟨b6, k6, i6, a6, rfl, hT, hbx⟩ := h
  clear HS2
  have Y_v2 := Lib.hid (hT.weaken (F' := fun _ => True) fun _ _ _ => trivial)
  clear hT
  have xt_v2 := xt_v1.below hbx
  have xp_v2 := xp_v1.below hbx
  have T_v2 := Lib.hid (T_v1.out.bel hbx)
  have X_v2 := Lib.hid (X_v1.out.bel hbx)
  have B_v2 := B_v1.trans (hbx.mono B_v1.size)
  clear xt_v1 T_v1 X_v1 B_v1 xp_v1 hbx
  obtain ⟨ga, gc, ha, hc, rfl, rfl, rfl, rfl⟩ := Y_v2.out.shape
  rw [Hy1.out, Hy2.out, Hy3.out, Hy4.out] at Y_v2 ⊢
  go_wp2_with fail
  obtain ⟨v3, hv3⟩ : ∃ v3, v2.alloc (.cells #[.slice ga y1 gc, .int .i64 y3, .int .i64 y4, .slice ha y2 hc] 29) = v3 := ⟨_, rfl⟩
  obtain ⟨q, hq⟩ : ∃ q, v2.heap.size = q := ⟨_, rfl⟩
  have hbx : Below v2.heap.size v2 v3 := by rw [← hv3]; exact (Below.refl _ _).alloc (Nat.le_refl _) _
  have xy_v3 : Blk v3 q #[.slice ga y1 gc, .int .i64 y3, .int .i64 y4, .slice ha y2 hc] 29 := by rw [← hv3]; exact Blk.new _ _ _ hq.symm
  try rw [hv3]
  try rw [hq]
  clear hv3 hq
  have xt_v3 := xt_v2.below hbx
  have xp_v3 := xp_v2.below hbx
  have T_v3 := Lib.hid (T_v2.out.bel hbx)
  have X_v3 := Lib.hid (X_v2.out.bel hbx)
  have Y_v3 := Lib.hid (Y_v2.out.bel hbx)
  have B_v3 := B_v2.trans (hbx.mono B_v2.size)
  clear xt_v2 T_v2 X_v2 Y_v2 B_v2 xp_v2 hbx
  refine wp_region_noPanic (wp_region_need (S := fun w' => w'.cell? ⟨p, 0, none⟩ = some (.slice ya y1 yc) ∧ w'.cell? ⟨p, 1, none⟩ = some (.int .i64 y3) ∧ w'.cell? ⟨p, 2, none⟩ = some (.int .i64 y4) ∧ w'.cell? ⟨p, 3, none⟩ = some (.slice za y2 zc) ∧ w'.cell? ⟨q, 0, none⟩ = some (.slice ga y1 gc) ∧ w'.cell? ⟨q, 1, none⟩ = some (.int .i64 y3) ∧ w'.cell? ⟨q, 2, none⟩ = some (.int .i64 y4) ∧ w'.cell? ⟨q, 3, none⟩ = some (.slice ha y2 hc)) (by kernel_rfl) ?_)
  have hS : (v3.drew).cell? ⟨p, 0, none⟩ = some (.slice ya y1 yc) ∧ (v3.drew).cell? ⟨p, 1, none⟩ = some (.int .i64 y3) ∧ (v3.drew).cell? ⟨p, 2, none⟩ = some (.int .i64 y4) ∧ (v3.drew).cell? ⟨p, 3, none⟩ = some (.slice za y2 zc) ∧ (v3.drew).cell? ⟨q, 0, none⟩ = some (.slice ga y1 gc) ∧ (v3.drew).cell? ⟨q, 1, none⟩ = some (.int .i64 y3) ∧ (v3.drew).cell? ⟨q, 2, none⟩ = some (.int .i64 y4) ∧ (v3.drew).cell? ⟨q, 3, none⟩ = some (.slice ha y2 hc) := ⟨xp_v3.drew.cell rfl, xp_v3.drew.cell rfl, xp_v3.drew.cell rfl, xp_v3.drew.cell rfl, xy_v3.drew.cell rfl, xy_v3.drew.cell rfl, xy_v3.drew.cell rfl, xy_v3.drew.cell rfl⟩
  refine wpN_step (i := 0) (by kernel_rfl) rfl (fun K hK => ?_)
  go_simp
  refine (known06 v3.drew).mono ?_
  rintro e v4 ⟨rfl, hbd⟩
  have hbx : Below v3.heap.size v3 v4 := (Below.refl _ _).drew.trans hbd
  clear hbd
  have xt_v4 := xt_v3.below hbx
  have xp_v4 := xp_v3.below hbx
  have xy_v4 := xy_v3.below hbx
  have T_v4 := Lib.hid (T_v3.out.bel hbx)
  have X_v4 := Lib.hid (X_v3.out.bel hbx)
  have Y_v4 := Lib.hid (Y_v3.out.bel hbx)
  have B_v4 := B_v3.trans (hbx.mono B_v3.size)
  clear xt_v3 xp_v3 xy_v3 T_v3 X_v3 Y_v3 B_v3
  clear hbx
  have hS : (v4).cell? ⟨p, 0, none⟩ = some (.slice ya y1 yc) ∧ (v4).cell? ⟨p, 1, none⟩ = some (.int .i64 y3) ∧ (v4).cell? ⟨p, 2, none⟩ = some (.int .i64 y4) ∧ (v4).cell? ⟨p, 3, none⟩ = some (.slice za y2 zc) ∧ (v4).cell? ⟨q, 0, none⟩ = some (.slice ga y1 gc) ∧ (v4).cell? ⟨q, 1, none⟩ = some (.int .i64 y3) ∧ (v4).cell? ⟨q, 2, none⟩ = some (.int .i64 y4) ∧ (v4).cell? ⟨q, 3, none⟩ = some (.slice ha y2 hc) := ⟨xp_v4.cell rfl, xp_v4.cell rfl, xp_v4.cell rfl, xp_v4.cell rfl, xy_v4.cell rfl, xy_v4.cell rfl, xy_v4.cell rfl, xy_v4.cell rfl⟩
  refine hK.out _ _ (fun _ => hS) ?_
  clear hK K
  try simp only [Act.put, List.setIfInBounds_toArray, List.set_cons_zero, List.set_cons_succ, List.getElem_toArray, List.getElem_cons_zero, List.getElem_cons_succ]
  refine wpN_take (i := 1) (v := ?v1) rfl (by kernel_rfl) (fun _ _ _ h => h) hS (Or.inl ⟨by rfl, ?hy1⟩) ?hr1
  case hy1 => (intro wS hSw; (try dsimp only at hSw); go_simp; (try with_reducible rfl))
  try simp only [Act.put, List.setIfInBounds_toArray, List.set_cons_zero, List.set_cons_succ, List.getElem_toArray, List.getElem_cons_zero, List.getElem_cons_succ]
  refine wpN_take (i := 2) (v := ?v2) rfl (by kernel_rfl) (fun _ _ _ h => h) hS (Or.inl ⟨by rfl, ?hy2⟩) ?hr2
  case hy2 => (intro wS hSw; (try dsimp only at hSw); go_simp; (try with_reducible rfl))
  try simp only [Act.put, List.setIfInBounds_toArray, List.set_cons_zero, List.set_cons_succ, List.getElem_toArray, List.getElem_cons_zero, List.getElem_cons_succ]
  refine wpN_take (i := 3) (v := ?v3) rfl (by kernel_rfl) (fun _ _ _ h => h) hS (Or.inl ⟨by rfl, ?hy3⟩) ?hr3
  case hy3 => (intro wS hSw; (try dsimp only at hSw); go_simp; (try with_reducible rfl))
  try simp only [Act.put, List.setIfInBounds_toArray, List.set_cons_zero, List.set_cons_succ, List.getElem_toArray, List.getElem_cons_zero, List.getElem_cons_succ]
  refine wpN_take (i := 4) (v := ?v4) rfl (by kernel_rfl) (fun _ _ _ h => h) hS (Or.inl ⟨by rfl, ?hy4⟩) ?hr4
  case hy4 => (intro wS hSw; (try dsimp only at hSw); go_simp; (try with_reducible rfl))
  try simp only [Act.put, List.setIfInBounds_toArray, List.set_cons_zero, List.set_cons_succ, List.getElem_toArray, List.getElem_cons_zero, List.getElem_cons_succ]
  refine wpN_take (i := 5) (v := ?v5) rfl (by kernel_rfl) (fun _ _ _ h => h) hS (Or.inl ⟨by rfl, ?hy5⟩) ?hr5
  case hy5 => (intro wS hSw; (try dsimp only at hSw); go_simp; (try with_reducible rfl))
  try simp only [Act.put, List.setIfInBounds_toArray, List.set_cons_zero, List.set_cons_succ, List.getElem_toArray, List.getElem_cons_zero, List.getElem_cons_succ]
  refine wpN_take (i := 6) (v := ?v6) rfl (by kernel_rfl) (fun _ _ _ h => h) hS (Or.inl ⟨by rfl, ?hy6⟩) ?hr6
  case hy6 => (intro wS hSw; (try dsimp only at hSw); go_simp; (try with_reducible rfl))
  try simp only [Act.put, List.setIfInBounds_toArray, List.set_cons_zero, List.set_cons_succ, List.getElem_toArray, List.getElem_cons_zero, List.getElem_cons_succ]
  refine wpN_take (i := 7) (v := ?v7) rfl (by kernel_rfl) (fun _ _ _ h => h) hS (Or.inl ⟨by rfl, ?hy7⟩) ?hr7
  case hy7 => (intro wS hSw; (try dsimp only at hSw); go_simp; (try with_reducible rfl))
  try simp only [Act.put, List.setIfInBounds_toArray, List.set_cons_zero, List.set_cons_succ, List.getElem_toArray, List.getElem_cons_zero, List.getElem_cons_succ]
  refine wpN_take (i := 8) (v := ?v8) rfl (by kernel_rfl) (fun _ _ _ h => h) hS (Or.inl ⟨by rfl, ?hy8⟩) ?hr8
  case hy8 => (intro wS hSw; (try dsimp only at hSw); go_simp; (try with_reducible rfl))
  try simp only [Act.put, List.setIfInBounds_toArray, List.set_cons_zero, List.set_cons_succ, List.getElem_toArray, List.getElem_cons_zero, List.getElem_cons_succ]
  refine wpN_take (i := 10) (v := ?v9) rfl (by kernel_rfl) (fun _ _ _ h => h) hS (Or.inl ⟨by rfl, ?hy9⟩) ?hr9
  case hy9 => (intro wS hSw; (try dsimp only at hSw); go_simp; (try with_reducible rfl))
  try simp only [Act.put, List.setIfInBounds_toArray, List.set_cons_zero, List.set_cons_succ, List.getElem_toArray, List.getElem_cons_zero, List.getElem_cons_succ]
  refine wpN_step (i := 9) (by kernel_rfl) rfl (fun K hK => ?_)
  go_simp
  refine (of6_any X_v4.out v4 (by have := Hsf.out.2; have := Hf.out; omega) (Keep.refl _ _)).mono ?_
  intro e v5 h
  obtain ⟨b9, k9, i9, a9, rfl, hT, hbx⟩ := h
  have O_v5 := Lib.hid (hT.weaken (F' := fun _ => True) fun _ _ _ => trivial)
  clear hT
  have xt_v5 := xt_v4.below hbx
  have xp_v5 := xp_v4.below hbx
  have xy_v5 := xy_v4.below hbx
  have T_v5 := Lib.hid (T_v4.out.bel hbx)
  have X_v5 := Lib.hid (X_v4.out.bel hbx)
  have Y_v5 := Lib.hid (Y_v4.out.bel hbx)
  have B_v5 := B_v4.trans (hbx.mono B_v4.size)
  clear xt_v4 xp_v4 xy_v4 T_v4 X_v4 Y_v4 B_v4
  clear hbx
  have hS : (v5).cell? ⟨p, 0, none⟩ = some (.slice ya y1 yc) ∧ (v5).cell? ⟨p, 1, none⟩ = some (.int .i64 y3) ∧ (v5).cell? ⟨p, 2, none⟩ = some (.int .i64 y4) ∧ (v5).cell? ⟨p, 3, none⟩ = some (.slice za y2 zc) ∧ (v5).cell? ⟨q, 0, none⟩ = some (.slice ga y1 gc) ∧ (v5).cell? ⟨q, 1, none⟩ = some (.int .i64 y3) ∧ (v5).cell? ⟨q, 2, none⟩ = some (.int .i64 y4) ∧ (v5).cell? ⟨q, 3, none⟩ = some (.slice ha y2 hc) := ⟨xp_v5.cell rfl, xp_v5.cell rfl, xp_v5.cell rfl, xp_v5.cell rfl, xy_v5.cell rfl, xy_v5.cell rfl, xy_v5.cell rfl, xy_v5.cell rfl⟩
  refine hK.out _ _ (fun _ => hS) ?_
  clear hK K
  try simp only [Act.put, List.setIfInBounds_toArray, List.set_cons_zero, List.set_cons_succ, List.getElem_toArray, List.getElem_cons_zero, List.getElem_cons_succ]
  refine wpN_step (i := 11) (by kernel_rfl) rfl (fun K hK => ?_)
  go_simp
  refine (same6_r _ _ _ _ _ _ _ O_v5.out _ _ _ _ _ _ _ Y_v5.out v5 (Keep.refl _ _) (Keep.refl _ _)).mono ?_
  intro e v6 h
  obtain ⟨r9, Hq, rfl, hbx⟩ := of_retB' h
  clear h O_v5
  obtain rfl : r9 = true := Hq.out.2 rfl
  clear Hq
  have xt_v6 := xt_v5.below hbx
  have xp_v6 := xp_v5.below hbx
  have xy_v6 := xy_v5.below hbx
  have T_v6 := Lib.hid (T_v5.out.bel hbx)
  have X_v6 := Lib.hid (X_v5.out.bel hbx)
  have Y_v6 := Lib.hid (Y_v5.out.bel hbx)
  have B_v6 := B_v5.trans (hbx.mono B_v5.size)
  clear xt_v5 xp_v5 xy_v5 T_v5 X_v5 Y_v5 B_v5
  clear hbx
  have hS : (v6).cell? ⟨p, 0, none⟩ = some (.slice ya y1 yc) ∧ (v6).cell? ⟨p, 1, none⟩ = some (.int .i64 y3) ∧ (v6).cell? ⟨p, 2, none⟩ = some (.int .i64 y4) ∧ (v6).cell? ⟨p, 3, none⟩ = some (.slice za y2 zc) ∧ (v6).cell? ⟨q, 0, none⟩ = some (.slice ga y1 gc) ∧ (v6).cell? ⟨q, 1, none⟩ = some (.int .i64 y3) ∧ (v6).cell? ⟨q, 2, none⟩ = some (.int .i64 y4) ∧ (v6).cell? ⟨q, 3, none⟩ = some (.slice ha y2 hc) := ⟨xp_v6.cell rfl, xp_v6.cell rfl, xp_v6.cell rfl, xp_v6.cell rfl, xy_v6.cell rfl, xy_v6.cell rfl, xy_v6.cell rfl, xy_v6.cell rfl⟩
  refine hK.out _ _ (fun _ => hS) ?_
  clear hK K
  try simp only [Act.put, List.setIfInBounds_toArray, List.set_cons_zero, List.set_cons_succ, List.getElem_toArray, List.getElem_cons_zero, List.getElem_cons_succ]
  refine wpN_take (i := 12) (v := ?v10) rfl (by kernel_rfl) (fun _ _ _ h => h) hS (Or.inl ⟨by rfl, ?hy10⟩) ?hr10
  case hy10 => (intro wS hSw; (try dsimp only at hSw); go_simp; (try with_reducible rfl))
  try simp only [Act.put, List.setIfInBounds_toArray, List.set_cons_zero, List.set_cons_succ, List.getElem_toArray, List.getElem_cons_zero, List.getElem_cons_succ]
  refine wpN_take (i := 13) (v := ?v11) rfl (by kernel_rfl) (fun _ _ _ h => h) hS (Or.inl ⟨by rfl, ?hy11⟩) ?hr11
  case hy11 => (intro wS hSw; (try dsimp only at hSw); go_simp; (try with_reducible rfl))
  try simp only [Act.put, List.setIfInBounds_toArray, List.set_cons_zero, List.set_cons_succ, List.getElem_toArray, List.getElem_cons_zero, List.getElem_cons_succ]
  refine wpN_done (by kernel_rfl) ?_
  refine NoPanic.normal ?_
  clear hS
  by_cases hc : code = 0
  · subst hc
    by_cases hb0 : b < 0
    · go_wp2_with fail
      go_ret
      exact ⟨rfl, B_v6⟩
    have hbk := Hbk.out rfl (by omega)
    have c0 : v6.cell? ⟨w.heap.size, 0, none⟩ = some (.slice pa x1 pc) := xt_v6.cell rfl
    have c1 : v6.cell? ⟨w.heap.size, 1, none⟩ = some (.int .i64 x3) := xt_v6.cell rfl
    have c2 : v6.cell? ⟨w.heap.size, 2, none⟩ = some (.int .i64 x4) := xt_v6.cell rfl
    have c3 : v6.cell? ⟨w.heap.size, 3, none⟩ = some (.slice qa x2 qc) := xt_v6.cell rfl
    have hlt6 := xt_v6.lt
    go_wp2_with fail
    refine (Loose_r T_v6.out v6 (Keep.refl _ _) (by have := Hf.out; omega) Hfit.out).mono ?_
    rintro e v7 ⟨rfl, hbx⟩
    clear c0 c1 c2 c3 hlt6
    obtain ⟨lo, hlo⟩ : ∃ lo, looseOf (t.looses 0) = lo := ⟨_, rfl⟩
    rw [hlo]
    clear hlo
    have xt_v7 := xt_v6.below hbx
    have xp_v7 := xp_v6.below hbx
    have xy_v7 := xy_v6.below hbx
    have T_v7 := Lib.hid (T_v6.out.bel hbx)
    have X_v7 := Lib.hid (X_v6.out.bel hbx)
    have Y_v7 := Lib.hid (Y_v6.out.bel hbx)
    have B_v7 := B_v6.trans (hbx.mono B_v6.size)
    clear xt_v6 xp_v6 xy_v6 T_v6 X_v6 Y_v6 B_v6
    clear hbx
    by_cases hlo : lo > 1000
    · go_wp2_with fail
      go_ret
      exact ⟨rfl, B_v7⟩
    have c0 : v7.cell? ⟨p, 0, none⟩ = some (.slice ya y1 yc) := xp_v7.cell rfl
    have c1 : v7.cell? ⟨p, 1, none⟩ = some (.int .i64 y3) := xp_v7.cell rfl
    have c2 : v7.cell? ⟨p, 2, none⟩ = some (.int .i64 y4) := xp_v7.cell rfl
    have c3 : v7.cell? ⟨p, 3, none⟩ = some (.slice za y2 zc) := xp_v7.cell rfl
    have hlt7 := xp_v7.lt
    have hq1 : IntKind.i64.wrap (-b) = -b := IntWalk.i64_in _ (by omega)
    go_wp2_with fail
    have hS3 := shift_k X_v7.out (by have := Hsf.out.2; have := Hf.out; omega) Hsf.out.1 (-b) f (by omega) hf
    rw [hbk] at hS3
    refine hS3.mono ?_
    clear hS3 c0 c1 c2 c3 hlt7 hbk
    intro e z0 h
    obtain ⟨b5, k5, i5, a5, rfl, hT, hbx⟩ := h
    have Z_z0 := Lib.hid (hT.weaken (F' := fun _ => True) fun _ _ _ => trivial)
    clear hT
    have xt_z0 := xt_v7.below hbx
    have T_z0 := Lib.hid (T_v7.out.bel hbx)
    have B_z0 := B_v7.trans (hbx.mono B_v7.size)
    clear xt_v7 T_v7 B_v7 xp_v7 xy_v7 X_v7 Y_v7 hbx
    obtain ⟨ea, ec, fa, fc, rfl, rfl, rfl, rfl⟩ := Z_z0.out.shape
    rw [Hx1.out, Hx2.out, Hx3.out, Hx4.out] at Z_z0 ⊢
    go_wp2_with fail
    obtain ⟨z1, hz1⟩ : ∃ z1, z0.alloc (.cells #[.slice ea x1 ec, .int .i64 x3, .int .i64 x4, .slice fa x2 fc] 37) = z1 := ⟨_, rfl⟩
    obtain ⟨r, hr⟩ : ∃ r, z0.heap.size = r := ⟨_, rfl⟩
    have hbx : Below z0.heap.size z0 z1 := by rw [← hz1]; exact (Below.refl _ _).alloc (Nat.le_refl _) _
    have xr_z1 : Blk z1 r #[.slice ea x1 ec, .int .i64 x3, .int .i64 x4, .slice fa x2 fc] 37 := by rw [← hz1]; exact Blk.new _ _ _ hr.symm
    try rw [hz1]
    try rw [hr]
    clear hz1 hr
    have xt_z1 := xt_z0.below hbx
    have T_z1 := Lib.hid (T_z0.out.bel hbx)
    have Z_z1 := Lib.hid (Z_z0.out.bel hbx)
    have B_z1 := B_z0.trans (hbx.mono B_z0.size)
    clear xt_z0 T_z0 Z_z0 B_z0 hbx
    have hd1 : Below z1.heap.size z1 z1.drew := (Below.refl _ _).drew
    refine wp_region_noPanic (wp_region_need (S := fun w' => w'.cell? ⟨r, 0, none⟩ = some (.slice ea x1 ec) ∧ w'.cell? ⟨r, 1, none⟩ = some (.int .i64 x3) ∧ w'.cell? ⟨r, 2, none⟩ = some (.int .i64 x4) ∧ w'.cell? ⟨r, 3, none⟩ = some (.slice fa x2 fc) ∧ w'.cell? ⟨w.heap.size, 0, none⟩ = some (.slice pa x1 pc) ∧ w'.cell? ⟨w.heap.size, 1, none⟩ = some (.int .i64 x3) ∧ w'.cell? ⟨w.heap.size, 2, none⟩ = some (.int .i64 x4) ∧ w'.cell? ⟨w.heap.size, 3, none⟩ = some (.slice qa x2 qc)) (by kernel_rfl) ?_)
    have hS : (z1.drew).cell? ⟨r, 0, none⟩ = some (.slice ea x1 ec) ∧ (z1.drew).cell? ⟨r, 1, none⟩ = some (.int .i64 x3) ∧ (z1.drew).cell? ⟨r, 2, none⟩ = some (.int .i64 x4) ∧ (z1.drew).cell? ⟨r, 3, none⟩ = some (.slice fa x2 fc) ∧ (z1.drew).cell? ⟨w.heap.size, 0, none⟩ = some (.slice pa x1 pc) ∧ (z1.drew).cell? ⟨w.heap.size, 1, none⟩ = some (.int .i64 x3) ∧ (z1.drew).cell? ⟨w.heap.size, 2, none⟩ = some (.int .i64 x4) ∧ (z1.drew).cell? ⟨w.heap.size, 3, none⟩ = some (.slice qa x2 qc) := ⟨xr_z1.drew.cell rfl, xr_z1.drew.cell rfl, xr_z1.drew.cell rfl, xr_z1.drew.cell rfl, xt_z1.drew.cell rfl, xt_z1.drew.cell rfl, xt_z1.drew.cell rfl, xt_z1.drew.cell rfl⟩
    refine wpN_take (i := 0) (v := ?v12) rfl (by kernel_rfl) (fun _ _ _ h => h) hS (Or.inl ⟨by rfl, ?hy12⟩) ?hr12
    case hy12 => (intro wS hSw; (try dsimp only at hSw); go_simp; (try with_reducible rfl))
    try simp only [Act.put, List.setIfInBounds_toArray, List.set_cons_zero, List.set_cons_succ, List.getElem_toArray, List.getElem_cons_zero, List.getElem_cons_succ]
    refine wpN_take (i := 1) (v := ?v13) rfl (by kernel_rfl) (fun _ _ _ h => h) hS (Or.inl ⟨by rfl, ?hy13⟩) ?hr13
    case hy13 => (intro wS hSw; (try dsimp only at hSw); go_simp; (try with_reducible rfl))
    try simp only [Act.put, List.setIfInBounds_toArray, List.set_cons_zero, List.set_cons_succ, List.getElem_toArray, List.getElem_cons_zero, List.getElem_cons_succ]
    refine wpN_take (i := 2) (v := ?v14) rfl (by kernel_rfl) (fun _ _ _ h => h) hS (Or.inl ⟨by rfl, ?hy14⟩) ?hr14
    case hy14 => (intro wS hSw; (try dsimp only at hSw); go_simp; (try with_reducible rfl))
    try simp only [Act.put, List.setIfInBounds_toArray, List.set_cons_zero, List.set_cons_succ, List.getElem_toArray, List.getElem_cons_zero, List.getElem_cons_succ]
    refine wpN_take (i := 3) (v := ?v15) rfl (by kernel_rfl) (fun _ _ _ h => h) hS (Or.inl ⟨by rfl, ?hy15⟩) ?hr15
    case hy15 => (intro wS hSw; (try dsimp only at hSw); go_simp; (try with_reducible rfl))
    try simp only [Act.put, List.setIfInBounds_toArray, List.set_cons_zero, List.set_cons_succ, List.getElem_toArray, List.getElem_cons_zero, List.getElem_cons_succ]
    refine wpN_take (i := 5) (v := ?v16) rfl (by kernel_rfl) (fun _ _ _ h => h) hS (Or.inl ⟨by rfl, ?hy16⟩) ?hr16
    case hy16 => (intro wS hSw; (try dsimp only at hSw); go_simp; (try with_reducible rfl))
    try simp only [Act.put, List.setIfInBounds_toArray, List.set_cons_zero, List.set_cons_succ, List.getElem_toArray, List.getElem_cons_zero, List.getElem_cons_succ]
    refine wpN_step (i := 4) (by kernel_rfl) rfl (fun K hK => ?_)
    go_simp
    refine (of6_any (Z_z1.out.bel hd1) z1.drew (by have := Hf.out; omega) (Keep.refl _ _)).mono ?_
    intro e z2 h
    obtain ⟨b9, k9, i9, a9, rfl, hT, hbd⟩ := h
    have hbx : Below z1.heap.size z1 z2 := (Below.refl _ _).drew.trans hbd
    clear hbd hd1
    have O_z2 := Lib.hid (hT.weaken (F' := fun _ => True) fun _ _ _ => trivial)
    clear hT
    have xt_z2 := xt_z1.below hbx
    have xr_z2 := xr_z1.below hbx
    have T_z2 := Lib.hid (T_z1.out.bel hbx)
    have Z_z2 := Lib.hid (Z_z1.out.bel hbx)
    have B_z2 := B_z1.trans (hbx.mono B_z1.size)
    clear xt_z1 xr_z1 T_z1 Z_z1 B_z1
    clear hbx
    have hS : (z2).cell? ⟨r, 0, none⟩ = some (.slice ea x1 ec) ∧ (z2).cell? ⟨r, 1, none⟩ = some (.int .i64 x3) ∧ (z2).cell? ⟨r, 2, none⟩ = some (.int .i64 x4) ∧ (z2).cell? ⟨r, 3, none⟩ = some (.slice fa x2 fc) ∧ (z2).cell? ⟨w.heap.size, 0, none⟩ = some (.slice pa x1 pc) ∧ (z2).cell? ⟨w.heap.size, 1, none⟩ = some (.int .i64 x3) ∧ (z2).cell? ⟨w.heap.size, 2, none⟩ = some (.int .i64 x4) ∧ (z2).cell? ⟨w.heap.size, 3, none⟩ = some (.slice qa x2 qc) := ⟨xr_z2.cell rfl, xr_z2.cell rfl, xr_z2.cell rfl, xr_z2.cell rfl, xt_z2.cell rfl, xt_z2.cell rfl, xt_z2.cell rfl, xt_z2.cell rfl⟩
    refine hK.out _ _ (fun _ => hS) ?_
    clear hK K
    try simp only [Act.put, List.setIfInBounds_toArray, List.set_cons_zero, List.set_cons_succ, List.getElem_toArray, List.getElem_cons_zero, List.getElem_cons_succ]
    refine wpN_step (i := 6) (by kernel_rfl) rfl (fun K hK => ?_)
    go_simp
    refine (same6_r _ _ _ _ _ _ _ O_z2.out _ _ _ _ _ _ _ T_z2.out z2 (Keep.refl _ _) (Keep.refl _ _)).mono ?_
    intro e z3 h
    obtain ⟨r9, Hq, rfl, hbx⟩ := of_retB' h
    clear h O_z2
    obtain rfl : r9 = true := Hq.out.2 rfl
    clear Hq
    have xt_z3 := xt_z2.below hbx
    have xr_z3 := xr_z2.below hbx
    have T_z3 := Lib.hid (T_z2.out.bel hbx)
    have Z_z3 := Lib.hid (Z_z2.out.bel hbx)
    have B_z3 := B_z2.trans (hbx.mono B_z2.size)
    clear xt_z2 xr_z2 T_z2 Z_z2 B_z2
    clear hbx
    have hS : (z3).cell? ⟨r, 0, none⟩ = some (.slice ea x1 ec) ∧ (z3).cell? ⟨r, 1, none⟩ = some (.int .i64 x3) ∧ (z3).cell? ⟨r, 2, none⟩ = some (.int .i64 x4) ∧ (z3).cell? ⟨r, 3, none⟩ = some (.slice fa x2 fc) ∧ (z3).cell? ⟨w.heap.size, 0, none⟩ = some (.slice pa x1 pc) ∧ (z3).cell? ⟨w.heap.size, 1, none⟩ = some (.int .i64 x3) ∧ (z3).cell? ⟨w.heap.size, 2, none⟩ = some (.int .i64 x4) ∧ (z3).cell? ⟨w.heap.size, 3, none⟩ = some (.slice qa x2 qc) := ⟨xr_z3.cell rfl, xr_z3.cell rfl, xr_z3.cell rfl, xr_z3.cell rfl, xt_z3.cell rfl, xt_z3.cell rfl, xt_z3.cell rfl, xt_z3.cell rfl⟩
    refine hK.out _ _ (fun _ => hS) ?_
    clear hK K
    try simp only [Act.put, List.setIfInBounds_toArray, List.set_cons_zero, List.set_cons_succ, List.getElem_toArray, List.getElem_cons_zero, List.getElem_cons_succ]
    refine wpN_take (i := 7) (v := ?v17) rfl (by kernel_rfl) (fun _ _ _ h => h) hS (Or.inl ⟨by rfl, ?hy17⟩) ?hr17
    case hy17 => (intro wS hSw; (try dsimp only at hSw); go_simp; (try with_reducible rfl))
    try simp only [Act.put, List.setIfInBounds_toArray, List.set_cons_zero, List.set_cons_succ, List.getElem_toArray, List.getElem_cons_zero, List.getElem_cons_succ]
    refine wpN_step (i := 8) (by kernel_rfl) rfl (fun K hK => ?_)
    go_simp
    refine hK.out _ _ (fun h => absurd h (by decide)) ?_
    clear hK K
    try simp only [Act.put, List.setIfInBounds_toArray, List.set_cons_zero, List.set_cons_succ, List.getElem_toArray, List.getElem_cons_zero, List.getElem_cons_succ]
    refine wpN_done (by kernel_rfl) ?_
    refine NoPanic.normal ?_
    go_wp2_with fail
    go_ret
    exact ⟨rfl, B_z3⟩
  · have hc0 : (code == 0) = false := by simpa using hc
    have hc1 : (code != 0) = true := by simpa using hc
    go_wp2_with fail
    go_ret
    exact ⟨rfl, B_v6⟩
end Go.Proofs.Ytejpgifofkiofaa
