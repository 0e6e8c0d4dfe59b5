/-
  The chapter's example of terms.
-/
import Derived.Test.YtejpgifofkiofaaRowParts6p18
import Derived.Test.YtejpgifofkiofaaRowParts6p35
import Derived.Test.YtejpgifofkiofaaRowParts6p36
set_option linter.unusedVariables false
set_option linter.unusedSimpArgs false
namespace Go.Proofs.Ytejpgifofkiofaa
open Go.RowKit

def ty1 : Ty := .mk [] 0
def ty2 : Ty := .mk [ty1] 0
def ty3 : Ty := .mk [ty2] 0
theorem eta_ty1 : Ty.eta ty1 0 0 = .mk [] 0 0 [] := by rw [ty1, Ty.eta_eq]; simp [Ty.etas]
theorem eta_ty2 : Ty.eta ty2 0 0 = .mk [ty1] 0 1 [Ty.eta ty1 0 0] := by rw [ty2, Ty.eta_eq]; simp [Ty.etas]
theorem eta_ty3 : Ty.Eta ty3 1 0 = .mk [ty2] 1 0 [Ty.eta ty2 0 0] := by rw [Ty.Eta, if_neg (by simp), ty3, Ty.eta_eq]; simp [Ty.etas]
theorem size_ty : ty1.size = 1 ∧ ty2.size = 2 ∧ ty3.size = 3 := by simp [ty1, ty2, ty3, Ty.size, Ty.sizes]
theorem long_ty3 : (Ty.Eta ty3 1 0).Long := by rw [eta_ty3]; exact ⟨by simp [Tm.args, Tm.binds, Ty.etas], fun h => absurd h (by decide)⟩
theorem fit_ty3 : (Ty.Eta ty3 1 0).Fit := by
  rw [eta_ty3, eta_ty2, eta_ty1]
  simp [Tm.fit_iff]
theorem full_ty3 : (Ty.Eta ty3 1 0).full = 6 := by
  rw [eta_ty3, eta_ty2, eta_ty1]
  simp [Tm.full, Tm.fulls, Ty.sizes, ty1, ty2, Ty.size]

set_option maxRecDepth 100000 in
set_option maxHeartbeats 2000000 in
theorem known06 (w : World) : Calls Try.prog 16 #[] w fun e w' => e = .returned (.bool true) ∧ Below w.heap.size w w' := by
  go_enter Try.func16, Try.ntmps16
  go_wp2_with fail
  refine (of_k 0 (isSl_nil rpTy (fun _ => True) w) (by simp [Ty.sizes])).mono ?_
  rintro e w1 ⟨s1, b1, rfl, h1, hb1⟩
  obtain ⟨a1, c1, rfl, rfl⟩ := h1.shape
  simp only [args_mk', base_mk', List.length_nil] at h1 ⊢
  have H1 := Lib.hid (h1.weaken (F' := fun _ => True) fun _ _ _ => trivial); clear h1
  go_wp2_with fail
  obtain ⟨w2, hw2⟩ : ∃ w2, (w1.alloc (.cells #[.slice a1 0 c1, .int .i64 0] 40)).alloc (.cells #[.slice a1 0 c1, .int .i64 0] 40) = w2 := ⟨_, rfl⟩
  have b2 : Below w1.heap.size w1 w2 := by rw [← hw2]; exact ((Below.refl _ _).alloc (Nat.le_refl _) _).alloc (by simp) _
  have x2 : Blk w2 (w1.heap.size + 1) #[.slice a1 0 c1, .int .i64 0] 40 := by rw [← hw2]; exact Blk.new _ _ _ (by simp)
  try rw [hw2]
  clear hw2
  refine (of_k 0 (isSl_one x2 (H1.out.bel b2)) (by simp [Ty.sizes, Ty.size])).mono ?_
  rintro e w3 ⟨s3, b3, rfl, h3, hb3⟩
  obtain ⟨a3, c3, rfl, rfl⟩ := h3.shape
  simp only [args_mk', base_mk', List.length_cons, List.length_nil] at h3 ⊢
  have H3 := Lib.hid (show IsTy (fun _ => True) w3 (.slice a3 1 c3) (.int .i64 0) ty2 from h3.weaken (F' := fun _ => True) fun _ _ _ => trivial); clear h3
  go_wp2_with fail
  obtain ⟨w4, hw4⟩ : ∃ w4, w3.alloc (.cells #[.slice a3 1 c3, .int .i64 0] 40) = w4 := ⟨_, rfl⟩
  have b4 : Below w3.heap.size w3 w4 := by rw [← hw4]; exact (Below.refl _ _).alloc (Nat.le_refl _) _
  have x4 : Blk w4 w3.heap.size #[.slice a3 1 c3, .int .i64 0] 40 := by rw [← hw4]; exact Blk.new _ _ _ rfl
  try rw [hw4]
  clear hw4
  refine (of_k 0 (isSl_one x4 (H3.out.bel b4)) (by simp [Ty.sizes, size_ty.2.1])).mono ?_
  rintro e w5 ⟨s5, b5, rfl, h5, hb5⟩
  obtain ⟨a5, c5, rfl, rfl⟩ := h5.shape
  simp only [args_mk', base_mk', List.length_cons, List.length_nil] at h5 ⊢
  have H5 := Lib.hid (show IsTy (fun _ => True) w5 (.slice a5 1 c5) (.int .i64 0) ty3 from h5.weaken (F' := fun _ => True) fun _ _ _ => trivial); clear h5
  go_wp2_with fail
  refine (eta_k ty3 _ _ _ _ H5.out 1 0 w5 (by rw [size_ty.2.2]; omega) (Keep.refl _ _)).mono ?_
  rintro e w6 ⟨b6, k6, i6, a6, rfl, h6, hb6⟩
  have HL := Lib.hid (h6.weaken (F' := fun _ => True) fun _ _ _ => trivial)
  rw [eta_ty3] at h6
  obtain ⟨pa, pc, qa, qc, rfl, rfl, rfl, rfl⟩ := h6.shape
  simp only [Tm.binds, Tm.kind, Tm.index, Tm.args, List.length_cons, List.length_nil, Nat.zero_add] at h6 HL ⊢
  have B6 : Below w.heap.size w w6 := by
    have g1 := hb1.size; have g2 := b2.size; have g3 := hb3.size; have g4 := b4.size; have g5 := hb5.size
    exact ((((hb1.trans (b2.mono (by omega))).trans (hb3.mono (by omega))).trans (b4.mono (by omega))).trans (hb5.mono (by omega))).trans (hb6.mono (by omega))
  clear hb1 b2 hb3 b4 hb5 hb6 H1 H3 H5 x2 x4
  obtain ⟨_, _, _, hsa⟩ := h6.inv
  clear h6
  obtain ⟨hz1, hz2, bl, off, PA, A, PN, PC, N, C, Kd, Ix, ha, g1, g2, g3, g4, g5⟩ := sl_cells6 hsa
  obtain ⟨rfl, _⟩ := ha (by simp [Tm.args])
  have e0 := g1 0 (by simp [Tm.args])
  have e1 := g2 0 (by simp [Tm.args])
  have e2 := g3 0 (by simp [Tm.args])
  have e3 := g4 0 (by simp [Tm.args])
  have t5 := g5 0 (by simp [Tm.args])
  simp only [Tm.args, List.getElem_cons_zero] at t5
  rw [eta_ty2] at t5
  obtain ⟨q1, q2, q3, q4, hq1, hq2, hq3, hq4⟩ := t5.shape
  simp only [Tm.binds, Tm.kind, Tm.index, Tm.args, List.length_cons, List.length_nil, Nat.zero_add] at hq1 hq2 hq3 hq4
  rw [hq1] at e0 t5; rw [hq2] at e1 t5; rw [hq3] at e2 t5; rw [hq4] at e3 t5
  obtain ⟨_, _, _, hsb⟩ := t5.inv
  obtain ⟨hz3, hz4, bl2, off2, PA2, A2, PN2, PC2, N2, C2, Kd2, Ix2, ha2, k1, k2, k3, k4, k5⟩ := sl_cells6 hsb
  obtain ⟨rfl, _⟩ := ha2 (by simp [Tm.args])
  have m0 := k1 0 (by simp [Tm.args])
  have m1 := k2 0 (by simp [Tm.args])
  have m2 := k3 0 (by simp [Tm.args])
  have m3 := k4 0 (by simp [Tm.args])
  have t6 := k5 0 (by simp [Tm.args])
  simp only [Tm.args, List.getElem_cons_zero] at t6
  rw [eta_ty1] at t6
  obtain ⟨r1, r2, r3, r4, hr1, hr2, hr3, hr4⟩ := t6.shape
  simp only [Tm.binds, Tm.kind, Tm.index, Tm.args, List.length_nil] at hr1 hr2 hr3 hr4
  rw [hr1] at m0; rw [hr2] at m1; rw [hr3] at m2; rw [hr4] at m3
  simp only [Nat.zero_mul, Nat.add_zero] at e0 e1 e2 e3 m0 m1 m2 m3
  clear hz1 hz2 hz3 hz4 g1 g2 g3 g4 g5 k1 k2 k3 k4 k5 t5 t6 hsa hsb ha ha2 hq1 hq2 hq3 hq4 hr1 hr2 hr3 hr4
  go_wp2_with fail
  obtain ⟨w7, hw7⟩ : ∃ w7, w6.alloc (.cells #[.slice pa 1 pc, .int .i64 1, .int .i64 0, .slice (some ⟨bl, off, none⟩) 1 qc] 37) = w7 := ⟨_, rfl⟩
  obtain ⟨p, hp⟩ : ∃ p, w6.heap.size = p := ⟨_, rfl⟩
  have b7 : Below w6.heap.size w6 w7 := by rw [← hw7]; exact (Below.refl _ _).alloc (Nat.le_refl _) _
  have x7 : Blk w7 p #[.slice pa 1 pc, .int .i64 1, .int .i64 0, .slice (some ⟨bl, off, none⟩) 1 qc] 37 := by rw [← hw7]; exact Blk.new _ _ _ hp.symm
  have hpw : w.heap.size ≤ p := by rw [← hp]; exact B6.size
  try rw [hw7]
  try rw [hp]
  clear hw7
  refine (var_k (Ty.Eta ty3 1 0) _ _ _ _ _ _ HL.out w7 ((Keep.refl _ _).below b7) (by rw [full_ty3]; omega) fit_ty3).mono ?_
  intro e w8 h
  obtain ⟨r, Hr, rfl, hb8⟩ := h
  obtain rfl : r = true := Hr.out.2 long_ty3
  rw [show (Ty.Eta ty3 1 0).kind = 1 by rw [eta_ty3]; rfl, show (Ty.Eta ty3 1 0).headIx = 0 by rw [eta_ty3]; rfl]
  simp only [if_true]
  have kp : Keep (fun _ => True) w6 w8 := ((Keep.refl _ _).below b7).below hb8
  have x8 := x7.below hb8
  have B8 := (B6.trans (b7.mono B6.size)).trans (hb8.mono (Nat.le_trans B6.size b7.size))
  have n0 := kp _ _ _ trivial e0
  have n1 := kp _ _ _ trivial e1
  have n2 := kp _ _ _ trivial e2
  have n3 := kp _ _ _ trivial e3
  have o0 := kp _ _ _ trivial m0
  have o1 := kp _ _ _ trivial m1
  have o2 := kp _ _ _ trivial m2
  have o3 := kp _ _ _ trivial m3
  have hl1 := Keep.lt n0
  have hl2 := Keep.lt o0
  have hl3 := x8.lt
  have t0 : w8.cell? ⟨p, 0, none⟩ = some (.slice pa 1 pc) := x8.cell rfl
  have t3 : w8.cell? ⟨p, 3, none⟩ = some (.slice (some ⟨bl, off, none⟩) 1 qc) := x8.cell rfl
  clear e0 e1 e2 e3 m0 m1 m2 m3 x7 b7 kp HL Hr B6 x8 hb8
  go_wp2_with fail
  go_ret
  exact ⟨rfl, B8.alloc B8.size _⟩
end Go.Proofs.Ytejpgifofkiofaa

