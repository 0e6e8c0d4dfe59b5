/-
  The chapter's example of terms. The type of a head: the program's and the document's. A context with more binders: the program's and the document's. What the members of a gathering yield: a list of standard shapes.
-/
import Derived.Test.YtejpgifofkiofaaRowWell6p18
import Derived.Test.YtejpgifofkiofaaRowWell6p19
import Derived.Test.YtejpgifofkiofaaRowWell6p20
import Derived.Test.YtejpgifofkiofaaRowWell6p13
import Derived.Test.YtejpgifofkiofaaRowWell6p7
import Derived.Test.YtejpgifofkiofaaRowWell6p9
import Derived.Deep.QuietTactic
import Derived.BigQuiet
import Derived.WalkSmall
import Derived.Test.YtejpgifofkiofaaRowWell6p15
import Derived.Test.YtejpgifofkiofaaRowWell6p10
set_option linter.unusedVariables false
set_option linter.unusedSimpArgs false
namespace Go.Proofs.Ytejpgifofkiofaa
open Go.RowKit

def ty1 : Ty := .mk [] 0
def ty2 : Ty := .mk [ty1] 0
def ty3 : Ty := .mk [ty2] 0
theorem eta_ty1 : Ty.eta ty1 0 0 = .mk [] 0 0 [] := by rw [ty1, Ty.eta_eq]; simp [Ty.etas]
theorem eta_ty2 : Ty.eta ty2 0 0 = .mk [ty1] 0 1 [Ty.eta ty1 0 0] := by rw [ty2, Ty.eta_eq]; simp [Ty.etas]
theorem eta_ty3 : Ty.Eta ty3 1 0 = .mk [ty2] 1 0 [Ty.eta ty2 0 0] := by rw [Ty.Eta, if_neg (by simp), ty3, Ty.eta_eq]; simp [Ty.etas]
theorem size_ty : ty1.size = 1 ∧ ty2.size = 2 ∧ ty3.size = 3 := by simp [ty1, ty2, ty3, Ty.size, Ty.sizes]
theorem long_ty3 : (Ty.Eta ty3 1 0).Long := by rw [eta_ty3]; exact ⟨by simp [Tm.args, Tm.binds, Ty.etas], fun h => absurd h (by decide)⟩
theorem fit_ty3 : (Ty.Eta ty3 1 0).Fit := by
  rw [eta_ty3, eta_ty2, eta_ty1]
  simp [Tm.fit_iff]
theorem full_ty3 : (Ty.Eta ty3 1 0).full = 6 := by
  rw [eta_ty3, eta_ty2, eta_ty1]
  simp [Tm.full, Tm.fulls, Ty.sizes, ty1, ty2, Ty.size]

set_option maxRecDepth 100000 in
set_option maxHeartbeats 2000000 in
theorem known06 (w : World) : Calls Try.prog 16 #[] w fun e w' => e = .returned (.bool true) ∧ Below w.heap.size w w' := by
  go_enter Try.func16, Try.ntmps16
  go_wp2_with fail
  refine (of_k 0 (isSl_nil rpTy (fun _ => True) w) (by simp [Ty.sizes])).mono ?_
  rintro e w1 ⟨s1, b1, rfl, h1, hb1⟩
  obtain ⟨a1, c1, rfl, rfl⟩ := h1.shape
  simp only [args_mk', base_mk', List.length_nil] at h1 ⊢
  have H1 := Lib.hid (h1.weaken (F' := fun _ => True) fun _ _ _ => trivial); clear h1
  go_wp2_with fail
  obtain ⟨w2, hw2⟩ : ∃ w2, (w1.alloc (.cells #[.slice a1 0 c1, .int .i64 0] 40)).alloc (.cells #[.slice a1 0 c1, .int .i64 0] 40) = w2 := ⟨_, rfl⟩
  have b2 : Below w1.heap.size w1 w2 := by rw [← hw2]; exact ((Below.refl _ _).alloc (Nat.le_refl _) _).alloc (by simp) _
  have x2 : Blk w2 (w1.heap.size + 1) #[.slice a1 0 c1, .int .i64 0] 40 := by rw [← hw2]; exact Blk.new _ _ _ (by simp)
  try rw [hw2]
  clear hw2
  refine (of_k 0 (isSl_one x2 (H1.out.bel b2)) (by simp [Ty.sizes, Ty.size])).mono ?_
  rintro e w3 ⟨s3, b3, rfl, h3, hb3⟩
  obtain ⟨a3, c3, rfl, rfl⟩ := h3.shape
  simp only [args_mk', base_mk', List.length_cons, List.length_nil] at h3 ⊢
  have H3 := Lib.hid (show IsTy (fun _ => True) w3 (.slice a3 1 c3) (.int .i64 0) ty2 from h3.weaken (F' := fun _ => True) fun _ _ _ => trivial); clear h3
  go_wp2_with fail
  obtain ⟨w4, hw4⟩ : ∃ w4, w3.alloc (.cells #[.slice a3 1 c3, .int .i64 0] 40) = w4 := ⟨_, rfl⟩
  have b4 : Below w3.heap.size w3 w4 := by rw [← hw4]; exact (Below.refl _ _).alloc (Nat.le_refl _) _
  have x4 : Blk w4 w3.heap.size #[.slice a3 1 c3, .int .i64 0] 40 := by rw [← hw4]; exact Blk.new _ _ _ rfl
  try rw [hw4]
  clear hw4
  refine (of_k 0 (isSl_one x4 (H3.out.bel b4)) (by simp [Ty.sizes, size_ty.2.1])).mono ?_
  rintro e w5 ⟨s5, b5, rfl, h5, hb5⟩
  obtain ⟨a5, c5, rfl, rfl⟩ := h5.shape
  simp only [args_mk', base_mk', List.length_cons, List.length_nil] at h5 ⊢
  have H5 := Lib.hid (show IsTy (fun _ => True) w5 (.slice a5 1 c5) (.int .i64 0) ty3 from h5.weaken (F' := fun _ => True) fun _ _ _ => trivial); clear h5
  go_wp2_with fail
  refine (eta_k ty3 _ _ _ _ H5.out 1 0 w5 (by rw [size_ty.2.2]; omega) (Keep.refl _ _)).mono ?_
  rintro e w6 ⟨b6, k6, i6, a6, rfl, h6, hb6⟩
  have HL := Lib.hid (h6.weaken (F' := fun _ => True) fun _ _ _ => trivial)
  rw [eta_ty3] at h6
  obtain ⟨pa, pc, qa, qc, rfl, rfl, rfl, rfl⟩ := h6.shape
  simp only [Tm.binds, Tm.kind, Tm.index, Tm.args, List.length_cons, List.length_nil, Nat.zero_add] at h6 HL ⊢
  have B6 : Below w.heap.size w w6 := by
    have g1 := hb1.size; have g2 := b2.size; have g3 := hb3.size; have g4 := b4.size; have g5 := hb5.size
    exact ((((hb1.trans (b2.mono (by omega))).trans (hb3.mono (by omega))).trans (b4.mono (by omega))).trans (hb5.mono (by omega))).trans (hb6.mono (by omega))
  clear hb1 b2 hb3 b4 hb5 hb6 H1 H3 H5 x2 x4
  obtain ⟨_, _, _, hsa⟩ := h6.inv
  clear h6
  obtain ⟨hz1, hz2, bl, off, PA, A, PN, PC, N, C, Kd, Ix, ha, g1, g2, g3, g4, g5⟩ := sl_cells6 hsa
  obtain ⟨rfl, _⟩ := ha (by simp [Tm.args])
  have e0 := g1 0 (by simp [Tm.args])
  have e1 := g2 0 (by simp [Tm.args])
  have e2 := g3 0 (by simp [Tm.args])
  have e3 := g4 0 (by simp [Tm.args])
  have t5 := g5 0 (by simp [Tm.args])
  simp only [Tm.args, List.getElem_cons_zero] at t5
  rw [eta_ty2] at t5
  obtain ⟨q1, q2, q3, q4, hq1, hq2, hq3, hq4⟩ := t5.shape
  simp only [Tm.binds, Tm.kind, Tm.index, Tm.args, List.length_cons, List.length_nil, Nat.zero_add] at hq1 hq2 hq3 hq4
  rw [hq1] at e0 t5; rw [hq2] at e1 t5; rw [hq3] at e2 t5; rw [hq4] at e3 t5
  obtain ⟨_, _, _, hsb⟩ := t5.inv
  obtain ⟨hz3, hz4, bl2, off2, PA2, A2, PN2, PC2, N2, C2, Kd2, Ix2, ha2, k1, k2, k3, k4, k5⟩ := sl_cells6 hsb
  obtain ⟨rfl, _⟩ := ha2 (by simp [Tm.args])
  have m0 := k1 0 (by simp [Tm.args])
  have m1 := k2 0 (by simp [Tm.args])
  have m2 := k3 0 (by simp [Tm.args])
  have m3 := k4 0 (by simp [Tm.args])
  have t6 := k5 0 (by simp [Tm.args])
  simp only [Tm.args, List.getElem_cons_zero] at t6
  rw [eta_ty1] at t6
  obtain ⟨r1, r2, r3, r4, hr1, hr2, hr3, hr4⟩ := t6.shape
  simp only [Tm.binds, Tm.kind, Tm.index, Tm.args, List.length_nil] at hr1 hr2 hr3 hr4
  rw [hr1] at m0; rw [hr2] at m1; rw [hr3] at m2; rw [hr4] at m3
  simp only [Nat.zero_mul, Nat.add_zero] at e0 e1 e2 e3 m0 m1 m2 m3
  clear hz1 hz2 hz3 hz4 g1 g2 g3 g4 g5 k1 k2 k3 k4 k5 t5 t6 hsa hsb ha ha2 hq1 hq2 hq3 hq4 hr1 hr2 hr3 hr4
  go_wp2_with fail
  obtain ⟨w7, hw7⟩ : ∃ w7, w6.alloc (.cells #[.slice pa 1 pc, .int .i64 1, .int .i64 0, .slice (some ⟨bl, off, none⟩) 1 qc] 37) = w7 := ⟨_, rfl⟩
  obtain ⟨p, hp⟩ : ∃ p, w6.heap.size = p := ⟨_, rfl⟩
  have b7 : Below w6.heap.size w6 w7 := by rw [← hw7]; exact (Below.refl _ _).alloc (Nat.le_refl _) _
  have x7 : Blk w7 p #[.slice pa 1 pc, .int .i64 1, .int .i64 0, .slice (some ⟨bl, off, none⟩) 1 qc] 37 := by rw [← hw7]; exact Blk.new _ _ _ hp.symm
  have hpw : w.heap.size ≤ p := by rw [← hp]; exact B6.size
  try rw [hw7]
  try rw [hp]
  clear hw7
  refine (var_k (Ty.Eta ty3 1 0) _ _ _ _ _ _ HL.out w7 ((Keep.refl _ _).below b7) (by rw [full_ty3]; omega) fit_ty3).mono ?_
  intro e w8 h
  obtain ⟨r, Hr, rfl, hb8⟩ := h
  obtain rfl : r = true := Hr.out.2 long_ty3
  rw [show (Ty.Eta ty3 1 0).kind = 1 by rw [eta_ty3]; rfl, show (Ty.Eta ty3 1 0).headIx = 0 by rw [eta_ty3]; rfl]
  simp only [if_true]
  have kp : Keep (fun _ => True) w6 w8 := ((Keep.refl _ _).below b7).below hb8
  have x8 := x7.below hb8
  have B8 := (B6.trans (b7.mono B6.size)).trans (hb8.mono (Nat.le_trans B6.size b7.size))
  have n0 := kp _ _ _ trivial e0
  have n1 := kp _ _ _ trivial e1
  have n2 := kp _ _ _ trivial e2
  have n3 := kp _ _ _ trivial e3
  have o0 := kp _ _ _ trivial m0
  have o1 := kp _ _ _ trivial m1
  have o2 := kp _ _ _ trivial m2
  have o3 := kp _ _ _ trivial m3
  have hl1 := Keep.lt n0
  have hl2 := Keep.lt o0
  have hl3 := x8.lt
  have t0 : w8.cell? ⟨p, 0, none⟩ = some (.slice pa 1 pc) := x8.cell rfl
  have t3 : w8.cell? ⟨p, 3, none⟩ = some (.slice (some ⟨bl, off, none⟩) 1 qc) := x8.cell rfl
  clear e0 e1 e2 e3 m0 m1 m2 m3 x7 b7 kp HL Hr B6 x8 hb8
  go_wp2_with fail
  go_ret
  exact ⟨rfl, B8.alloc B8.size _⟩
end Go.Proofs.Ytejpgifofkiofaa

namespace Go.Proofs.Ytejpgifofkiofaa
open Go.RowKit

def headTy (C M X : List Ty) (k i : Int) : Option Ty :=
  if i < 0 then none else if k = 0 then X.reverse[i.toNat]? else if k = 1 then C[i.toNat]? else if k = 2 then M[i.toNat]? else none
theorem headTy_neg {C M X : List Ty} {k i : Int} (h : i < 0) : headTy C M X k i = none := by rw [headTy, if_pos h]
theorem headTy_0 {C M X : List Ty} (i : Nat) : headTy C M X 0 i = X.reverse[i]? := by rw [headTy, if_neg (by omega), if_pos rfl]; rfl
theorem headTy_1 {C M X : List Ty} (i : Nat) : headTy C M X 1 i = C[i]? := by rw [headTy, if_neg (by omega), if_neg (by decide), if_pos rfl]; rfl
theorem headTy_2 {C M X : List Ty} (i : Nat) : headTy C M X 2 i = M[i]? := by rw [headTy, if_neg (by omega), if_neg (by decide), if_neg (by decide), if_pos rfl]; rfl
theorem headTy_o {C M X : List Ty} {k i : Int} (h0 : k ≠ 0) (h1 : k ≠ 1) (h2 : k ≠ 2) : headTy C M X k i = none := by
  rw [headTy, if_neg h0, if_neg h1, if_neg h2]; split <;> rfl

def tyZ : Ty := .mk [] 0
theorem isTy_zero (F : Nat → Prop) (w : World) : IsTy F w (.slice none 0 0) (.int .i64 0) tyZ := isTy_mk (isSl_nil rpTy F w) 0
def HeadPost (F : Nat → Prop) (o : Option Ty) (w : World) (e : Ending) (w' : World) : Prop := ∃ s b, e = .returned (.tuple #[.agg #[s, b], .bool o.isSome]) ∧ IsTy F w' s b (o.getD tyZ) ∧ Below w.heap.size w w'

theorem sl_at {G F : Nat → Prop} {w : World} {a : Option Addr} {n c : Nat} {l : List Ty} (h : IsSl2 rpTy G F w (.slice a n c) l) (j : Nat) (hj : j < l.length) : ∃ bl off A N C B, a = some ⟨bl, off, none⟩ ∧ G bl ∧
    w.cell? ⟨bl, off + j * 2, none⟩ = some (.slice A N C) ∧ w.cell? ⟨bl, off + j * 2 + 1, none⟩ = some (.int .i64 B) ∧ IsTy F w (.slice A N C) (.int .i64 B) l[j] := by
  obtain ⟨a', c', bl, off, X, hv, _, ha, h1, h2⟩ := h
  cases hv
  obtain ⟨ha, hG⟩ := ha (by omega)
  obtain ⟨s, b, hx, ht⟩ := h2 j hj
  obtain ⟨sa, sc, rfl, rfl⟩ := ht.shape
  exact ⟨bl, off, _, _, _, _, ha, hG, h1 j 0 _ hj (by rw [hx]; rfl), h1 j 1 _ hj (by rw [hx]; rfl), ht⟩

theorem head_end0 {F : Nat → Prop} {w w3 : World} {o : Option Ty} (B3 : Below w.heap.size w w3) (ho : o = none) :
    HeadPost F o w (.returned (.tuple #[.agg #[.slice none 0 0, .int .i64 0], .bool false])) w3 := by
  subst ho
  exact ⟨_, _, rfl, isTy_zero _ _, B3⟩
theorem head_end {F : Nat → Prop} {w w3 : World} {A B : Value} {t : Ty} {o : Option Ty} {p : Nat} (hF : ∀ q, F q → q < w.heap.size) (hp : w.heap.size ≤ p) (B3 : Below w.heap.size w w3) (ht : IsTy F w A B t) (ho : o.getD tyZ = t) (b : Bool) (hb : b = o.isSome) :
    HeadPost F o w (.returned (.tuple #[.agg #[A, B], .bool b])) ((w3.setCell ⟨p, 0, none⟩ A).setCell ⟨p, 1, none⟩ B) := by
  subst hb ho
  have hn : ¬ F p := fun h => by have := hF p h; omega
  exact ⟨_, _, rfl, ht.keep ((((Keep.refl _ _).below B3).setCell _ _ hn).setCell _ _ hn), (B3.setCell (by simp; omega) _).setCell (by simp; omega) _⟩

set_option maxRecDepth 100000 in
set_option maxHeartbeats 4000000 in
theorem headType_k {F : Nat → Prop} {w : World} {b : Int} {cv mv xv : Value} {C M X : List Ty} (hF : ∀ q, F q → q < w.heap.size) (hc : IsSl rpTy F w cv C) (hm : IsSl rpTy F w mv M) (hx : IsSl2 rpTy (fun _ => True) F w xv X) (k i : Int) (hi : i ≤ 9223372036854775807) :
    Calls Try.prog 106 #[.agg #[.int .i64 b, cv, mv], xv, .agg #[.int .i64 k, .int .i64 i]] w (HeadPost F (headTy C M X k i) w) := by
  obtain ⟨ca, cc, rfl⟩ := hc.shape
  obtain ⟨ma, mc, rfl⟩ := hm.shape
  obtain ⟨xa, xc, rfl⟩ := hx.shape
  have Hxl : Hid ((X.length : Int) ≤ 9223372036854775807) := by obtain ⟨_, _, _, _, _, _, h, _⟩ := hx; unfold maxLen at h; show _ ≤ _; omega
  have Hc := Lib.hid (sl_at (IsSl2.of hc)); have Hm := Lib.hid (sl_at (IsSl2.of hm)); have Hx := Lib.hid (sl_at hx)
  have hF := Lib.hid hF
  clear hc hm hx
  obtain ⟨o, ho⟩ : ∃ o, headTy C M X k i = o := ⟨_, rfl⟩
  have Ho := Lib.hid ho
  rw [ho]
  clear ho
  by_cases k1 : k = 1
  · subst k1
    go_enter Try.func106, Try.ntmps106
    go_wp2_with fail
    obtain ⟨w3, hw3⟩ : ∃ w3, ((w.alloc (.cells #[.int .i64 b, .slice ca C.length cc, .slice ma M.length mc] 90)).alloc (.cells #[.int .i64 1, .int .i64 i] 34)).alloc (.cells #[.slice none 0 0, .int .i64 0] 40) = w3 := ⟨_, rfl⟩
    have B_w3 : Below w.heap.size w w3 := by rw [← hw3]; exact (((Below.refl _ _).alloc (Nat.le_refl _) _).alloc (by simp) _).alloc (by simp; omega) _
    have x0_w3 : Blk w3 w.heap.size #[.int .i64 b, .slice ca C.length cc, .slice ma M.length mc] 90 := by rw [← hw3]; exact ((Blk.new _ _ _ rfl).alloc _).alloc _
    have x1_w3 : Blk w3 (w.heap.size + 1) #[.int .i64 1, .int .i64 i] 34 := by rw [← hw3]; exact (Blk.new _ _ _ (by simp)).alloc _
    have x2_w3 : Blk w3 (w.heap.size + 1 + 1) #[.slice none 0 0, .int .i64 0] 40 := by rw [← hw3]; exact Blk.new _ _ _ (by simp)
    rw [hw3]
    clear hw3
    have cx00 : w3.cell? ⟨w.heap.size, 0, none⟩ = some (.int .i64 b) := x0_w3.cell rfl
    have cx01 : w3.cell? ⟨w.heap.size, 1, none⟩ = some (.slice ca C.length cc) := x0_w3.cell rfl
    have cx02 : w3.cell? ⟨w.heap.size, 2, none⟩ = some (.slice ma M.length mc) := x0_w3.cell rfl
    have lx0 := x0_w3.lt
    have cx10 : w3.cell? ⟨w.heap.size + 1, 0, none⟩ = some (.int .i64 1) := x1_w3.cell rfl
    have cx11 : w3.cell? ⟨w.heap.size + 1, 1, none⟩ = some (.int .i64 i) := x1_w3.cell rfl
    have lx1 := x1_w3.lt
    have cx20 : w3.cell? ⟨w.heap.size + 1 + 1, 0, none⟩ = some (.slice none 0 0) := x2_w3.cell rfl
    have cx21 : w3.cell? ⟨w.heap.size + 1 + 1, 1, none⟩ = some (.int .i64 0) := x2_w3.cell rfl
    have lx2 := x2_w3.lt
    go_quiet (fail)
    clear cx00 cx01 cx02 lx0 cx10 cx11 lx1 cx20 cx21 lx2
    obtain ⟨w5, hw5⟩ : ∃ x, w3.drewN nq = x := ⟨_, rfl⟩
    rw [hw5]
    have hbx : Below w3.heap.size w3 w5 := by rw [← hw5]; exact below_drewN (Below.refl _ _) _
    clear hw5
    have x0_w5 := x0_w3.below hbx
    have x1_w5 := x1_w3.below hbx
    have x2_w5 := x2_w3.below hbx
    have B_w5 := B_w3.trans (hbx.mono B_w3.size)
    clear x0_w3 x1_w3 x2_w3 B_w3 hbx
    have c0 : w5.cell? ⟨w.heap.size + 1 + 1, 0, none⟩ = some (.slice none 0 0) := x2_w5.cell rfl
    have c1 : w5.cell? ⟨w.heap.size + 1 + 1, 1, none⟩ = some (.int .i64 0) := x2_w5.cell rfl
    have f0 := x2_w5.free 0
    have f1 := x2_w5.free 1
    by_cases i0 : i < 0
    · go_wp2_with fail
      have z0_0 := ((x2_w5).set 0 (.slice none 0 0)).cell (i := 0) (v := .slice none 0 0) rfl
      have z0_1 := (((x2_w5).set 0 (.slice none 0 0)).set 1 (.int .i64 0)).cell (i := 0) (v := .slice none 0 0) rfl
      have z1_1 := (((x2_w5).set 0 (.slice none 0 0)).set 1 (.int .i64 0)).cell (i := 1) (v := .int .i64 0) rfl
      refine bodyPost_ret (v := .tuple #[.agg #[.slice none 0 0, .int .i64 0], .bool false]) (by simp [results, Try.results106, go_sem, z0_0, z0_1, z1_1]) rfl ?_
      clear z0_0 z0_1 z1_1
      exact head_end hF.out (by omega) B_w5 (isTy_zero _ _) (by rw [← Ho.out, headTy_neg i0]; rfl) _ (by rw [← Ho.out, headTy_neg i0]; rfl)
    obtain ⟨j, rfl⟩ : ∃ j : Nat, i = (j : Int) := ⟨i.toNat, by omega⟩
    by_cases i1 : j < C.length
    · skip
      obtain ⟨bl, off, A, N, Cc, Bb, rfl, _, e1, e2, hT⟩ := Hc.out j i1
      have e1 : w5.cell? ⟨bl, off + j * 2, none⟩ = some (.slice A N Cc) := ((Keep.refl (fun _ => True) _).below B_w5) _ _ _ trivial e1
      have e2 : w5.cell? ⟨bl, off + j * 2 + 1, none⟩ = some (.int .i64 Bb) := ((Keep.refl (fun _ => True) _).below B_w5) _ _ _ trivial e2
      have HT := Lib.hid hT; clear hT
      have l0 := Keep.lt e1
      go_wp2_with fail
      have z0_0 := ((x2_w5).set 0 (.slice A N Cc)).cell (i := 0) (v := .slice A N Cc) rfl
      have z0_1 := (((x2_w5).set 0 (.slice A N Cc)).set 1 (.int .i64 Bb)).cell (i := 0) (v := .slice A N Cc) rfl
      have z1_1 := (((x2_w5).set 0 (.slice A N Cc)).set 1 (.int .i64 Bb)).cell (i := 1) (v := .int .i64 Bb) rfl
      refine bodyPost_ret (v := .tuple #[.agg #[.slice A N Cc, .int .i64 Bb], .bool true]) (by simp [results, Try.results106, go_sem, z0_0, z0_1, z1_1]) rfl ?_
      clear z0_0 z0_1 z1_1
      exact head_end hF.out (by omega) B_w5 HT.out (by rw [← Ho.out, headTy_1, List.getElem?_eq_getElem i1]; rfl) _ (by rw [← Ho.out, headTy_1, List.getElem?_eq_getElem i1]; rfl)
    · go_wp2_with fail
      have z0_0 := ((x2_w5).set 0 (.slice none 0 0)).cell (i := 0) (v := .slice none 0 0) rfl
      have z0_1 := (((x2_w5).set 0 (.slice none 0 0)).set 1 (.int .i64 0)).cell (i := 0) (v := .slice none 0 0) rfl
      have z1_1 := (((x2_w5).set 0 (.slice none 0 0)).set 1 (.int .i64 0)).cell (i := 1) (v := .int .i64 0) rfl
      refine bodyPost_ret (v := .tuple #[.agg #[.slice none 0 0, .int .i64 0], .bool false]) (by simp [results, Try.results106, go_sem, z0_0, z0_1, z1_1]) rfl ?_
      clear z0_0 z0_1 z1_1
      exact head_end hF.out (by omega) B_w5 (isTy_zero _ _) (by rw [← Ho.out, headTy_1, List.getElem?_eq_none (by omega)]; rfl) _ (by rw [← Ho.out, headTy_1, List.getElem?_eq_none (by omega)]; rfl)
  by_cases k2 : k = 2
  · subst k2
    go_enter Try.func106, Try.ntmps106
    go_wp2_with fail
    obtain ⟨w3, hw3⟩ : ∃ w3, ((w.alloc (.cells #[.int .i64 b, .slice ca C.length cc, .slice ma M.length mc] 90)).alloc (.cells #[.int .i64 2, .int .i64 i] 34)).alloc (.cells #[.slice none 0 0, .int .i64 0] 40) = w3 := ⟨_, rfl⟩
    have B_w3 : Below w.heap.size w w3 := by rw [← hw3]; exact (((Below.refl _ _).alloc (Nat.le_refl _) _).alloc (by simp) _).alloc (by simp; omega) _
    have x0_w3 : Blk w3 w.heap.size #[.int .i64 b, .slice ca C.length cc, .slice ma M.length mc] 90 := by rw [← hw3]; exact ((Blk.new _ _ _ rfl).alloc _).alloc _
    have x1_w3 : Blk w3 (w.heap.size + 1) #[.int .i64 2, .int .i64 i] 34 := by rw [← hw3]; exact (Blk.new _ _ _ (by simp)).alloc _
    have x2_w3 : Blk w3 (w.heap.size + 1 + 1) #[.slice none 0 0, .int .i64 0] 40 := by rw [← hw3]; exact Blk.new _ _ _ (by simp)
    rw [hw3]
    clear hw3
    have cx00 : w3.cell? ⟨w.heap.size, 0, none⟩ = some (.int .i64 b) := x0_w3.cell rfl
    have cx01 : w3.cell? ⟨w.heap.size, 1, none⟩ = some (.slice ca C.length cc) := x0_w3.cell rfl
    have cx02 : w3.cell? ⟨w.heap.size, 2, none⟩ = some (.slice ma M.length mc) := x0_w3.cell rfl
    have lx0 := x0_w3.lt
    have cx10 : w3.cell? ⟨w.heap.size + 1, 0, none⟩ = some (.int .i64 2) := x1_w3.cell rfl
    have cx11 : w3.cell? ⟨w.heap.size + 1, 1, none⟩ = some (.int .i64 i) := x1_w3.cell rfl
    have lx1 := x1_w3.lt
    have cx20 : w3.cell? ⟨w.heap.size + 1 + 1, 0, none⟩ = some (.slice none 0 0) := x2_w3.cell rfl
    have cx21 : w3.cell? ⟨w.heap.size + 1 + 1, 1, none⟩ = some (.int .i64 0) := x2_w3.cell rfl
    have lx2 := x2_w3.lt
    go_quiet (fail)
    clear cx00 cx01 cx02 lx0 cx10 cx11 lx1 cx20 cx21 lx2
    obtain ⟨w5, hw5⟩ : ∃ x, w3.drewN nq = x := ⟨_, rfl⟩
    rw [hw5]
    have hbx : Below w3.heap.size w3 w5 := by rw [← hw5]; exact below_drewN (Below.refl _ _) _
    clear hw5
    have x0_w5 := x0_w3.below hbx
    have x1_w5 := x1_w3.below hbx
    have x2_w5 := x2_w3.below hbx
    have B_w5 := B_w3.trans (hbx.mono B_w3.size)
    clear x0_w3 x1_w3 x2_w3 B_w3 hbx
    have c0 : w5.cell? ⟨w.heap.size + 1 + 1, 0, none⟩ = some (.slice none 0 0) := x2_w5.cell rfl
    have c1 : w5.cell? ⟨w.heap.size + 1 + 1, 1, none⟩ = some (.int .i64 0) := x2_w5.cell rfl
    have f0 := x2_w5.free 0
    have f1 := x2_w5.free 1
    by_cases i0 : i < 0
    · go_wp2_with fail
      have z0_0 := ((x2_w5).set 0 (.slice none 0 0)).cell (i := 0) (v := .slice none 0 0) rfl
      have z0_1 := (((x2_w5).set 0 (.slice none 0 0)).set 1 (.int .i64 0)).cell (i := 0) (v := .slice none 0 0) rfl
      have z1_1 := (((x2_w5).set 0 (.slice none 0 0)).set 1 (.int .i64 0)).cell (i := 1) (v := .int .i64 0) rfl
      refine bodyPost_ret (v := .tuple #[.agg #[.slice none 0 0, .int .i64 0], .bool false]) (by simp [results, Try.results106, go_sem, z0_0, z0_1, z1_1]) rfl ?_
      clear z0_0 z0_1 z1_1
      exact head_end hF.out (by omega) B_w5 (isTy_zero _ _) (by rw [← Ho.out, headTy_neg i0]; rfl) _ (by rw [← Ho.out, headTy_neg i0]; rfl)
    obtain ⟨j, rfl⟩ : ∃ j : Nat, i = (j : Int) := ⟨i.toNat, by omega⟩
    by_cases i1 : j < M.length
    · skip
      obtain ⟨bl, off, A, N, Cc, Bb, rfl, _, e1, e2, hT⟩ := Hm.out j i1
      have e1 : w5.cell? ⟨bl, off + j * 2, none⟩ = some (.slice A N Cc) := ((Keep.refl (fun _ => True) _).below B_w5) _ _ _ trivial e1
      have e2 : w5.cell? ⟨bl, off + j * 2 + 1, none⟩ = some (.int .i64 Bb) := ((Keep.refl (fun _ => True) _).below B_w5) _ _ _ trivial e2
      have HT := Lib.hid hT; clear hT
      have l0 := Keep.lt e1
      go_wp2_with fail
      have z0_0 := ((x2_w5).set 0 (.slice A N Cc)).cell (i := 0) (v := .slice A N Cc) rfl
      have z0_1 := (((x2_w5).set 0 (.slice A N Cc)).set 1 (.int .i64 Bb)).cell (i := 0) (v := .slice A N Cc) rfl
      have z1_1 := (((x2_w5).set 0 (.slice A N Cc)).set 1 (.int .i64 Bb)).cell (i := 1) (v := .int .i64 Bb) rfl
      refine bodyPost_ret (v := .tuple #[.agg #[.slice A N Cc, .int .i64 Bb], .bool true]) (by simp [results, Try.results106, go_sem, z0_0, z0_1, z1_1]) rfl ?_
      clear z0_0 z0_1 z1_1
      exact head_end hF.out (by omega) B_w5 HT.out (by rw [← Ho.out, headTy_2, List.getElem?_eq_getElem i1]; rfl) _ (by rw [← Ho.out, headTy_2, List.getElem?_eq_getElem i1]; rfl)
    · go_wp2_with fail
      have z0_0 := ((x2_w5).set 0 (.slice none 0 0)).cell (i := 0) (v := .slice none 0 0) rfl
      have z0_1 := (((x2_w5).set 0 (.slice none 0 0)).set 1 (.int .i64 0)).cell (i := 0) (v := .slice none 0 0) rfl
      have z1_1 := (((x2_w5).set 0 (.slice none 0 0)).set 1 (.int .i64 0)).cell (i := 1) (v := .int .i64 0) rfl
      refine bodyPost_ret (v := .tuple #[.agg #[.slice none 0 0, .int .i64 0], .bool false]) (by simp [results, Try.results106, go_sem, z0_0, z0_1, z1_1]) rfl ?_
      clear z0_0 z0_1 z1_1
      exact head_end hF.out (by omega) B_w5 (isTy_zero _ _) (by rw [← Ho.out, headTy_2, List.getElem?_eq_none (by omega)]; rfl) _ (by rw [← Ho.out, headTy_2, List.getElem?_eq_none (by omega)]; rfl)
  by_cases k0 : k = 0
  · subst k0
    by_cases i0 : i < 0
    · skip
      go_enter Try.func106, Try.ntmps106
      go_wp2_with fail
      obtain ⟨w3, hw3⟩ : ∃ w3, ((w.alloc (.cells #[.int .i64 b, .slice ca C.length cc, .slice ma M.length mc] 90)).alloc (.cells #[.int .i64 0, .int .i64 i] 34)).alloc (.cells #[.slice none 0 0, .int .i64 0] 40) = w3 := ⟨_, rfl⟩
      have B_w3 : Below w.heap.size w w3 := by rw [← hw3]; exact (((Below.refl _ _).alloc (Nat.le_refl _) _).alloc (by simp) _).alloc (by simp; omega) _
      have x0_w3 : Blk w3 w.heap.size #[.int .i64 b, .slice ca C.length cc, .slice ma M.length mc] 90 := by rw [← hw3]; exact ((Blk.new _ _ _ rfl).alloc _).alloc _
      have x1_w3 : Blk w3 (w.heap.size + 1) #[.int .i64 0, .int .i64 i] 34 := by rw [← hw3]; exact (Blk.new _ _ _ (by simp)).alloc _
      have x2_w3 : Blk w3 (w.heap.size + 1 + 1) #[.slice none 0 0, .int .i64 0] 40 := by rw [← hw3]; exact Blk.new _ _ _ (by simp)
      rw [hw3]
      clear hw3
      have c0 : w3.cell? ⟨w.heap.size + 1 + 1, 0, none⟩ = some (.slice none 0 0) := x2_w3.cell rfl
      have c1 : w3.cell? ⟨w.heap.size + 1 + 1, 1, none⟩ = some (.int .i64 0) := x2_w3.cell rfl
      have f0 := x2_w3.free 0
      have f1 := x2_w3.free 1
      go_wp2_with fail
      refine bodyPost_ret (v := .tuple #[.agg #[.slice none 0 0, .int .i64 0], .bool false]) (by simp [results, Try.results106, go_sem, c0, c1]) rfl ?_
      exact head_end0 B_w3 (by rw [← Ho.out, headTy_neg i0])
    obtain ⟨j, rfl⟩ : ∃ j : Nat, i = (j : Int) := ⟨i.toNat, by omega⟩
    have hq0 : IntKind.i64.wrap ((X.length : Int) - 1) = (X.length : Int) - 1 := IntWalk.i64_in _ (by have := Hxl.out; omega)
    have hq1 : IntKind.i64.wrap ((X.length : Int) - 1 - j) = (X.length : Int) - 1 - j := IntWalk.i64_in _ (by have := Hxl.out; omega)
    by_cases i1 : j < X.length
    · obtain ⟨m, hm⟩ : ∃ m : Nat, X.length - 1 - j = m := ⟨_, rfl⟩
      have i2 : m < X.length := by omega
      have hq2 : IntKind.i64.wrap ((X.length : Int) - 1 - j) = (m : Int) := by rw [hq1]; omega
      clear hq1
      have Hm2 := Lib.hid hm; have Hi1 := Lib.hid i1
      have i6 : decide ((m : Int) < 0) = false := by simp
      clear hm i1
      go_enter Try.func106, Try.ntmps106
      go_wp2_with fail
      obtain ⟨w3, hw3⟩ : ∃ w3, ((w.alloc (.cells #[.int .i64 b, .slice ca C.length cc, .slice ma M.length mc] 90)).alloc (.cells #[.int .i64 0, .int .i64 (j : Int)] 34)).alloc (.cells #[.slice none 0 0, .int .i64 0] 40) = w3 := ⟨_, rfl⟩
      have B_w3 : Below w.heap.size w w3 := by rw [← hw3]; exact (((Below.refl _ _).alloc (Nat.le_refl _) _).alloc (by simp) _).alloc (by simp; omega) _
      have x0_w3 : Blk w3 w.heap.size #[.int .i64 b, .slice ca C.length cc, .slice ma M.length mc] 90 := by rw [← hw3]; exact ((Blk.new _ _ _ rfl).alloc _).alloc _
      have x1_w3 : Blk w3 (w.heap.size + 1) #[.int .i64 0, .int .i64 (j : Int)] 34 := by rw [← hw3]; exact (Blk.new _ _ _ (by simp)).alloc _
      have x2_w3 : Blk w3 (w.heap.size + 1 + 1) #[.slice none 0 0, .int .i64 0] 40 := by rw [← hw3]; exact Blk.new _ _ _ (by simp)
      rw [hw3]
      clear hw3
      have c0 : w3.cell? ⟨w.heap.size + 1 + 1, 0, none⟩ = some (.slice none 0 0) := x2_w3.cell rfl
      have c1 : w3.cell? ⟨w.heap.size + 1 + 1, 1, none⟩ = some (.int .i64 0) := x2_w3.cell rfl
      have f0 := x2_w3.free 0
      have f1 := x2_w3.free 1
      obtain ⟨bl, off, A, N, Cc, Bb, rfl, _, e1, e2, hT⟩ := Hx.out m i2
      have e1 : w3.cell? ⟨bl, off + m * 2, none⟩ = some (.slice A N Cc) := ((Keep.refl (fun _ => True) _).below B_w3) _ _ _ trivial e1
      have e2 : w3.cell? ⟨bl, off + m * 2 + 1, none⟩ = some (.int .i64 Bb) := ((Keep.refl (fun _ => True) _).below B_w3) _ _ _ trivial e2
      have HT := Lib.hid hT; clear hT
      have l0 := Keep.lt e1
      go_wp2_with fail
      clear hq0 hq2 i6 hi
      go_simp
      have i4 : (0 : Int) ≤ (m : Int) := by omega
      go_wp2_with fail
      have z0_0 := ((x2_w3).set 0 (.slice A N Cc)).cell (i := 0) (v := .slice A N Cc) rfl
      have z0_1 := (((x2_w3).set 0 (.slice A N Cc)).set 1 (.int .i64 Bb)).cell (i := 0) (v := .slice A N Cc) rfl
      have z1_1 := (((x2_w3).set 0 (.slice A N Cc)).set 1 (.int .i64 Bb)).cell (i := 1) (v := .int .i64 Bb) rfl
      refine bodyPost_ret (v := .tuple #[.agg #[.slice A N Cc, .int .i64 Bb], .bool true]) (by simp [results, Try.results106, go_sem, z0_0, z0_1, z1_1]) rfl ?_
      clear z0_0 z0_1 z1_1
      exact head_end hF.out (by omega) B_w3 HT.out (by rw [← Ho.out, headTy_0, List.getElem?_reverse Hi1.out, Hm2.out, List.getElem?_eq_getElem i2]; rfl) _ (by rw [← Ho.out, headTy_0, List.getElem?_reverse Hi1.out, Hm2.out, List.getElem?_eq_getElem i2]; rfl)
    · have i3 : (X.length : Int) - 1 - j < 0 := by omega
      go_enter Try.func106, Try.ntmps106
      go_wp2_with fail
      obtain ⟨w3, hw3⟩ : ∃ w3, ((w.alloc (.cells #[.int .i64 b, .slice ca C.length cc, .slice ma M.length mc] 90)).alloc (.cells #[.int .i64 0, .int .i64 (j : Int)] 34)).alloc (.cells #[.slice none 0 0, .int .i64 0] 40) = w3 := ⟨_, rfl⟩
      have B_w3 : Below w.heap.size w w3 := by rw [← hw3]; exact (((Below.refl _ _).alloc (Nat.le_refl _) _).alloc (by simp) _).alloc (by simp; omega) _
      have x0_w3 : Blk w3 w.heap.size #[.int .i64 b, .slice ca C.length cc, .slice ma M.length mc] 90 := by rw [← hw3]; exact ((Blk.new _ _ _ rfl).alloc _).alloc _
      have x1_w3 : Blk w3 (w.heap.size + 1) #[.int .i64 0, .int .i64 (j : Int)] 34 := by rw [← hw3]; exact (Blk.new _ _ _ (by simp)).alloc _
      have x2_w3 : Blk w3 (w.heap.size + 1 + 1) #[.slice none 0 0, .int .i64 0] 40 := by rw [← hw3]; exact Blk.new _ _ _ (by simp)
      rw [hw3]
      clear hw3
      have c0 : w3.cell? ⟨w.heap.size + 1 + 1, 0, none⟩ = some (.slice none 0 0) := x2_w3.cell rfl
      have c1 : w3.cell? ⟨w.heap.size + 1 + 1, 1, none⟩ = some (.int .i64 0) := x2_w3.cell rfl
      have f0 := x2_w3.free 0
      have f1 := x2_w3.free 1
      go_wp2_with fail
      refine bodyPost_ret (v := .tuple #[.agg #[.slice none 0 0, .int .i64 0], .bool false]) (by simp [results, Try.results106, go_sem, c0, c1]) rfl ?_
      exact head_end0 B_w3 (by rw [← Ho.out, headTy_0, List.getElem?_eq_none (by simp; omega)])
  have g0 : (k == 0) = false := by simpa using k0
  have g1 : (k == 1) = false := by simpa using k1
  have g2 : (k == 2) = false := by simpa using k2
  go_enter Try.func106, Try.ntmps106
  go_wp2_with fail
  obtain ⟨w3, hw3⟩ : ∃ w3, ((w.alloc (.cells #[.int .i64 b, .slice ca C.length cc, .slice ma M.length mc] 90)).alloc (.cells #[.int .i64 k, .int .i64 i] 34)).alloc (.cells #[.slice none 0 0, .int .i64 0] 40) = w3 := ⟨_, rfl⟩
  have B_w3 : Below w.heap.size w w3 := by rw [← hw3]; exact (((Below.refl _ _).alloc (Nat.le_refl _) _).alloc (by simp) _).alloc (by simp; omega) _
  have x0_w3 : Blk w3 w.heap.size #[.int .i64 b, .slice ca C.length cc, .slice ma M.length mc] 90 := by rw [← hw3]; exact ((Blk.new _ _ _ rfl).alloc _).alloc _
  have x1_w3 : Blk w3 (w.heap.size + 1) #[.int .i64 k, .int .i64 i] 34 := by rw [← hw3]; exact (Blk.new _ _ _ (by simp)).alloc _
  have x2_w3 : Blk w3 (w.heap.size + 1 + 1) #[.slice none 0 0, .int .i64 0] 40 := by rw [← hw3]; exact Blk.new _ _ _ (by simp)
  rw [hw3]
  clear hw3
  have c0 : w3.cell? ⟨w.heap.size + 1 + 1, 0, none⟩ = some (.slice none 0 0) := x2_w3.cell rfl
  have c1 : w3.cell? ⟨w.heap.size + 1 + 1, 1, none⟩ = some (.int .i64 0) := x2_w3.cell rfl
  have f0 := x2_w3.free 0
  have f1 := x2_w3.free 1
  go_wp2_with fail
  refine bodyPost_ret (v := .tuple #[.agg #[.slice none 0 0, .int .i64 0], .bool false]) (by simp [results, Try.results106, go_sem, c0, c1]) rfl ?_
  exact head_end0 B_w3 (by rw [← Ho.out, headTy_o k0 k1 k2])

end Go.Proofs.Ytejpgifofkiofaa

namespace Go.Proofs.Ytejpgifofkiofaa
open Go.RowKit

theorem IsSl.bel {α : Type} {r : Rp α} {F : Nat → Prop} {w w' : World} {v : Value} {l : List α} (h : IsSl r F w v l) (hb : Below w.heap.size w w') : IsSl r F w' v l := h.keep ((Keep.refl _ _).below hb)
theorem below_own {F : Nat → Prop} {w wr : World} {v : Value} {l : List Ty} {T : TypeId} (h : Acc rpTy T w.heap.size (fun q => F q ∧ q < w.heap.size) wr v l) : ∀ q, (F q ∧ q < w.heap.size) → ((F q ∧ q < w.heap.size) ∧ v.ownBlock ≠ some q) :=
  fun q hq => ⟨hq, fun e => by have := (h.base_le q e).1; omega⟩

set_option maxRecDepth 100000 in
set_option maxHeartbeats 1000000 in
theorem within_k {G G' F : Nat → Prop} {w : World} {v v' : Value} {l l' : List Ty} (h : IsSl2 rpTy G F w v l) (h' : IsSl2 rpTy G' F w v' l') (hl : l.length + l'.length ≤ 100000) :
    Calls Try.prog 107 #[v, v'] w (OutSl2 F (l ++ l') w) := by
  obtain ⟨a, c, rfl⟩ := h.shape
  obtain ⟨a', c', rfl⟩ := h'.shape
  have H := Lib.hid h; have H' := Lib.hid h'
  clear h h'
  obtain ⟨r, hr⟩ : ∃ r, l ++ l' = r := ⟨_, rfl⟩
  have Hr := Lib.hid hr
  rw [hr]
  clear hr
  go_enter Try.func107, Try.ntmps107
  go_wp2_with fail
  obtain ⟨w1, hw1⟩ : ∃ w1, w.alloc (.cells #[.slice a l.length c, .slice a' l'.length c'] 33) = w1 := ⟨_, rfl⟩
  have hb1 : Below w.heap.size w w1 := by rw [← hw1]; exact (Below.refl _ _).alloc (Nat.le_refl _) _
  have x : Blk w1 w.heap.size #[.slice a l.length c, .slice a' l'.length c'] 33 := by rw [← hw1]; exact Blk.new _ _ _ rfl
  try rw [hw1]
  clear hw1
  refine (concat_any2 x (H.out.bel hb1) (H'.out.bel hb1) hl).mono ?_
  rintro e w2 ⟨a2, c2, rfl, hT, hb2⟩
  have hs1 := hb1.size
  have HT := Lib.hid (hT.weaken (G' := fun q => w.heap.size ≤ q) (F' := F) (by decide) (fun q _ h => by omega) fun _ _ h => h); clear hT
  rw [Hr.out] at HT ⊢
  go_wp2_with fail
  go_ret
  exact ⟨_, _, rfl, HT.out, hb1.trans (hb2.mono hb1.size)⟩

set_option maxRecDepth 100000 in
set_option maxHeartbeats 1000000 in
theorem behind_r {G G' F : Nat → Prop} {w : World} {v v' : Value} {l l' : List Ty} (h : IsSl2 rpTy G F w v l) (h' : IsSl2 rpTy G' F w v' l') (hl : l.length + l'.length ≤ 100000) :
    Calls Try.prog 68 #[v, v'] w (OutSl2 F (l ++ l') w) := by
  obtain ⟨a, c, rfl⟩ := h.shape
  obtain ⟨a', c', rfl⟩ := h'.shape
  obtain ⟨i0, hi0, hz0, hz1, hz2⟩ := info_parts infoR
  have H := Lib.hid (h.weaken (G' := fun q => q < w.heap.size) (F' := fun q => F q ∧ q < w.heap.size) (by decide) (fun k hk _ => hk) fun k hk hF => ⟨hF, hk⟩)
  have H' := Lib.hid (h'.weaken (G' := fun q => q < w.heap.size) (F' := fun q => F q ∧ q < w.heap.size) (by decide) (fun k hk _ => hk) fun k hk hF => ⟨hF, hk⟩)
  clear h h'
  have hll : l.length ≤ 1000000 := by omega
  have hacc0 := Acc.nil rpTy 26 w.heap.size (fun q => F q ∧ q < w.heap.size) w
  have Ha := Lib.hid hacc0; clear hacc0
  go_enter Try.func68, Try.ntmps68
  go_wp2_with (first
    | (at_builtin
       refine wpList_push_sl rpTy (by decide) rfl _ _ _ rfl w.heap.size 26 i0 _ 32 Try.underlying24 hi0 hz0 hz1 hz2 rfl (by decide) (fun q => F q ∧ q < w.heap.size) _ [] rfl Ha.out _ l rfl (H.out.weaken (by decide) (fun _ _ h => h) fun q _ hq => below_own Ha.out q hq) (by simp; omega) (Nat.le_refl _) ?_
       intro v1 w1 hacc1 hgrow hat
       have hb1 : Below w.heap.size w w1 := (Below.refl _ _).grown hgrow (Nat.le_refl _) (fun q hq => (Ha.out.base_le q hq).1)
       simp only [List.nil_append] at hacc1
       obtain ⟨a1, c1, hv1⟩ := hacc1.len_shape
       subst hv1
       have Ha1 := Lib.hid hacc1
       have H1' := Lib.hid (H'.out.bel hb1)
       have hs1 := hb1.size
       clear hacc1 hgrow hat)
    | (at_builtin
       refine wpList_push_sl rpTy (by decide) rfl _ _ _ rfl w.heap.size 26 i0 _ 32 Try.underlying24 hi0 hz0 hz1 hz2 rfl (by decide) (fun q => F q ∧ q < w.heap.size) _ l rfl Ha1.out _ l' rfl (H1'.out.weaken (by decide) (fun _ _ h => h) fun q _ hq => below_own Ha1.out q hq) (by omega) hs1 ?_
       intro v2 w2 hacc2 hgrow hat
       have Ha2 := Lib.hid hacc2
       clear hacc2 hat))
  have hb2 : Below w.heap.size w w2 := hb1.grown hgrow hs1 (fun q hq => (Ha1.out.base_le q hq).1)
  obtain ⟨a2, c2, hv⟩ := Ha2.out.len_shape
  go_ret
  refine ⟨a2, c2, ?_, ?_, hb2⟩
  · rw [← hv]; rfl
  · rw [← hv]; exact Ha2.out.sl2.weaken (by decide) (fun _ _ h => h) (fun _ _ h => h.1)
end Go.Proofs.Ytejpgifofkiofaa

namespace Go.Proofs.Ytejpgifofkiofaa
open Go.RowKit

structure Phi where
  P : Value → Nat → Nat → World → Prop
  up : ∀ {v x y w w'}, P v x y w → Below w.heap.size w w' → P v x y w'
def PhiL (l : List (Nat × Phi)) (j : Nat) (v : Value) (x y : Nat) (w : World) : Prop := ∃ p, l.find? (fun p => p.1 == j) = some p ∧ p.2.P v x y w
theorem phiL_below {l : List (Nat × Phi)} : ∀ j v x y w w', PhiL l j v x y w → Below w.heap.size w w' → PhiL l j v x y w' := fun _ _ _ _ _ _ ⟨p, h1, h2⟩ hb => ⟨p, h1, p.2.up h2 hb⟩
theorem phiL_at {l : List (Nat × Phi)} {j : Nat} {p : Nat × Phi} {v : Value} {x y : Nat} {w : World} (h : l.find? (fun p => p.1 == j) = some p) (hp : PhiL l j v x y w) : p.2.P v x y w := by
  obtain ⟨q, h1, h2⟩ := hp
  rw [h] at h1; cases h1; exact h2
theorem phiL_mk {l : List (Nat × Phi)} {j : Nat} {p : Nat × Phi} {v : Value} {x y : Nat} {w : World} (h : l.find? (fun p => p.1 == j) = some p) (hp : p.2.P v x y w) : PhiL l j v x y w := ⟨p, h, hp⟩
def phiTm (t : Tm) : Phi := ⟨fun v x y w => ∃ b k i a, v = .agg #[b, k, i, a] ∧ IsTm (fun q => x ≤ q ∧ q < y) w b k i a t, fun ⟨b, k, i, a, e, h⟩ hb => ⟨b, k, i, a, e, h.bel hb⟩⟩
def phiBlk (cs : Array Value) (T : TypeId) : Phi := ⟨fun v x y w => v = .pointer (some ⟨x, 0, none⟩) ∧ x < y ∧ Blk w x cs T, fun ⟨e, h1, h2⟩ hb => ⟨e, h1, h2.below hb⟩⟩
def phiTy (t : Ty) : Phi := ⟨fun v x y w => ∃ s b, v = .agg #[s, b] ∧ IsTy (fun q => x ≤ q ∧ q < y) w s b t, fun ⟨s, b, e, h⟩ hb => ⟨s, b, e, h.bel hb⟩⟩
def phiSl {α : Type} (r : Rp α) (l : List α) : Phi := ⟨fun v x y w => ∃ a c, v = .slice a l.length c ∧ IsSl r (fun q => x ≤ q ∧ q < y) w (.slice a l.length c) l, fun ⟨a, c, e, h⟩ hb => ⟨a, c, e, h.keep ((Keep.refl _ _).below hb)⟩⟩
def phiSl2 (r : Rp Ty) (F : Nat → Prop) (l : List Ty) : Phi := ⟨fun v x y w => ∃ a c, v = .slice a l.length c ∧ IsSl2 r (fun q => x ≤ q ∧ q < y) F w (.slice a l.length c) l, fun ⟨a, c, e, h⟩ hb => ⟨a, c, e, h.bel hb⟩⟩
def phiHead (F : Nat → Prop) (o : Option Ty) : Phi := ⟨fun v _ _ w => ∃ s b, v = .tuple #[.agg #[s, b], .bool o.isSome] ∧ IsTy F w s b (o.getD tyZ), fun ⟨s, b, e, h⟩ hb => ⟨s, b, e, h.bel hb⟩⟩
def phiTyF (F : Nat → Prop) (u : Ty) : Phi := ⟨fun v _ _ w => ∃ s b, v = .agg #[s, b] ∧ IsTy F w s b u, fun ⟨s, b, e, h⟩ hb => ⟨s, b, e, h.bel hb⟩⟩
def phiWd (b : Int) (C M : List Ty) : Phi := ⟨fun v x y w => ∃ cv mv, v = .agg #[.int .i64 b, cv, mv] ∧ IsSl rpTy (fun q => x ≤ q ∧ q < y) w cv C ∧ IsSl rpTy (fun q => x ≤ q ∧ q < y) w mv M, fun ⟨cv, mv, e, h, h'⟩ hb => ⟨cv, mv, e, h.keep ((Keep.refl _ _).below hb), h'.keep ((Keep.refl _ _).below hb)⟩⟩
def phiTup : Phi := ⟨fun v _ _ _ => ∃ a k, v = .tuple #[a, k], fun h _ => h⟩
def phiAny : Phi := ⟨fun _ _ _ _ => True, fun h _ => h⟩
def phiTyc (z : Ty) (c : Int) : Phi := ⟨fun v x y w => ∃ s b, v = .tuple #[.agg #[s, b], .int .i64 c] ∧ IsTy (fun q => x ≤ q ∧ q < y) w s b z, fun ⟨s, b, e, h⟩ hb => ⟨s, b, e, h.bel hb⟩⟩
def phiV (u : Value) : Phi := ⟨fun v _ _ _ => v = u, fun h _ => h⟩
theorem upd_self {u : Nat → Value} {k : Nat} {v : Value} (h : u k = v) : ∃ u', u = upd u' k v := ⟨u, funext fun j => by
  unfold upd
  split
  · rename_i hj; rw [hj]; exact h
  · rfl⟩
theorem isSl_one6 {w : World} {B : Nat} {E : TypeId} {b k i a : Value} {t : Tm} (hB : Blk w B #[b, k, i, a] E) (ht : IsTm (fun _ => True) w b k i a t) : IsSl rpTm (fun _ => True) w (.slice (some ⟨B, 0, none⟩) 1 1) [t] :=
  isSl_blk (r := rpTm) (l := [t]) [[b, k, i, a]] hB rfl rfl (by simp [maxLen]) (fun i hi => by
    match i, hi with
    | 0, _ => exact ⟨_, rfl, _, _, _, _, rfl, ht⟩)

end Go.Proofs.Ytejpgifofkiofaa

