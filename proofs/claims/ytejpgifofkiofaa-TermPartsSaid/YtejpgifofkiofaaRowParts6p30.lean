/-
  term.is: whether a term is of a type.
-/
import Derived.Test.YtejpgifofkiofaaRowParts6p29
import Derived.Test.YtejpgifofkiofaaRowParts6p4
import Derived.Test.YtejpgifofkiofaaRowParts6p14
set_option linter.unusedVariables false
set_option linter.unusedSimpArgs false
namespace Go.Proofs.Ytejpgifofkiofaa
open Go.RowKit

set_option maxRecDepth 100000 in
set_option maxHeartbeats 8000000 in
theorem is_k {F : Nat → Prop} {b : Int} {C M : List Ty} : ∀ (t : Tm) (w : World) (cv mv xv tb tk ti ta s ub : Value) (X : List Ty) (u : Ty), (∀ q, F q → q < w.heap.size) → IsSl rpTy F w cv C → IsSl rpTy F w mv M → IsSl2 rpTy (fun _ => True) F w xv X → IsTm F w tb tk ti ta t → IsTy F w s ub u →
    X.length + t.full ≤ 90000 → t.Fit →
    Calls Try.prog 108 #[.agg #[.int .i64 b, cv, mv], xv, .agg #[tb, tk, ti, ta], .agg #[s, ub]] w (RetB (IsOf C M t X u) w) := Tm.ind fun binds k i args ih => by
  intro w cv mv xv tb tk ti ta s ub X u hF hc hm hx ht hu hz hfit
  obtain ⟨ca, cc, rfl⟩ := hc.shape
  obtain ⟨ma, mc, rfl⟩ := hm.shape
  obtain ⟨xa, xc, rfl⟩ := hx.shape
  obtain ⟨rfl, rfl, hbi, hsa⟩ := ht.inv
  obtain ⟨rfl, hus⟩ := hu.inv
  simp only [Tm.binds, Tm.kind, Tm.index, Tm.args] at hbi hsa ⊢
  obtain ⟨pa, pc, rfl⟩ := hbi.shape
  obtain ⟨qa, qc, rfl⟩ := hsa.shape
  obtain ⟨ua, uc, rfl⟩ := hus.shape
  obtain ⟨_, hma, bl, off, PA, A, PN, PC, N, Cc, Kd, Ix, ha, h1, h2, h3, h4, h5⟩ := sl_cells6 hsa
  unfold maxLen at hma
  have hi : i ≤ 9223372036854775807 := (Tm.fit_iff.1 hfit).2.1
  have Hfit : Hid (∀ t ∈ args, Tm.Fit t) := (Tm.fit_iff.1 hfit).2.2
  obtain ⟨Y, hY⟩ : ∃ Y, X ++ binds = Y := ⟨_, rfl⟩
  have hYl : Y.length = X.length + binds.length := by rw [← hY]; simp
  have hbl : binds.length ≤ Ty.sizes binds := Ty.le_sizes binds
  have Hz : Hid (∀ t ∈ args, Y.length + t.full ≤ 90000) := fun t ht => by have := Tm.full_mem ht; rw [Tm.full_eq] at hz; omega
  have hla : X.length + binds.length ≤ 100000 := by rw [Tm.full_eq] at hz; omega
  have H0 := Lib.hid hF; have Hc := Lib.hid hc; have Hm := Lib.hid hm
  have Heq := Lib.hid fun (w' : World) (hb : Below w.heap.size w w') => equalFunc_k hbi hus (fun t _ => equal_k t) w' ((Keep.refl _ _).below hb) ((Keep.refl _ _).below hb)
  have Hwi := Lib.hid fun (w' : World) (hb : Below w.heap.size w w') => within_k (hx.bel hb) (IsSl2.of (hbi.bel hb)) hla
  have Hhd := Lib.hid fun (w' : World) (yv : Value) (hb : Below w.heap.size w w') (hy : IsSl2 rpTy (fun _ => True) F w' yv Y) => headType_k (b := b) (fun q hq => Nat.lt_of_lt_of_le (hF q hq) hb.size) (hc.bel hb) (hm.bel hb) hy k i hi
  have H5 := Lib.hid h5; have Hih := Lib.hid ih
  have Hh : Hid (∀ o, headTy C M Y k i = o → (IsOf C M (.mk binds k i args) X u ↔ binds = u.args ∧ ∃ h, o = some h ∧ h.base = u.base ∧ IsOfs C M args Y h.args)) := fun o ho => by rw [isOf_mk, hY, ho]
  rw [hY] at Hwi
  obtain ⟨P, hP⟩ : ∃ P, IsOf C M (.mk binds k i args) X u = P := ⟨_, rfl⟩
  rw [hP] at Hh ⊢
  obtain ⟨o, ho⟩ : ∃ o, headTy C M Y k i = o := ⟨_, rfl⟩
  have HP := Lib.hid (Hh.out o ho)
  rw [ho] at Hhd
  obtain ⟨ul, hul⟩ : ∃ ul, u.args = ul := ⟨_, rfl⟩
  obtain ⟨ud, hud⟩ : ∃ ud, u.base = ud := ⟨_, rfl⟩
  rw [hul] at Heq HP hus ⊢
  rw [hud] at HP ⊢
  clear hP ho hul hud Hh hY hF hc hm hx ht hu hz hfit hbi hsa hus h5 ih hla hYl hbl
  go_enter Try.func108, Try.ntmps108
  go_wp2_with fail
  obtain ⟨w3, hw3⟩ : ∃ w3, ((w.alloc (.cells #[.int .i64 b, .slice ca C.length cc, .slice ma M.length mc] 90)).alloc (.cells #[.slice pa binds.length pc, .int .i64 k, .int .i64 i, .slice qa args.length qc] 37)).alloc (.cells #[.slice ua ul.length uc, .int .i64 ud] 40) = w3 := ⟨_, rfl⟩
  have B_w3 : Below w.heap.size w w3 := by rw [← hw3]; exact (((Below.refl _ _).alloc (Nat.le_refl _) _).alloc (by simp) _).alloc (by simp; omega) _
  have x0_w3 : Blk w3 w.heap.size #[.int .i64 b, .slice ca C.length cc, .slice ma M.length mc] 90 := by rw [← hw3]; exact ((Blk.new _ _ _ rfl).alloc _).alloc _
  have x1_w3 : Blk w3 (w.heap.size + 1) #[.slice pa binds.length pc, .int .i64 k, .int .i64 i, .slice qa args.length qc] 37 := by rw [← hw3]; exact (Blk.new _ _ _ (by simp)).alloc _
  have x2_w3 : Blk w3 (w.heap.size + 1 + 1) #[.slice ua ul.length uc, .int .i64 ud] 40 := by rw [← hw3]; exact Blk.new _ _ _ (by simp)
  rw [hw3]
  clear hw3
  refine (Heq.out w3 B_w3).mono ?_
  intro e w4 h
  obtain ⟨r, Hr, rfl, hbx0⟩ := of_retB' h
  clear h
  have hbx : Below w3.heap.size w3 w4 := hbx0
  clear hbx0
  have x0_w4 := x0_w3.below hbx
  have x1_w4 := x1_w3.below hbx
  have x2_w4 := x2_w3.below hbx
  have B_w4 := B_w3.trans (hbx.mono B_w3.size)
  clear x0_w3 x1_w3 x2_w3 B_w3 hbx
  cases r
  · have hn : ¬ P := fun hp => no_of Hr ((HP.out.1 hp).1)
    go_wp2_with fail
    go_ret
    exact ⟨false, by simp [hn], rfl, B_w4⟩
  have hbu := yes_of Hr
  subst hbu
  clear Hr
  have cx00 : w4.cell? ⟨w.heap.size, 0, none⟩ = some (.int .i64 b) := x0_w4.cell rfl
  have cx01 : w4.cell? ⟨w.heap.size, 1, none⟩ = some (.slice ca C.length cc) := x0_w4.cell rfl
  have cx02 : w4.cell? ⟨w.heap.size, 2, none⟩ = some (.slice ma M.length mc) := x0_w4.cell rfl
  have lx0 := x0_w4.lt
  have cx10 : w4.cell? ⟨w.heap.size + 1, 0, none⟩ = some (.slice pa binds.length pc) := x1_w4.cell rfl
  have cx11 : w4.cell? ⟨w.heap.size + 1, 1, none⟩ = some (.int .i64 k) := x1_w4.cell rfl
  have cx12 : w4.cell? ⟨w.heap.size + 1, 2, none⟩ = some (.int .i64 i) := x1_w4.cell rfl
  have cx13 : w4.cell? ⟨w.heap.size + 1, 3, none⟩ = some (.slice qa args.length qc) := x1_w4.cell rfl
  have lx1 := x1_w4.lt
  have cx20 : w4.cell? ⟨w.heap.size + 1 + 1, 0, none⟩ = some (.slice ua binds.length uc) := x2_w4.cell rfl
  have cx21 : w4.cell? ⟨w.heap.size + 1 + 1, 1, none⟩ = some (.int .i64 ud) := x2_w4.cell rfl
  have lx2 := x2_w4.lt
  go_wp2_with fail
  refine (Hwi.out w4 B_w4).mono ?_
  rintro e w5 ⟨ya, yc, rfl, hT, hbx0⟩
  have hbx : Below w4.heap.size w4 w5 := hbx0
  clear hbx0
  clear cx00 cx01 cx02 lx0 cx10 cx11 cx12 cx13 lx1 cx20 cx21 lx2
  have x0_w5 := x0_w4.below hbx
  have x1_w5 := x1_w4.below hbx
  have x2_w5 := x2_w4.below hbx
  have B_w5 := B_w4.trans (hbx.mono B_w4.size)
  clear x0_w4 x1_w4 x2_w4 B_w4 hbx
  have T_w5 := Lib.hid (hT.anyRow (by decide))
  clear hT
  have cx00 : w5.cell? ⟨w.heap.size, 0, none⟩ = some (.int .i64 b) := x0_w5.cell rfl
  have cx01 : w5.cell? ⟨w.heap.size, 1, none⟩ = some (.slice ca C.length cc) := x0_w5.cell rfl
  have cx02 : w5.cell? ⟨w.heap.size, 2, none⟩ = some (.slice ma M.length mc) := x0_w5.cell rfl
  have lx0 := x0_w5.lt
  have cx10 : w5.cell? ⟨w.heap.size + 1, 0, none⟩ = some (.slice pa binds.length pc) := x1_w5.cell rfl
  have cx11 : w5.cell? ⟨w.heap.size + 1, 1, none⟩ = some (.int .i64 k) := x1_w5.cell rfl
  have cx12 : w5.cell? ⟨w.heap.size + 1, 2, none⟩ = some (.int .i64 i) := x1_w5.cell rfl
  have cx13 : w5.cell? ⟨w.heap.size + 1, 3, none⟩ = some (.slice qa args.length qc) := x1_w5.cell rfl
  have lx1 := x1_w5.lt
  have cx20 : w5.cell? ⟨w.heap.size + 1 + 1, 0, none⟩ = some (.slice ua binds.length uc) := x2_w5.cell rfl
  have cx21 : w5.cell? ⟨w.heap.size + 1 + 1, 1, none⟩ = some (.int .i64 ud) := x2_w5.cell rfl
  have lx2 := x2_w5.lt
  go_wp2_with fail
  refine (Hhd.out w5 _ B_w5 T_w5.out).mono ?_
  rintro e w6 ⟨s6, b6, rfl, hT, hbx0⟩
  have hbx : Below w5.heap.size w5 w6 := hbx0
  clear hbx0
  clear cx00 cx01 cx02 lx0 cx10 cx11 cx12 cx13 lx1 cx20 cx21 lx2
  have x0_w6 := x0_w5.below hbx
  have x1_w6 := x1_w5.below hbx
  have x2_w6 := x2_w5.below hbx
  have T_w6 := Lib.hid (T_w5.out.bel hbx)
  have B_w6 := B_w5.trans (hbx.mono B_w5.size)
  clear x0_w5 x1_w5 x2_w5 T_w5 B_w5 hbx
  obtain ⟨h0, hh0⟩ : ∃ h0, o.getD tyZ = h0 := ⟨_, rfl⟩
  have Hh0 := Lib.hid hh0
  rw [hh0] at hT
  clear hh0
  obtain ⟨ha6, hc6, rfl, rfl⟩ := hT.shape
  have hat := sl_at (IsSl2.of hT.inv.2)
  obtain ⟨n0, hn0⟩ : ∃ n0, h0.args.length = n0 := ⟨_, rfl⟩
  obtain ⟨d0, hd0⟩ : ∃ d0, h0.base = d0 := ⟨_, rfl⟩
  rw [hn0] at hT ⊢
  rw [hd0] at hT ⊢
  have Hn0 := Lib.hid hn0; have Hd0 := Lib.hid hd0
  have Hat := Lib.hid hat
  clear hT hn0 hd0 hat
  cases hs : o.isSome
  · have hn : ¬ P := fun hp => by
      obtain ⟨_, h, e, _⟩ := HP.out.1 hp
      rw [e] at hs; cases hs
    have cx00 : w6.cell? ⟨w.heap.size, 0, none⟩ = some (.int .i64 b) := x0_w6.cell rfl
    have cx01 : w6.cell? ⟨w.heap.size, 1, none⟩ = some (.slice ca C.length cc) := x0_w6.cell rfl
    have cx02 : w6.cell? ⟨w.heap.size, 2, none⟩ = some (.slice ma M.length mc) := x0_w6.cell rfl
    have lx0 := x0_w6.lt
    have cx10 : w6.cell? ⟨w.heap.size + 1, 0, none⟩ = some (.slice pa binds.length pc) := x1_w6.cell rfl
    have cx11 : w6.cell? ⟨w.heap.size + 1, 1, none⟩ = some (.int .i64 k) := x1_w6.cell rfl
    have cx12 : w6.cell? ⟨w.heap.size + 1, 2, none⟩ = some (.int .i64 i) := x1_w6.cell rfl
    have cx13 : w6.cell? ⟨w.heap.size + 1, 3, none⟩ = some (.slice qa args.length qc) := x1_w6.cell rfl
    have lx1 := x1_w6.lt
    have cx20 : w6.cell? ⟨w.heap.size + 1 + 1, 0, none⟩ = some (.slice ua binds.length uc) := x2_w6.cell rfl
    have cx21 : w6.cell? ⟨w.heap.size + 1 + 1, 1, none⟩ = some (.int .i64 ud) := x2_w6.cell rfl
    have lx2 := x2_w6.lt
    go_wp2_with fail
    go_ret
    exact ⟨false, by simp [hn], rfl, by first | exact B_w6.alloc B_w6.size _ | exact B_w6⟩
  obtain ⟨h0', rfl⟩ := Option.isSome_iff_exists.1 hs
  obtain rfl : h0' = h0 := Hh0.out
  have HP2 : Hid (P ↔ d0 = ud ∧ IsOfs C M args Y h0'.args) := by
    show P ↔ _
    rw [HP.out, ← Hd0.out]
    simp
  clear HP hs Hh0
  have cx00 : w6.cell? ⟨w.heap.size, 0, none⟩ = some (.int .i64 b) := x0_w6.cell rfl
  have cx01 : w6.cell? ⟨w.heap.size, 1, none⟩ = some (.slice ca C.length cc) := x0_w6.cell rfl
  have cx02 : w6.cell? ⟨w.heap.size, 2, none⟩ = some (.slice ma M.length mc) := x0_w6.cell rfl
  have lx0 := x0_w6.lt
  have cx10 : w6.cell? ⟨w.heap.size + 1, 0, none⟩ = some (.slice pa binds.length pc) := x1_w6.cell rfl
  have cx11 : w6.cell? ⟨w.heap.size + 1, 1, none⟩ = some (.int .i64 k) := x1_w6.cell rfl
  have cx12 : w6.cell? ⟨w.heap.size + 1, 2, none⟩ = some (.int .i64 i) := x1_w6.cell rfl
  have cx13 : w6.cell? ⟨w.heap.size + 1, 3, none⟩ = some (.slice qa args.length qc) := x1_w6.cell rfl
  have lx1 := x1_w6.lt
  have cx20 : w6.cell? ⟨w.heap.size + 1 + 1, 0, none⟩ = some (.slice ua binds.length uc) := x2_w6.cell rfl
  have cx21 : w6.cell? ⟨w.heap.size + 1 + 1, 1, none⟩ = some (.int .i64 ud) := x2_w6.cell rfl
  have lx2 := x2_w6.lt
  by_cases hd : d0 = ud
  rotate_left
  · have hn : ¬ P := fun hp => hd (HP2.out.1 hp).1
    have g1 : (d0 == ud) = false := by simpa using hd
    have g2 : (d0 != ud) = true := by simpa using hd
    go_wp2_with fail
    go_ret
    exact ⟨false, by simp [hn], rfl, by first | exact B_w6.alloc B_w6.size _ | exact B_w6⟩
  subst hd
  by_cases hn : (n0 : Int) = (args.length : Int)
  rotate_left
  · have hnn : ¬ P := fun hp => by
      have h := (isOfs_iff.1 (HP2.out.1 hp).2).1
      have := Hn0.out
      omega
    have g1 : ((n0 : Int) == (args.length : Int)) = false := by simpa using hn
    have g2 : ((n0 : Int) != (args.length : Int)) = true := by simpa using hn
    go_wp2_with fail
    go_ret
    exact ⟨false, by simp [hnn], rfl, by first | exact B_w6.alloc B_w6.size _ | exact B_w6⟩
  have hnn : n0 = args.length := by omega
  subst hnn
  clear hn
  have HP3 : Hid (P ↔ ∀ j (h : j < args.length) (h' : j < h0'.args.length), IsOf C M args[j] Y h0'.args[j]) := by
    show P ↔ _
    rw [HP2.out, isOfs_iff]
    simp [Hn0.out]
  clear HP2
  go_wp2_with fail
  obtain ⟨w7, hw7⟩ : ∃ w7, w6.alloc (.cells #[.slice ha6 args.length hc6, .int .i64 d0] 40) = w7 := ⟨_, rfl⟩
  have hbx : Below w6.heap.size w6 w7 := by rw [← hw7]; exact (Below.refl _ _).alloc (Nat.le_refl _) _
  obtain ⟨p, hp⟩ : ∃ p, w6.heap.size = p := ⟨_, rfl⟩
  have xh_w7 : Blk w7 p #[.slice ha6 args.length hc6, .int .i64 d0] 40 := by rw [← hw7]; exact Blk.new _ _ _ hp.symm
  try rw [hw7]
  try rw [hp]
  clear cx00 cx01 cx02 cx10 cx11 cx12 cx13 cx20 cx21 lx0 lx1 lx2 hw7
  have Hbx := Lib.hid hbx
  have x0_w7 := x0_w6.below hbx
  have x1_w7 := x1_w6.below hbx
  have x2_w7 := x2_w6.below hbx
  have T_w7 := Lib.hid (T_w6.out.bel hbx)
  have B_w7 := B_w6.trans (hbx.mono B_w6.size)
  clear x0_w6 x1_w6 x2_w6 T_w6 B_w6 hbx
  clear hp
  have H0' := Lib.hid fun q hq => Nat.lt_of_lt_of_le (H0.out q hq) B_w7.size
  have Bw7 := Lib.hid B_w7
  clear B_w7
  go_loopw [12, 13, 53] (fun _ _ c wr => ∃ j : Nat, c = .int .i64 j ∧ j ≤ args.length ∧ Hid (∀ m (h : m < args.length) (h' : m < h0'.args.length), m < j → IsOf C M args[m] Y h0'.args[m]) ∧ Below w7.heap.size w7 wr) (fun _ _ c _ => args.length - (intOf c).toNat)
  case atStart => exact ⟨0, rfl, by omega, fun m _ _ h => absurd h (by omega), Below.refl _ _⟩
  case round =>
    obtain ⟨j, rfl, hj, hrel, hbr⟩ := hrel
    have Hbr := Lib.hid hbr
    have B_wr := Bw7.out.trans (hbr.mono Bw7.out.size)
    have x0_wr := x0_w7.below hbr; have x1_wr := x1_w7.below hbr; have x2_wr := x2_w7.below hbr; have xh_wr := xh_w7.below hbr
    have T_wr := Lib.hid (T_w7.out.bel hbr)
    clear x0_w7 x1_w7 x2_w7 xh_w7 T_w7 hbr
    by_cases hlt : j < args.length
    · obtain ⟨rfl, hF⟩ := ha (by omega)
      have i1 : (j : Int) < (args.length : Int) := by omega
      have hj' : j < h0'.args.length := by have := Hn0.out; omega
      obtain ⟨bl', off', A', N', C', B', rfl, hF', e5, e6, hU⟩ := Hat.out j hj'
      have Kp : Keep F w wr := (Keep.refl _ _).below B_wr
      have e1 := Kp _ _ _ hF (h1 j hlt)
      have e2 := Kp _ _ _ hF (h2 j hlt)
      have e3 := Kp _ _ _ hF (h3 j hlt)
      have e4 := Kp _ _ _ hF (h4 j hlt)
      have B6r : Below w6.heap.size w6 wr := Hbx.out.trans (Hbr.out.mono Hbx.out.size)
      have e5wr := ((Keep.refl (fun _ => True) _).below B6r) _ _ _ trivial e5
      have e6wr := ((Keep.refl (fun _ => True) _).below B6r) _ _ _ trivial e6
      have U_wr := Lib.hid (hU.bel B6r)
      have V_wr := Lib.hid ((H5.out j hlt).bel B_wr)
      clear e5 e6 hU B6r Kp
      go_wp2_with fail
      clear e1 e2 e3 e4
      obtain ⟨v1, hv1⟩ : ∃ v1, wr.alloc (.cells #[.slice (PA j) (PN j) (PC j), .int .i64 (Kd j), .int .i64 (Ix j), .slice (A j) (N j) (Cc j)] 37) = v1 := ⟨_, rfl⟩
      have hbx : Below wr.heap.size wr v1 := by rw [← hv1]; exact (Below.refl _ _).alloc (Nat.le_refl _) _
      obtain ⟨q, hq⟩ : ∃ q, wr.heap.size = q := ⟨_, rfl⟩
      have xa_v1 : Blk v1 q #[.slice (PA j) (PN j) (PC j), .int .i64 (Kd j), .int .i64 (Ix j), .slice (A j) (N j) (Cc j)] 37 := by rw [← hv1]; exact Blk.new _ _ _ hq.symm
      try rw [hv1]
      try rw [hq]
      have e5v1 := ((Keep.refl (fun _ => True) _).below hbx) _ _ _ trivial e5wr
      have e6v1 := ((Keep.refl (fun _ => True) _).below hbx) _ _ _ trivial e6wr
      clear e5wr e6wr hv1
      have B7v : Below w7.heap.size w7 v1 := Hbr.out.trans (hbx.mono Hbr.out.size)
      have x0_v1 := x0_wr.below hbx
      have xh_v1 := xh_wr.below hbx
      have T_v1 := Lib.hid (T_wr.out.bel hbx)
      have U_v1 := Lib.hid (U_wr.out.bel hbx)
      have V_v1 := Lib.hid (V_wr.out.bel hbx)
      have B_v1 := B_wr.trans (hbx.mono B_wr.size)
      clear x0_wr xh_wr T_wr U_wr V_wr B_wr hbx
      clear hq
      refine wp_region_noPanic (wp_region_need (S := fun w' => w'.cell? ⟨w.heap.size, 0, none⟩ = some (.int .i64 b) ∧ w'.cell? ⟨w.heap.size, 1, none⟩ = some (.slice ca C.length cc) ∧ w'.cell? ⟨w.heap.size, 2, none⟩ = some (.slice ma M.length mc) ∧ w'.cell? ⟨p, 0, none⟩ = some (.slice (some ⟨bl', off', none⟩) args.length hc6) ∧ w'.cell? ⟨p, 1, none⟩ = some (.int .i64 d0) ∧ w'.cell? ⟨q, 0, none⟩ = some (.slice (PA j) (PN j) (PC j)) ∧ w'.cell? ⟨q, 1, none⟩ = some (.int .i64 (Kd j)) ∧ w'.cell? ⟨q, 2, none⟩ = some (.int .i64 (Ix j)) ∧ w'.cell? ⟨q, 3, none⟩ = some (.slice (A j) (N j) (Cc j)) ∧ w'.cell? ⟨bl', off' + j * 2, none⟩ = some (.slice A' N' C') ∧ w'.cell? ⟨bl', off' + j * 2 + 1, none⟩ = some (.int .i64 B')) (by kernel_rfl) ?_)
      have hS : (v1.drew).cell? ⟨w.heap.size, 0, none⟩ = some (.int .i64 b) ∧ (v1.drew).cell? ⟨w.heap.size, 1, none⟩ = some (.slice ca C.length cc) ∧ (v1.drew).cell? ⟨w.heap.size, 2, none⟩ = some (.slice ma M.length mc) ∧ (v1.drew).cell? ⟨p, 0, none⟩ = some (.slice (some ⟨bl', off', none⟩) args.length hc6) ∧ (v1.drew).cell? ⟨p, 1, none⟩ = some (.int .i64 d0) ∧ (v1.drew).cell? ⟨q, 0, none⟩ = some (.slice (PA j) (PN j) (PC j)) ∧ (v1.drew).cell? ⟨q, 1, none⟩ = some (.int .i64 (Kd j)) ∧ (v1.drew).cell? ⟨q, 2, none⟩ = some (.int .i64 (Ix j)) ∧ (v1.drew).cell? ⟨q, 3, none⟩ = some (.slice (A j) (N j) (Cc j)) ∧ (v1.drew).cell? ⟨bl', off' + j * 2, none⟩ = some (.slice A' N' C') ∧ (v1.drew).cell? ⟨bl', off' + j * 2 + 1, none⟩ = some (.int .i64 B') := ⟨x0_v1.drew.cell rfl, x0_v1.drew.cell rfl, x0_v1.drew.cell rfl, xh_v1.drew.cell rfl, xh_v1.drew.cell rfl, xa_v1.drew.cell rfl, xa_v1.drew.cell rfl, xa_v1.drew.cell rfl, xa_v1.drew.cell rfl, e5v1, e6v1⟩
      refine wpN_take (i := 0) (v := ?v1) rfl (by kernel_rfl) (fun _ _ _ h => h) hS (Or.inl ⟨by rfl, ?hy1⟩) ?hr1
      case hy1 => (intro wS hSw; (try dsimp only at hSw); go_simp; (try with_reducible rfl))
      try simp only [Act.put, List.setIfInBounds_toArray, List.set_cons_zero, List.set_cons_succ, List.getElem_toArray, List.getElem_cons_zero, List.getElem_cons_succ]
      refine wpN_take (i := 1) (v := ?v2) rfl (by kernel_rfl) (fun _ _ _ h => h) hS (Or.inl ⟨by rfl, ?hy2⟩) ?hr2
      case hy2 => (intro wS hSw; (try dsimp only at hSw); go_simp; (try with_reducible rfl))
      try simp only [Act.put, List.setIfInBounds_toArray, List.set_cons_zero, List.set_cons_succ, List.getElem_toArray, List.getElem_cons_zero, List.getElem_cons_succ]
      refine wpN_take (i := 2) (v := ?v3) rfl (by kernel_rfl) (fun _ _ _ h => h) hS (Or.inl ⟨by rfl, ?hy3⟩) ?hr3
      case hy3 => (intro wS hSw; (try dsimp only at hSw); go_simp; (try with_reducible rfl))
      try simp only [Act.put, List.setIfInBounds_toArray, List.set_cons_zero, List.set_cons_succ, List.getElem_toArray, List.getElem_cons_zero, List.getElem_cons_succ]
      refine wpN_take (i := 3) (v := ?v4) rfl (by kernel_rfl) (fun _ _ _ h => h) hS (Or.inl ⟨by rfl, ?hy4⟩) ?hr4
      case hy4 => (intro wS hSw; (try dsimp only at hSw); go_simp; (try with_reducible rfl))
      try simp only [Act.put, List.setIfInBounds_toArray, List.set_cons_zero, List.set_cons_succ, List.getElem_toArray, List.getElem_cons_zero, List.getElem_cons_succ]
      refine wpN_take (i := 4) (v := ?v5) rfl (by kernel_rfl) (fun _ _ _ h => h) hS (Or.inl ⟨by rfl, ?hy5⟩) ?hr5
      case hy5 => (intro wS hSw; (try dsimp only at hSw); go_simp; (try with_reducible rfl))
      try simp only [Act.put, List.setIfInBounds_toArray, List.set_cons_zero, List.set_cons_succ, List.getElem_toArray, List.getElem_cons_zero, List.getElem_cons_succ]
      refine wpN_take (i := 5) (v := ?v6) rfl (by kernel_rfl) (fun _ _ _ h => h) hS (Or.inl ⟨by rfl, ?hy6⟩) ?hr6
      case hy6 => (intro wS hSw; (try dsimp only at hSw); go_simp; (try with_reducible rfl))
      try simp only [Act.put, List.setIfInBounds_toArray, List.set_cons_zero, List.set_cons_succ, List.getElem_toArray, List.getElem_cons_zero, List.getElem_cons_succ]
      refine wpN_take (i := 6) (v := ?v7) rfl (by kernel_rfl) (fun _ _ _ h => h) hS (Or.inl ⟨by rfl, ?hy7⟩) ?hr7
      case hy7 => (intro wS hSw; (try dsimp only at hSw); go_simp; (try with_reducible rfl))
      try simp only [Act.put, List.setIfInBounds_toArray, List.set_cons_zero, List.set_cons_succ, List.getElem_toArray, List.getElem_cons_zero, List.getElem_cons_succ]
      refine wpN_take (i := 7) (v := ?v8) rfl (by kernel_rfl) (fun _ _ _ h => h) hS (Or.inl ⟨by rfl, ?hy8⟩) ?hr8
      case hy8 => (intro wS hSw; (try dsimp only at hSw); go_simp; (try with_reducible rfl))
      try simp only [Act.put, List.setIfInBounds_toArray, List.set_cons_zero, List.set_cons_succ, List.getElem_toArray, List.getElem_cons_zero, List.getElem_cons_succ]
      refine wpN_step (i := 8) (by kernel_rfl) rfl (fun K hK => ?_)
      go_simp
      have hb0 : Below w.heap.size w v1.drew := B_v1.drew
      refine (Hih.out _ (List.getElem_mem hlt) v1.drew _ _ _ _ _ _ _ _ _ Y h0'.args[j] (fun q hq => Nat.lt_of_lt_of_le (H0.out q hq) hb0.size) (Hc.out.bel hb0) (Hm.out.bel hb0) (T_v1.out.bel (Below.refl _ _).drew) (V_v1.out.bel (Below.refl _ _).drew) (U_v1.out.bel (Below.refl _ _).drew) (Hz.out _ (List.getElem_mem hlt)) (Hfit.out _ (List.getElem_mem hlt))).mono ?_
      intro e v2 h
      obtain ⟨r, Hr, rfl, hbx0⟩ := of_retB' h
      clear h
      have hbx : Below v1.heap.size v1 v2 := (Below.refl _ _).drew.trans hbx0
      have e5v2 := ((Keep.refl (fun _ => True) _).below hbx) _ _ _ trivial e5v1
      have e6v2 := ((Keep.refl (fun _ => True) _).below hbx) _ _ _ trivial e6v1
      have B72 : Below w7.heap.size w7 v2 := B7v.trans (hbx.mono B7v.size)
      have xa_v2 := xa_v1.below hbx
      clear hbx0 hb0 e5v1 e6v1 B7v xa_v1
      have x0_v2 := x0_v1.below hbx
      have xh_v2 := xh_v1.below hbx
      have T_v2 := Lib.hid (T_v1.out.bel hbx)
      have U_v2 := Lib.hid (U_v1.out.bel hbx)
      have V_v2 := Lib.hid (V_v1.out.bel hbx)
      have B_v2 := B_v1.trans (hbx.mono B_v1.size)
      clear x0_v1 xh_v1 T_v1 U_v1 V_v1 B_v1 hbx
      have hS : (v2).cell? ⟨w.heap.size, 0, none⟩ = some (.int .i64 b) ∧ (v2).cell? ⟨w.heap.size, 1, none⟩ = some (.slice ca C.length cc) ∧ (v2).cell? ⟨w.heap.size, 2, none⟩ = some (.slice ma M.length mc) ∧ (v2).cell? ⟨p, 0, none⟩ = some (.slice (some ⟨bl', off', none⟩) args.length hc6) ∧ (v2).cell? ⟨p, 1, none⟩ = some (.int .i64 d0) ∧ (v2).cell? ⟨q, 0, none⟩ = some (.slice (PA j) (PN j) (PC j)) ∧ (v2).cell? ⟨q, 1, none⟩ = some (.int .i64 (Kd j)) ∧ (v2).cell? ⟨q, 2, none⟩ = some (.int .i64 (Ix j)) ∧ (v2).cell? ⟨q, 3, none⟩ = some (.slice (A j) (N j) (Cc j)) ∧ (v2).cell? ⟨bl', off' + j * 2, none⟩ = some (.slice A' N' C') ∧ (v2).cell? ⟨bl', off' + j * 2 + 1, none⟩ = some (.int .i64 B') := ⟨x0_v2.cell rfl, x0_v2.cell rfl, x0_v2.cell rfl, xh_v2.cell rfl, xh_v2.cell rfl, xa_v2.cell rfl, xa_v2.cell rfl, xa_v2.cell rfl, xa_v2.cell rfl, e5v2, e6v2⟩
      refine hK.out _ _ (fun _ => hS) ?_
      clear hK K
      try simp only [Act.put, List.setIfInBounds_toArray, List.set_cons_zero, List.set_cons_succ, List.getElem_toArray, List.getElem_cons_zero, List.getElem_cons_succ]
      refine wpN_take (i := 9) (v := ?v9) rfl (by kernel_rfl) (fun _ _ _ h => h) hS (Or.inl ⟨by rfl, ?hy9⟩) ?hr9
      case hy9 => (intro wS hSw; (try dsimp only at hSw); go_simp; (try with_reducible rfl))
      try simp only [Act.put, List.setIfInBounds_toArray, List.set_cons_zero, List.set_cons_succ, List.getElem_toArray, List.getElem_cons_zero, List.getElem_cons_succ]
      refine wpN_done (by kernel_rfl) ?_
      refine NoPanic.normal ?_
      clear hS
      cases r
      · have hn : ¬ P := fun hp => no_of Hr.out (HP3.out.1 hp j hlt hj')
        go_wp2_with fail
        go_ret
        exact ⟨false, by simp [hn], rfl, B_v2⟩
      · have Hy := Lib.hid (yes_of Hr.out)
        go_wp2_with fail
        go_roundw
        case rel => exact ⟨j + 1, by go_num, by omega, fun m h h' hm => by
          by_cases hmj : m < j
          · exact hrel.out m h h' hmj
          · obtain rfl : m = j := by omega
            exact Hy.out, B72⟩
        case measure => simp [intOf]; omega
    · have hp : P := HP3.out.2 fun m h h' => hrel.out m h h' (by omega)
      go_wp2_with fail
      go_ret
      exact ⟨true, by simp [hp], rfl, B_wr⟩
end Go.Proofs.Ytejpgifofkiofaa

