/-
  The document's Is: whether a term is of a type. The document's Depth, Right, Check; term.Check. Whether a world may be: the program's RightWorld and the document's. The laws' worlds: World, Small; the document's RightWorld. The contracts of heads and types once more, where all of memory may be read. Checks of substitutions: what is called, as deep contracts. Worlds and types in the laws of layers 6 and 9, as deep contracts (great seat). Package subst, walked in the deep way: Apply. Package subst, walked in the deep way: through, Apply. subst.Apply, walked in the deep way. The known answer of the laws of layer 9.
-/
import Derived.Test.YtiblklcfjakjmaaGreatRowSubstChkp7
import Derived.Test.YtiblklcfjakjmaaGreatRowSubstChkp1
import Derived.Test.YtiblklcfjakjmaaGreatRowSubstChkp5
import Derived.Test.YtiblklcfjakjmaaGreatRowSubstChkp6
set_option maxRecDepth 100000
set_option maxHeartbeats 1000000
set_option linter.unusedVariables false
set_option linter.unusedSimpArgs false
namespace Go.Proofs.YtiblklcfjakjmaaGreat
open Go.RowKit

set_option maxRecDepth 100000 in
set_option maxHeartbeats 8000000 in
theorem is_r {F : Nat → Prop} {b : Int} {C M : List Ty} : ∀ (t : Tm) (w : World) (cv mv xv tb tk ti ta s ub : Value) (X : List Ty) (u : Ty), (∀ q, F q → q < w.heap.size) → IsSl rpTy F w cv C → IsSl rpTy F w mv M → IsSl2 rpTy (fun _ => True) F w xv X → IsTm F w tb tk ti ta t → IsTy F w s ub u →
    X.length + t.full ≤ 90000 → t.Fit →
    Calls Tryz.prog 101 #[.agg #[.int .i64 b, cv, mv], xv, .agg #[tb, tk, ti, ta], .agg #[s, ub]] w (RetB (IsOf C M t X u) w) := Tm.ind fun binds k i args ih => by
  intro w cv mv xv tb tk ti ta s ub X u hF hc hm hx ht hu hz hfit
  obtain ⟨ca, cc, rfl⟩ := hc.shape
  obtain ⟨ma, mc, rfl⟩ := hm.shape
  obtain ⟨xa, xc, rfl⟩ := hx.shape
  obtain ⟨rfl, rfl, hbi, hsa⟩ := ht.inv
  obtain ⟨rfl, hus⟩ := hu.inv
  simp only [Tm.binds, Tm.kind, Tm.index, Tm.args] at hbi hsa ⊢
  obtain ⟨pa, pc, rfl⟩ := hbi.shape
  obtain ⟨qa, qc, rfl⟩ := hsa.shape
  obtain ⟨ua, uc, rfl⟩ := hus.shape
  obtain ⟨_, hma, bl, off, PA, A, PN, PC, N, Cc, Kd, Ix, ha, h1, h2, h3, h4, h5⟩ := sl_cells6 hsa
  unfold maxLen at hma
  have hi : i ≤ 9223372036854775807 := (Tm.fit_iff.1 hfit).2.1
  have Hfit : Hid (∀ t ∈ args, Tm.Fit t) := (Tm.fit_iff.1 hfit).2.2
  obtain ⟨Y, hY⟩ : ∃ Y, X ++ binds = Y := ⟨_, rfl⟩
  have hYl : Y.length = X.length + binds.length := by rw [← hY]; simp
  have hbl : binds.length ≤ Ty.sizes binds := Ty.le_sizes binds
  have Hz : Hid (∀ t ∈ args, Y.length + t.full ≤ 90000) := fun t ht => by have := Tm.full_mem ht; rw [Tm.full_eq] at hz; omega
  have hla : X.length + binds.length ≤ 100000 := by rw [Tm.full_eq] at hz; omega
  have H0 := Lib.hid hF; have Hc := Lib.hid hc; have Hm := Lib.hid hm
  have Heq := Lib.hid fun (w' : World) (hb : Below w.heap.size w w') => types_r hbi hus w' ((Keep.refl _ _).below hb) ((Keep.refl _ _).below hb)
  have Hwi := Lib.hid fun (w' : World) (hb : Below w.heap.size w w') => behind_r (hx.bel hb) (IsSl2.of (hbi.bel hb)) hla
  have Hhd := Lib.hid fun (w' : World) (yv : Value) (hb : Below w.heap.size w w') (hy : IsSl2 rpTy (fun _ => True) F w' yv Y) => headType_r (b := b) (fun q hq => Nat.lt_of_lt_of_le (hF q hq) hb.size) (hc.bel hb) (hm.bel hb) hy k i
  have H5 := Lib.hid h5; have Hih := Lib.hid ih
  have Hh : Hid (∀ o, headTy C M Y k i = o → (IsOf C M (.mk binds k i args) X u ↔ binds = u.args ∧ ∃ h, o = some h ∧ h.base = u.base ∧ IsOfs C M args Y h.args)) := fun o ho => by rw [isOf_mk, hY, ho]
  rw [hY] at Hwi
  obtain ⟨P, hP⟩ : ∃ P, IsOf C M (.mk binds k i args) X u = P := ⟨_, rfl⟩
  rw [hP] at Hh ⊢
  obtain ⟨o, ho⟩ : ∃ o, headTy C M Y k i = o := ⟨_, rfl⟩
  have HP := Lib.hid (Hh.out o ho)
  rw [ho] at Hhd
  obtain ⟨ul, hul⟩ : ∃ ul, u.args = ul := ⟨_, rfl⟩
  obtain ⟨ud, hud⟩ : ∃ ud, u.base = ud := ⟨_, rfl⟩
  rw [hul] at Heq HP hus ⊢
  rw [hud] at HP ⊢
  clear hP ho hul hud Hh hY hF hc hm hx ht hu hz hfit hbi hsa hus h5 ih hla hYl hbl
  go_enter Tryz.func101, Tryz.ntmps101
  go_wp2_with fail
  obtain ⟨w3, hw3⟩ : ∃ w3, ((w.alloc (.cells #[.int .i64 b, .slice ca C.length cc, .slice ma M.length mc] 24)).alloc (.cells #[.slice pa binds.length pc, .int .i64 k, .int .i64 i, .slice qa args.length qc] 47)).alloc (.cells #[.slice ua ul.length uc, .int .i64 ud] 104) = w3 := ⟨_, rfl⟩
  have B_w3 : Below w.heap.size w w3 := by rw [← hw3]; exact (((Below.refl _ _).alloc (Nat.le_refl _) _).alloc (by simp) _).alloc (by simp; omega) _
  have x0_w3 : Blk w3 w.heap.size #[.int .i64 b, .slice ca C.length cc, .slice ma M.length mc] 24 := by rw [← hw3]; exact ((Blk.new _ _ _ rfl).alloc _).alloc _
  have x1_w3 : Blk w3 (w.heap.size + 1) #[.slice pa binds.length pc, .int .i64 k, .int .i64 i, .slice qa args.length qc] 47 := by rw [← hw3]; exact (Blk.new _ _ _ (by simp)).alloc _
  have x2_w3 : Blk w3 (w.heap.size + 1 + 1) #[.slice ua ul.length uc, .int .i64 ud] 104 := by rw [← hw3]; exact Blk.new _ _ _ (by simp)
  rw [hw3]
  clear hw3
  refine (Hwi.out w3 B_w3).mono ?_
  rintro e w5 ⟨ya, yc, rfl, hT, hbx0⟩
  have hbx : Below w3.heap.size w3 w5 := hbx0
  clear hbx0
  have x0_w5 := x0_w3.below hbx
  have x1_w5 := x1_w3.below hbx
  have x2_w5 := x2_w3.below hbx
  have B_w5 := B_w3.trans (hbx.mono B_w3.size)
  clear x0_w3 x1_w3 x2_w3 B_w3 hbx
  have T_w5 := Lib.hid (hT.anyRow (by decide))
  clear hT
  have cx00 : w5.cell? ⟨w.heap.size, 0, none⟩ = some (.int .i64 b) := x0_w5.cell rfl
  have cx01 : w5.cell? ⟨w.heap.size, 1, none⟩ = some (.slice ca C.length cc) := x0_w5.cell rfl
  have cx02 : w5.cell? ⟨w.heap.size, 2, none⟩ = some (.slice ma M.length mc) := x0_w5.cell rfl
  have lx0 := x0_w5.lt
  have cx10 : w5.cell? ⟨w.heap.size + 1, 0, none⟩ = some (.slice pa binds.length pc) := x1_w5.cell rfl
  have cx11 : w5.cell? ⟨w.heap.size + 1, 1, none⟩ = some (.int .i64 k) := x1_w5.cell rfl
  have cx12 : w5.cell? ⟨w.heap.size + 1, 2, none⟩ = some (.int .i64 i) := x1_w5.cell rfl
  have cx13 : w5.cell? ⟨w.heap.size + 1, 3, none⟩ = some (.slice qa args.length qc) := x1_w5.cell rfl
  have lx1 := x1_w5.lt
  have cx20 : w5.cell? ⟨w.heap.size + 1 + 1, 0, none⟩ = some (.slice ua ul.length uc) := x2_w5.cell rfl
  have cx21 : w5.cell? ⟨w.heap.size + 1 + 1, 1, none⟩ = some (.int .i64 ud) := x2_w5.cell rfl
  have lx2 := x2_w5.lt
  go_wp2_with fail
  refine (Hhd.out w5 _ B_w5 T_w5.out).mono ?_
  rintro e w6 ⟨s6, b6, rfl, hT, hbx0⟩
  have hbx : Below w5.heap.size w5 w6 := hbx0
  clear hbx0
  clear cx00 cx01 cx02 lx0 cx10 cx11 cx12 cx13 lx1 cx20 cx21 lx2
  have x0_w6 := x0_w5.below hbx
  have x1_w6 := x1_w5.below hbx
  have x2_w6 := x2_w5.below hbx
  have T_w6 := Lib.hid (T_w5.out.bel hbx)
  have B_w6 := B_w5.trans (hbx.mono B_w5.size)
  clear x0_w5 x1_w5 x2_w5 T_w5 B_w5 hbx
  obtain ⟨h0, hh0⟩ : ∃ h0, o.getD tyZ = h0 := ⟨_, rfl⟩
  have Hh0 := Lib.hid hh0
  rw [hh0] at hT
  clear hh0
  obtain ⟨ha6, hc6, rfl, rfl⟩ := hT.shape
  have hat := sl_at (IsSl2.of hT.inv.2)
  obtain ⟨n0, hn0⟩ : ∃ n0, h0.args.length = n0 := ⟨_, rfl⟩
  obtain ⟨d0, hd0⟩ : ∃ d0, h0.base = d0 := ⟨_, rfl⟩
  rw [hn0] at hT ⊢
  rw [hd0] at hT ⊢
  have Hn0 := Lib.hid hn0; have Hd0 := Lib.hid hd0
  have Hat := Lib.hid hat
  clear hT hn0 hd0 hat
  cases hs : o.isSome
  · have hn : ¬ P := fun hp => by
      obtain ⟨_, h, e, _⟩ := HP.out.1 hp
      rw [e] at hs; cases hs
    have cx00 : w6.cell? ⟨w.heap.size, 0, none⟩ = some (.int .i64 b) := x0_w6.cell rfl
    have cx01 : w6.cell? ⟨w.heap.size, 1, none⟩ = some (.slice ca C.length cc) := x0_w6.cell rfl
    have cx02 : w6.cell? ⟨w.heap.size, 2, none⟩ = some (.slice ma M.length mc) := x0_w6.cell rfl
    have lx0 := x0_w6.lt
    have cx10 : w6.cell? ⟨w.heap.size + 1, 0, none⟩ = some (.slice pa binds.length pc) := x1_w6.cell rfl
    have cx11 : w6.cell? ⟨w.heap.size + 1, 1, none⟩ = some (.int .i64 k) := x1_w6.cell rfl
    have cx12 : w6.cell? ⟨w.heap.size + 1, 2, none⟩ = some (.int .i64 i) := x1_w6.cell rfl
    have cx13 : w6.cell? ⟨w.heap.size + 1, 3, none⟩ = some (.slice qa args.length qc) := x1_w6.cell rfl
    have lx1 := x1_w6.lt
    have cx20 : w6.cell? ⟨w.heap.size + 1 + 1, 0, none⟩ = some (.slice ua ul.length uc) := x2_w6.cell rfl
    have cx21 : w6.cell? ⟨w.heap.size + 1 + 1, 1, none⟩ = some (.int .i64 ud) := x2_w6.cell rfl
    have lx2 := x2_w6.lt
    go_wp2_with fail
    go_ret
    exact ⟨false, by simp [hn], rfl, by first | exact B_w6.alloc B_w6.size _ | exact B_w6⟩
  obtain ⟨h0', rfl⟩ := Option.isSome_iff_exists.1 hs
  obtain rfl : h0' = h0 := Hh0.out
  have HP2 : Hid (P ↔ binds = ul ∧ d0 = ud ∧ IsOfs C M args Y h0'.args) := by
    show P ↔ _
    rw [HP.out, ← Hd0.out]
    simp
  clear HP hs Hh0
  have cx00 : w6.cell? ⟨w.heap.size, 0, none⟩ = some (.int .i64 b) := x0_w6.cell rfl
  have cx01 : w6.cell? ⟨w.heap.size, 1, none⟩ = some (.slice ca C.length cc) := x0_w6.cell rfl
  have cx02 : w6.cell? ⟨w.heap.size, 2, none⟩ = some (.slice ma M.length mc) := x0_w6.cell rfl
  have lx0 := x0_w6.lt
  have cx10 : w6.cell? ⟨w.heap.size + 1, 0, none⟩ = some (.slice pa binds.length pc) := x1_w6.cell rfl
  have cx11 : w6.cell? ⟨w.heap.size + 1, 1, none⟩ = some (.int .i64 k) := x1_w6.cell rfl
  have cx12 : w6.cell? ⟨w.heap.size + 1, 2, none⟩ = some (.int .i64 i) := x1_w6.cell rfl
  have cx13 : w6.cell? ⟨w.heap.size + 1, 3, none⟩ = some (.slice qa args.length qc) := x1_w6.cell rfl
  have lx1 := x1_w6.lt
  have cx20 : w6.cell? ⟨w.heap.size + 1 + 1, 0, none⟩ = some (.slice ua ul.length uc) := x2_w6.cell rfl
  have cx21 : w6.cell? ⟨w.heap.size + 1 + 1, 1, none⟩ = some (.int .i64 ud) := x2_w6.cell rfl
  have lx2 := x2_w6.lt
  go_wp2_with fail
  obtain ⟨w7, hw7⟩ : ∃ w7, w6.alloc (.cells #[.slice ha6 n0 hc6, .int .i64 d0] 104) = w7 := ⟨_, rfl⟩
  have hbx : Below w6.heap.size w6 w7 := by rw [← hw7]; exact (Below.refl _ _).alloc (Nat.le_refl _) _
  obtain ⟨p, hp⟩ : ∃ p, w6.heap.size = p := ⟨_, rfl⟩
  have xh_w7 : Blk w7 p #[.slice ha6 n0 hc6, .int .i64 d0] 104 := by rw [← hw7]; exact Blk.new _ _ _ hp.symm
  try rw [hw7]
  try rw [hp]
  clear cx00 cx01 cx02 lx0 cx10 cx11 cx12 cx13 lx1 cx20 cx21 lx2
  clear hw7
  have Hbx := Lib.hid hbx
  have x0_w7 := x0_w6.below hbx
  have x1_w7 := x1_w6.below hbx
  have x2_w7 := x2_w6.below hbx
  have T_w7 := Lib.hid (T_w6.out.bel hbx)
  have B_w7 := B_w6.trans (hbx.mono B_w6.size)
  clear x0_w6 x1_w6 x2_w6 T_w6 B_w6 hbx
  clear hp
  refine (Heq.out w7 B_w7).mono ?_
  intro e w8 h
  obtain ⟨r, Hr, rfl, hbx⟩ := of_retB' h
  clear h
  have Hb8 := Lib.hid (Hbx.out.trans (hbx.mono Hbx.out.size))
  clear Hbx
  have x0_w8 := x0_w7.below hbx
  have x1_w8 := x1_w7.below hbx
  have x2_w8 := x2_w7.below hbx
  have xh_w8 := xh_w7.below hbx
  have T_w8 := Lib.hid (T_w7.out.bel hbx)
  have B_w8 := B_w7.trans (hbx.mono B_w7.size)
  clear x0_w7 x1_w7 x2_w7 xh_w7 T_w7 B_w7 hbx
  cases r
  · have hn : ¬ P := fun hp => no_of Hr.out (HP2.out.1 hp).1
    have cx00 : w8.cell? ⟨w.heap.size, 0, none⟩ = some (.int .i64 b) := x0_w8.cell rfl
    have cx01 : w8.cell? ⟨w.heap.size, 1, none⟩ = some (.slice ca C.length cc) := x0_w8.cell rfl
    have cx02 : w8.cell? ⟨w.heap.size, 2, none⟩ = some (.slice ma M.length mc) := x0_w8.cell rfl
    have lx0 := x0_w8.lt
    have cx10 : w8.cell? ⟨w.heap.size + 1, 0, none⟩ = some (.slice pa binds.length pc) := x1_w8.cell rfl
    have cx11 : w8.cell? ⟨w.heap.size + 1, 1, none⟩ = some (.int .i64 k) := x1_w8.cell rfl
    have cx12 : w8.cell? ⟨w.heap.size + 1, 2, none⟩ = some (.int .i64 i) := x1_w8.cell rfl
    have cx13 : w8.cell? ⟨w.heap.size + 1, 3, none⟩ = some (.slice qa args.length qc) := x1_w8.cell rfl
    have lx1 := x1_w8.lt
    have cx20 : w8.cell? ⟨w.heap.size + 1 + 1, 0, none⟩ = some (.slice ua ul.length uc) := x2_w8.cell rfl
    have cx21 : w8.cell? ⟨w.heap.size + 1 + 1, 1, none⟩ = some (.int .i64 ud) := x2_w8.cell rfl
    have lx2 := x2_w8.lt
    have cxh0 : w8.cell? ⟨p, 0, none⟩ = some (.slice ha6 n0 hc6) := xh_w8.cell rfl
    have cxh1 : w8.cell? ⟨p, 1, none⟩ = some (.int .i64 d0) := xh_w8.cell rfl
    have lxh := xh_w8.lt
    go_wp2_with fail
    go_ret
    exact ⟨false, by simp [hn], rfl, B_w8⟩
  have hbu := yes_of Hr.out
  subst hbu
  clear Hr
  have cx00 : w8.cell? ⟨w.heap.size, 0, none⟩ = some (.int .i64 b) := x0_w8.cell rfl
  have cx01 : w8.cell? ⟨w.heap.size, 1, none⟩ = some (.slice ca C.length cc) := x0_w8.cell rfl
  have cx02 : w8.cell? ⟨w.heap.size, 2, none⟩ = some (.slice ma M.length mc) := x0_w8.cell rfl
  have lx0 := x0_w8.lt
  have cx10 : w8.cell? ⟨w.heap.size + 1, 0, none⟩ = some (.slice pa binds.length pc) := x1_w8.cell rfl
  have cx11 : w8.cell? ⟨w.heap.size + 1, 1, none⟩ = some (.int .i64 k) := x1_w8.cell rfl
  have cx12 : w8.cell? ⟨w.heap.size + 1, 2, none⟩ = some (.int .i64 i) := x1_w8.cell rfl
  have cx13 : w8.cell? ⟨w.heap.size + 1, 3, none⟩ = some (.slice qa args.length qc) := x1_w8.cell rfl
  have lx1 := x1_w8.lt
  have cxh0 : w8.cell? ⟨p, 0, none⟩ = some (.slice ha6 n0 hc6) := xh_w8.cell rfl
  have cxh1 : w8.cell? ⟨p, 1, none⟩ = some (.int .i64 d0) := xh_w8.cell rfl
  have lxh := xh_w8.lt
  have cx20 : w8.cell? ⟨w.heap.size + 1 + 1, 0, none⟩ = some (.slice ua binds.length uc) := x2_w8.cell rfl
  have cx21 : w8.cell? ⟨w.heap.size + 1 + 1, 1, none⟩ = some (.int .i64 ud) := x2_w8.cell rfl
  have lx2 := x2_w8.lt
  by_cases hd : d0 = ud
  rotate_left
  · have hn : ¬ P := fun hp => hd (HP2.out.1 hp).2.1
    have g1 : (d0 == ud) = false := by simpa using hd
    have g2 : (d0 != ud) = true := by simpa using hd
    go_wp2_with fail
    go_ret
    exact ⟨false, by simp [hn], rfl, B_w8⟩
  subst hd
  by_cases hn : (n0 : Int) = (args.length : Int)
  rotate_left
  · have hnn : ¬ P := fun hp => by
      have h := (isOfs_iff.1 (HP2.out.1 hp).2.2).1
      have := Hn0.out
      omega
    have g1 : ((n0 : Int) == (args.length : Int)) = false := by simpa using hn
    have g2 : ((n0 : Int) != (args.length : Int)) = true := by simpa using hn
    go_wp2_with fail
    go_ret
    exact ⟨false, by simp [hnn], rfl, B_w8⟩
  have hnn : n0 = args.length := by omega
  subst hnn
  clear hn
  have HP3 : Hid (P ↔ ∀ j (h : j < args.length) (h' : j < h0'.args.length), IsOf C M args[j] Y h0'.args[j]) := by
    show P ↔ _
    rw [HP2.out, isOfs_iff]
    simp [Hn0.out]
  clear HP2
  go_wp2_with fail
  clear cx00 cx01 cx02 cx10 cx11 cx12 cx13 cx20 cx21 lx0 lx1 lx2 cxh0 cxh1 lxh
  have Bw7 := Lib.hid B_w8
  clear B_w8
  go_loopw [12] (fun c wr => ∃ j : Nat, c = .int .i64 j ∧ j ≤ args.length ∧ Hid (∀ m (h : m < args.length) (h' : m < h0'.args.length), m < j → IsOf C M args[m] Y h0'.args[m]) ∧ Below w8.heap.size w8 wr) (fun c _ => args.length - (intOf c).toNat)
  case atStart => exact ⟨0, rfl, by omega, fun m _ _ h => absurd h (by omega), Below.refl _ _⟩
  case round =>
    obtain ⟨j, rfl, hj, hrel, hbr⟩ := hrel
    have Hbr := Lib.hid hbr
    have B_wr := Bw7.out.trans (hbr.mono Bw7.out.size)
    have x0_wr := x0_w8.below hbr; have x1_wr := x1_w8.below hbr; have xh_wr := xh_w8.below hbr
    have T_wr := Lib.hid (T_w8.out.bel hbr)
    clear x0_w8 x1_w8 x2_w8 xh_w8 T_w8 hbr
    by_cases hlt : j < args.length
    · obtain ⟨rfl, hF⟩ := ha (by omega)
      have i0 : (0 : Int) ≤ (j : Int) := Int.natCast_nonneg _
      have i1 : (j : Int) < (args.length : Int) := by omega
      have hj' : j < h0'.args.length := by have := Hn0.out; omega
      obtain ⟨bl', off', A', N', C', B', rfl, hF', e5, e6, hU⟩ := Hat.out j hj'
      have Kp : Keep F w wr := (Keep.refl _ _).below B_wr
      have e1wr := Kp _ _ _ hF (h1 j hlt)
      have e2wr := Kp _ _ _ hF (h2 j hlt)
      have e3wr := Kp _ _ _ hF (h3 j hlt)
      have e4wr := Kp _ _ _ hF (h4 j hlt)
      have B6r : Below w6.heap.size w6 wr := Hb8.out.trans (Hbr.out.mono Hb8.out.size)
      have e5wr := ((Keep.refl (fun _ => True) _).below B6r) _ _ _ trivial e5
      have e6wr := ((Keep.refl (fun _ => True) _).below B6r) _ _ _ trivial e6
      have U_wr := Lib.hid (hU.bel B6r)
      have V_wr := Lib.hid ((H5.out j hlt).bel B_wr)
      clear e5 e6 hU B6r Kp
      have cx10 : wr.cell? ⟨w.heap.size + 1, 0, none⟩ = some (.slice pa binds.length pc) := x1_wr.cell rfl
      have cx11 : wr.cell? ⟨w.heap.size + 1, 1, none⟩ = some (.int .i64 k) := x1_wr.cell rfl
      have cx12 : wr.cell? ⟨w.heap.size + 1, 2, none⟩ = some (.int .i64 i) := x1_wr.cell rfl
      have cx13 : wr.cell? ⟨w.heap.size + 1, 3, none⟩ = some (.slice (some ⟨bl, off, none⟩) args.length qc) := x1_wr.cell rfl
      have lx1 := x1_wr.lt
      go_wp2_with fail
      clear cx10 cx11 cx12 cx13 lx1
      refine wp_region_noPanic (wp_region_need (S := fun w' => w'.cell? ⟨w.heap.size, 0, none⟩ = some (.int .i64 b) ∧ w'.cell? ⟨w.heap.size, 1, none⟩ = some (.slice ca C.length cc) ∧ w'.cell? ⟨w.heap.size, 2, none⟩ = some (.slice ma M.length mc) ∧ w'.cell? ⟨w.heap.size + 1, 3, none⟩ = some (.slice (some ⟨bl, off, none⟩) args.length qc) ∧ w'.cell? ⟨p, 0, none⟩ = some (.slice (some ⟨bl', off', none⟩) args.length hc6) ∧ w'.cell? ⟨bl, off + j * 4, none⟩ = some (.slice (PA j) (PN j) (PC j)) ∧ w'.cell? ⟨bl, off + j * 4 + 1, none⟩ = some (.int .i64 (Kd j)) ∧ w'.cell? ⟨bl, off + j * 4 + 2, none⟩ = some (.int .i64 (Ix j)) ∧ w'.cell? ⟨bl, off + j * 4 + 3, none⟩ = some (.slice (A j) (N j) (Cc j)) ∧ w'.cell? ⟨bl', off' + j * 2, none⟩ = some (.slice A' N' C') ∧ w'.cell? ⟨bl', off' + j * 2 + 1, none⟩ = some (.int .i64 B')) (by kernel_rfl) ?_)
      have hS : (wr.drew).cell? ⟨w.heap.size, 0, none⟩ = some (.int .i64 b) ∧ (wr.drew).cell? ⟨w.heap.size, 1, none⟩ = some (.slice ca C.length cc) ∧ (wr.drew).cell? ⟨w.heap.size, 2, none⟩ = some (.slice ma M.length mc) ∧ (wr.drew).cell? ⟨w.heap.size + 1, 3, none⟩ = some (.slice (some ⟨bl, off, none⟩) args.length qc) ∧ (wr.drew).cell? ⟨p, 0, none⟩ = some (.slice (some ⟨bl', off', none⟩) args.length hc6) ∧ (wr.drew).cell? ⟨bl, off + j * 4, none⟩ = some (.slice (PA j) (PN j) (PC j)) ∧ (wr.drew).cell? ⟨bl, off + j * 4 + 1, none⟩ = some (.int .i64 (Kd j)) ∧ (wr.drew).cell? ⟨bl, off + j * 4 + 2, none⟩ = some (.int .i64 (Ix j)) ∧ (wr.drew).cell? ⟨bl, off + j * 4 + 3, none⟩ = some (.slice (A j) (N j) (Cc j)) ∧ (wr.drew).cell? ⟨bl', off' + j * 2, none⟩ = some (.slice A' N' C') ∧ (wr.drew).cell? ⟨bl', off' + j * 2 + 1, none⟩ = some (.int .i64 B') := ⟨x0_wr.cell rfl, x0_wr.cell rfl, x0_wr.cell rfl, x1_wr.cell rfl, xh_wr.cell rfl, e1wr, e2wr, e3wr, e4wr, e5wr, e6wr⟩
      refine wpN_take (i := 0) (v := ?v1) rfl (by kernel_rfl) (fun _ _ _ h => h) hS (Or.inl ⟨by rfl, ?hy1⟩) ?hr1
      case hy1 => (intro wS hSw; (try dsimp only at hSw); go_simp; (try with_reducible rfl))
      try simp only [Act.put, List.setIfInBounds_toArray, List.set_cons_zero, List.set_cons_succ, List.getElem_toArray, List.getElem_cons_zero, List.getElem_cons_succ]
      refine wpN_take (i := 1) (v := ?v2) rfl (by kernel_rfl) (fun _ _ _ h => h) hS (Or.inl ⟨by rfl, ?hy2⟩) ?hr2
      case hy2 => (intro wS hSw; (try dsimp only at hSw); go_simp; (try with_reducible rfl))
      try simp only [Act.put, List.setIfInBounds_toArray, List.set_cons_zero, List.set_cons_succ, List.getElem_toArray, List.getElem_cons_zero, List.getElem_cons_succ]
      refine wpN_take (i := 2) (v := ?v3) rfl (by kernel_rfl) (fun _ _ _ h => h) hS (Or.inl ⟨by rfl, ?hy3⟩) ?hr3
      case hy3 => (intro wS hSw; (try dsimp only at hSw); go_simp; (try with_reducible rfl))
      try simp only [Act.put, List.setIfInBounds_toArray, List.set_cons_zero, List.set_cons_succ, List.getElem_toArray, List.getElem_cons_zero, List.getElem_cons_succ]
      refine wpN_take (i := 3) (v := ?v4) rfl (by kernel_rfl) (fun _ _ _ h => h) hS (Or.inl ⟨by rfl, ?hy4⟩) ?hr4
      case hy4 => (intro wS hSw; (try dsimp only at hSw); go_simp; (try with_reducible rfl))
      try simp only [Act.put, List.setIfInBounds_toArray, List.set_cons_zero, List.set_cons_succ, List.getElem_toArray, List.getElem_cons_zero, List.getElem_cons_succ]
      refine wpN_take (i := 4) (v := ?v5) rfl (by kernel_rfl) (fun _ _ _ h => h) hS (Or.inl ⟨by rfl, ?hy5⟩) ?hr5
      case hy5 => (intro wS hSw; (try dsimp only at hSw); go_simp; (try with_reducible rfl))
      try simp only [Act.put, List.setIfInBounds_toArray, List.set_cons_zero, List.set_cons_succ, List.getElem_toArray, List.getElem_cons_zero, List.getElem_cons_succ]
      refine wpN_take (i := 5) (v := ?v6) rfl (by kernel_rfl) (fun _ _ _ h => h) hS (Or.inl ⟨by rfl, ?hy6⟩) ?hr6
      case hy6 => (intro wS hSw; (try dsimp only at hSw); go_simp; (try with_reducible rfl))
      try simp only [Act.put, List.setIfInBounds_toArray, List.set_cons_zero, List.set_cons_succ, List.getElem_toArray, List.getElem_cons_zero, List.getElem_cons_succ]
      refine wpN_take (i := 6) (v := ?v7) rfl (by kernel_rfl) (fun _ _ _ h => h) hS (Or.inl ⟨by rfl, ?hy7⟩) ?hr7
      case hy7 => (intro wS hSw; (try dsimp only at hSw); go_simp; (try with_reducible rfl))
      try simp only [Act.put, List.setIfInBounds_toArray, List.set_cons_zero, List.set_cons_succ, List.getElem_toArray, List.getElem_cons_zero, List.getElem_cons_succ]
      refine wpN_take (i := 7) (v := ?v8) rfl (by kernel_rfl) (fun _ _ _ h => h) hS (Or.inl ⟨by rfl, ?hy8⟩) ?hr8
      case hy8 => (intro wS hSw; (try dsimp only at hSw); go_simp; (try with_reducible rfl))
      try simp only [Act.put, List.setIfInBounds_toArray, List.set_cons_zero, List.set_cons_succ, List.getElem_toArray, List.getElem_cons_zero, List.getElem_cons_succ]
      refine wpN_take (i := 8) (v := ?v9) rfl (by kernel_rfl) (fun _ _ _ h => h) hS (Or.inl ⟨by rfl, ?hy9⟩) ?hr9
      case hy9 => (intro wS hSw; (try dsimp only at hSw); go_simp; (try with_reducible rfl))
      try simp only [Act.put, List.setIfInBounds_toArray, List.set_cons_zero, List.set_cons_succ, List.getElem_toArray, List.getElem_cons_zero, List.getElem_cons_succ]
      refine wpN_take (i := 9) (v := ?v10) rfl (by kernel_rfl) (fun _ _ _ h => h) hS (Or.inl ⟨by rfl, ?hy10⟩) ?hr10
      case hy10 => (intro wS hSw; (try dsimp only at hSw); go_simp; (try with_reducible rfl))
      try simp only [Act.put, List.setIfInBounds_toArray, List.set_cons_zero, List.set_cons_succ, List.getElem_toArray, List.getElem_cons_zero, List.getElem_cons_succ]
      refine wpN_take (i := 10) (v := ?v11) rfl (by kernel_rfl) (fun _ _ _ h => h) hS (Or.inl ⟨by rfl, ?hy11⟩) ?hr11
      case hy11 => (intro wS hSw; (try dsimp only at hSw); go_simp; (try with_reducible rfl))
      try simp only [Act.put, List.setIfInBounds_toArray, List.set_cons_zero, List.set_cons_succ, List.getElem_toArray, List.getElem_cons_zero, List.getElem_cons_succ]
      refine wpN_take (i := 11) (v := ?v12) rfl (by kernel_rfl) (fun _ _ _ h => h) hS (Or.inl ⟨by rfl, ?hy12⟩) ?hr12
      case hy12 => (intro wS hSw; (try dsimp only at hSw); go_simp; (try with_reducible rfl))
      try simp only [Act.put, List.setIfInBounds_toArray, List.set_cons_zero, List.set_cons_succ, List.getElem_toArray, List.getElem_cons_zero, List.getElem_cons_succ]
      refine wpN_step (i := 12) (by kernel_rfl) rfl (fun K hK => ?_)
      go_simp
      have hb0 : Below w.heap.size w wr.drew := B_wr.drew
      refine (Hih.out _ (List.getElem_mem hlt) wr.drew _ _ _ _ _ _ _ _ _ Y h0'.args[j] (fun q hq => Nat.lt_of_lt_of_le (H0.out q hq) hb0.size) (Hc.out.bel hb0) (Hm.out.bel hb0) (T_wr.out.bel (Below.refl _ _).drew) (V_wr.out.bel (Below.refl _ _).drew) (U_wr.out.bel (Below.refl _ _).drew) (Hz.out _ (List.getElem_mem hlt)) (Hfit.out _ (List.getElem_mem hlt))).mono ?_
      intro e v2 h
      obtain ⟨r, Hr, rfl, hbx0⟩ := of_retB' h
      clear h
      have hbx : Below wr.heap.size wr v2 := (Below.refl _ _).drew.trans hbx0
      have hkx : Keep (fun _ => True) wr v2 := (Keep.refl _ _).below hbx
      have e1v2 := hkx _ _ _ trivial e1wr
      have e2v2 := hkx _ _ _ trivial e2wr
      have e3v2 := hkx _ _ _ trivial e3wr
      have e4v2 := hkx _ _ _ trivial e4wr
      have e5v2 := hkx _ _ _ trivial e5wr
      have e6v2 := hkx _ _ _ trivial e6wr
      have B72 : Below w8.heap.size w8 v2 := Hbr.out.trans (hbx.mono Hbr.out.size)
      clear hbx0 hb0 e1wr e2wr e3wr e4wr e5wr e6wr hkx
      have x0_v2 := x0_wr.below hbx
      have x1_v2 := x1_wr.below hbx
      have xh_v2 := xh_wr.below hbx
      have T_v2 := Lib.hid (T_wr.out.bel hbx)
      have U_v2 := Lib.hid (U_wr.out.bel hbx)
      have V_v2 := Lib.hid (V_wr.out.bel hbx)
      have B_v2 := B_wr.trans (hbx.mono B_wr.size)
      clear x0_wr x1_wr xh_wr T_wr U_wr V_wr B_wr hbx
      have hS : (v2).cell? ⟨w.heap.size, 0, none⟩ = some (.int .i64 b) ∧ (v2).cell? ⟨w.heap.size, 1, none⟩ = some (.slice ca C.length cc) ∧ (v2).cell? ⟨w.heap.size, 2, none⟩ = some (.slice ma M.length mc) ∧ (v2).cell? ⟨w.heap.size + 1, 3, none⟩ = some (.slice (some ⟨bl, off, none⟩) args.length qc) ∧ (v2).cell? ⟨p, 0, none⟩ = some (.slice (some ⟨bl', off', none⟩) args.length hc6) ∧ (v2).cell? ⟨bl, off + j * 4, none⟩ = some (.slice (PA j) (PN j) (PC j)) ∧ (v2).cell? ⟨bl, off + j * 4 + 1, none⟩ = some (.int .i64 (Kd j)) ∧ (v2).cell? ⟨bl, off + j * 4 + 2, none⟩ = some (.int .i64 (Ix j)) ∧ (v2).cell? ⟨bl, off + j * 4 + 3, none⟩ = some (.slice (A j) (N j) (Cc j)) ∧ (v2).cell? ⟨bl', off' + j * 2, none⟩ = some (.slice A' N' C') ∧ (v2).cell? ⟨bl', off' + j * 2 + 1, none⟩ = some (.int .i64 B') := ⟨x0_v2.cell rfl, x0_v2.cell rfl, x0_v2.cell rfl, x1_v2.cell rfl, xh_v2.cell rfl, e1v2, e2v2, e3v2, e4v2, e5v2, e6v2⟩
      refine hK.out _ _ (fun _ => hS) ?_
      clear hK K
      try simp only [Act.put, List.setIfInBounds_toArray, List.set_cons_zero, List.set_cons_succ, List.getElem_toArray, List.getElem_cons_zero, List.getElem_cons_succ]
      refine wpN_take (i := 13) (v := ?v13) rfl (by kernel_rfl) (fun _ _ _ h => h) hS (Or.inl ⟨by rfl, ?hy13⟩) ?hr13
      case hy13 => (intro wS hSw; (try dsimp only at hSw); go_simp; (try with_reducible rfl))
      try simp only [Act.put, List.setIfInBounds_toArray, List.set_cons_zero, List.set_cons_succ, List.getElem_toArray, List.getElem_cons_zero, List.getElem_cons_succ]
      refine wpN_done (by kernel_rfl) ?_
      refine NoPanic.normal ?_
      clear hS
      cases r
      · have hn : ¬ P := fun hp => no_of Hr.out (HP3.out.1 hp j hlt hj')
        go_wp2_with fail
        go_ret
        exact ⟨false, by simp [hn], rfl, B_v2⟩
      · have Hy := Lib.hid (yes_of Hr.out)
        go_wp2_with fail
        go_roundw
        case rel => exact ⟨j + 1, by go_num, by omega, fun m h h' hm => by
          by_cases hmj : m < j
          · exact hrel.out m h h' hmj
          · obtain rfl : m = j := by omega
            exact Hy.out, B72⟩
        case measure => simp [intOf]; omega
    · have hp : P := HP3.out.2 fun m h h' => hrel.out m h h' (by omega)
      have cx10 : wr.cell? ⟨w.heap.size + 1, 0, none⟩ = some (.slice pa binds.length pc) := x1_wr.cell rfl
      have cx11 : wr.cell? ⟨w.heap.size + 1, 1, none⟩ = some (.int .i64 k) := x1_wr.cell rfl
      have cx12 : wr.cell? ⟨w.heap.size + 1, 2, none⟩ = some (.int .i64 i) := x1_wr.cell rfl
      have cx13 : wr.cell? ⟨w.heap.size + 1, 3, none⟩ = some (.slice qa args.length qc) := x1_wr.cell rfl
      have lx1 := x1_wr.lt
      go_wp2_with fail
      go_ret
      exact ⟨true, by simp [hp], rfl, B_wr⟩
end Go.Proofs.YtiblklcfjakjmaaGreat

namespace Go.Proofs.YtiblklcfjakjmaaGreat
open Go.RowKit

set_option maxRecDepth 100000 in
theorem depth6_r : ∀ t : Tm, ∀ {F : Nat → Prop} {w0 : World} {b k i a : Value} (_ : IsTm F w0 b k i a t) (w : World), t.size ≤ 1000000 → Keep F w0 w → Calls Tryz.prog 130 #[.agg #[b, k, i, a]] w (RetI t.depth w) := Tm.ind fun binds k0 i0 args ih => by
  intro F w0 b k i a ht w hsz hw
  obtain ⟨pa, pc, qa, qc, rfl, rfl, rfl, rfl⟩ := ht.shape
  simp only [Tm.binds, Tm.kind, Tm.index, Tm.args] at ht ⊢
  obtain ⟨_, _, _, hsl⟩ := ht.inv
  simp only [Tm.args] at hsl
  obtain ⟨_, hm, bl, off, PA, A, PN, PC, N', C, Kd, Ix, ha, h1, h2, h3, h4, h5⟩ := sl_cells6 hsl
  clear ht hsl hm
  have hlen : args.length ≤ 1000000 := by have := Tm.len_sizes args; rw [Tm.size_eq] at hsz; omega
  have Hsz : Hid (∀ i (h : i < args.length), args[i].size ≤ 1000000 ∧ args[i].depth ≤ 1000000 ∧ Tm.depths (args.take i) ≤ 1000000) := fun i h => by
    have := Tm.size_mem (List.getElem_mem h); rw [Tm.size_eq] at hsz
    have := Tm.depth_le_size args[i]
    have := Tm.depths_take_le args i
    have := Tm.depth_le_size (.mk binds k0 i0 args)
    rw [Tm.depth_eq, Tm.size_eq] at this
    omega
  have Hend : Hid ((Tm.mk binds k0 i0 args).depth = Tm.depths args + 1) := Tm.depth_eq _ _ _ _
  have Hend2 : Hid (Tm.depths args ≤ 1000000) := by show _ ≤ _; have := Tm.depth_le_size (.mk binds k0 i0 args); rw [Tm.depth_eq] at this; omega
  have Hih := Lib.hid ih; clear ih hsz
  go_enter Tryz.func130, Tryz.ntmps130
  go_wp2_with fail
  go_loopw [3, 4, 5] (fun x i _ wr => ∃ k : Nat, i = .int .i64 k ∧ x = .int .i64 (Tm.depths (args.take k) : Int) ∧ k ≤ args.length ∧ Below w.heap.size w wr ∧ Blk wr w.heap.size #[.slice pa binds.length pc, .int .i64 k0, .int .i64 i0, .slice qa args.length qc] 47) (fun _ i _ _ => args.length - (intOf i).toNat)
  case atStart => exact ⟨0, rfl, rfl, by omega, (Below.refl _ _).alloc (Nat.le_refl _) _, Blk.new _ _ _ rfl⟩
  case round =>
    obtain ⟨k, rfl, rfl, hk, hb, hbox⟩ := hrel
    have c0 : wr.cell? ⟨w.heap.size, 3, none⟩ = some (.slice qa args.length qc) := hbox.cell rfl
    have hlt0 := hbox.lt
    by_cases hlt : k < args.length
    · obtain ⟨rfl, hF⟩ := ha (by omega)
      have e1 := (hw.below hb) _ _ _ hF (h1 k hlt)
      have e2 := (hw.below hb) _ _ _ hF (h2 k hlt)
      have e3 := (hw.below hb) _ _ _ hF (h3 k hlt)
      have e4 := (hw.below hb) _ _ _ hF (h4 k hlt)
      have Ht := Lib.hid (Tm.depths_take args k hlt)
      go_wp2_with fail
      refine (Hih.out _ (List.getElem_mem hlt) (h5 k hlt) _ (Hsz.out k hlt).1 (hw.below hb)).mono ?_
      rintro e w1 ⟨rfl, hb1⟩
      by_cases hg : (args[k].depth : Int) > (Tm.depths (args.take k) : Int)
      · go_wp2_with fail
        go_roundw
        case rel => exact ⟨k + 1, by go_num, by rw [Ht.out, Nat.max_eq_right (by omega)], by omega, hb.trans (hb1.mono (by omega)), hbox.below hb1⟩
        case measure => simp [intOf]; omega
      · go_wp2_with fail
        go_roundw
        case rel => exact ⟨k + 1, by go_num, by rw [Ht.out, Nat.max_eq_left (by omega)], by omega, hb.trans (hb1.mono (by omega)), hbox.below hb1⟩
        case measure => simp [intOf]; omega
    · have Hd : Hid (Tm.depths (args.take k) = Tm.depths args) := by show _ = _; rw [List.take_of_length_le (by omega)]
      have hd2 : (Tm.depths (args.take k) : Int) ≤ 1000000 := by have := Hd.out; have := Hend2.out; omega
      go_wp2_with fail
      go_ret
      refine ⟨?_, hb⟩
      rw [Hend.out, ← Hd.out]; rfl

set_option maxRecDepth 100000 in
theorem Right_r {F : Nat → Prop} {w : World} {b k i a : Value} {t : Tm} (ht : IsTm F w b k i a t) (hz : t.size ≤ 1000000) : Calls Tryz.prog 100 #[.agg #[b, k, i, a]] w (RetB (t.size ≤ 5000 ∧ t.depth ≤ 60) w) := by
  have Hs := Lib.hid fun (w' : World) (hb : Below w.heap.size w w') => size6_r t ht w' hz ((Keep.refl _ _).below hb)
  have Hd := Lib.hid fun (w' : World) (hb : Below w.heap.size w w') => depth6_r t ht w' hz ((Keep.refl _ _).below hb)
  obtain ⟨t_pa, t_pc, t_qa, t_qc, rfl, rfl, rfl, rfl⟩ := ht.shape
  obtain ⟨t_n, ht_n⟩ : ∃ x, t.binds.length = x := ⟨_, rfl⟩
  obtain ⟨t_m, ht_m⟩ : ∃ x, t.args.length = x := ⟨_, rfl⟩
  obtain ⟨t_k, ht_k⟩ : ∃ x, t.kind = x := ⟨_, rfl⟩
  obtain ⟨t_i, ht_i⟩ : ∃ x, t.index = x := ⟨_, rfl⟩
  rw [ht_n, ht_m, ht_k, ht_i] at ht ⊢
  have Et_n := Lib.hid ht_n
  have Et_m := Lib.hid ht_m
  have Et_k := Lib.hid ht_k
  have Et_i := Lib.hid ht_i
  clear ht_n ht_m ht_k ht_i
  clear ht
  obtain ⟨z, hzz⟩ : ∃ z, t.size = z := ⟨_, rfl⟩
  obtain ⟨d, hdd⟩ : ∃ d, t.depth = d := ⟨_, rfl⟩
  rw [hzz] at Hs ⊢
  rw [hdd] at Hd ⊢
  rw [Et_n.out, Et_m.out, Et_k.out, Et_i.out] at Hs Hd
  clear hzz hdd hz
  go_enter Tryz.func100, Tryz.ntmps100
  go_wp2_with fail
  have hb1 : Below w.heap.size w (w.alloc (.cells #[.slice t_pa t_n t_pc, .int .i64 t_k, .int .i64 t_i, .slice t_qa t_m t_qc] 47)) := (Below.refl _ _).alloc (Nat.le_refl _) _
  have x1 : Blk (w.alloc (.cells #[.slice t_pa t_n t_pc, .int .i64 t_k, .int .i64 t_i, .slice t_qa t_m t_qc] 47)) w.heap.size #[.slice t_pa t_n t_pc, .int .i64 t_k, .int .i64 t_i, .slice t_qa t_m t_qc] 47 := Blk.new _ _ _ rfl
  refine (Hs.out _ hb1).mono ?_
  rintro e w1 ⟨rfl, hb2⟩
  have B1 := hb1.trans (hb2.mono hb1.size)
  have x2 := x1.below hb2
  clear hb1 hb2 x1
  by_cases h : z ≤ 5000
  · have h' : (z : Int) ≤ 5000 := by omega
    have c0 : w1.cell? ⟨w.heap.size, 0, none⟩ = some (.slice t_pa t_n t_pc) := x2.cell rfl
    have c1 : w1.cell? ⟨w.heap.size, 1, none⟩ = some (.int .i64 t_k) := x2.cell rfl
    have c2 : w1.cell? ⟨w.heap.size, 2, none⟩ = some (.int .i64 t_i) := x2.cell rfl
    have c3 : w1.cell? ⟨w.heap.size, 3, none⟩ = some (.slice t_qa t_m t_qc) := x2.cell rfl
    have l0 := x2.lt
    go_wp2_with fail
    refine (Hd.out _ B1).mono ?_
    rintro e w2 ⟨rfl, hb3⟩
    go_wp2_with fail
    go_ret
    exact ⟨_, by simp; omega, rfl, B1.trans (hb3.mono B1.size)⟩
  · have h' : ¬ (z : Int) ≤ 5000 := by omega
    have h2 : decide ((z : Int) ≤ 5000) = false := by simpa using h'
    go_wp2_with fail
    go_ret
    exact ⟨_, by simp; omega, rfl, B1⟩

def checkCode (C M : List Ty) (t : Tm) (X : List Ty) (u : Ty) (c : Int) : Prop := (¬ (t.size ≤ 5000 ∧ t.depth ≤ 60) ∧ c = 2) ∨ ((t.size ≤ 5000 ∧ t.depth ≤ 60) ∧ ¬ IsOf C M t X u ∧ c = 5) ∨ ((t.size ≤ 5000 ∧ t.depth ≤ 60) ∧ IsOf C M t X u ∧ c = 0)
theorem checkCode_uniq {C M : List Ty} {t : Tm} {X : List Ty} {u : Ty} {c c' : Int} (h : checkCode C M t X u c) (h' : checkCode C M t X u c') : c = c' := by
  unfold checkCode at h h'
  rcases h with ⟨h1, h2⟩ | ⟨h1, h2, h3⟩ | ⟨h1, h2, h3⟩ <;> rcases h' with ⟨g1, g2⟩ | ⟨g1, g2, g3⟩ | ⟨g1, g2, g3⟩ <;> first | omega | exact absurd h1 g1 | exact absurd g1 h1 | exact absurd h2 g2 | exact absurd g2 h2
def RetCheck (C M : List Ty) (t : Tm) (X : List Ty) (u : Ty) (w : World) (e : Ending) (w' : World) : Prop := ∃ c : Int, Hid (checkCode C M t X u c) ∧ e = .returned (.int .i64 c) ∧ Below w.heap.size w w'

set_option maxRecDepth 100000 in
set_option maxHeartbeats 4000000 in
theorem Check_k {F : Nat → Prop} {b : Int} {C M : List Ty} (t : Tm) (w : World) (cv mv xv tb tk ti ta s ub : Value) (X : List Ty) (u : Ty) (hF : ∀ q, F q → q < w.heap.size) (hc : IsSl rpTy F w cv C) (hm : IsSl rpTy F w mv M) (hx : IsSl2 rpTy (fun _ => True) F w xv X) (ht : IsTm F w tb tk ti ta t) (hu : IsTy F w s ub u)
    (hz : X.length + t.full ≤ 90000) (hfit : t.Fit) :
    Calls Tryz.prog 39 #[.agg #[.int .i64 b, cv, mv], xv, .agg #[tb, tk, ti, ta], .agg #[s, ub]] w (RetCheck C M t X u w) := by
  have Hi := Lib.hid fun (w' : World) (hb : Below w.heap.size w w') => is_k (b := b) t w' cv mv xv tb tk ti ta s ub X u (fun q hq => Nat.lt_of_lt_of_le (hF q hq) hb.size) (hc.bel hb) (hm.bel hb) (hx.bel hb) (ht.bel hb) (hu.bel hb) hz hfit
  have Hrt := Lib.hid fun (w' : World) (hb : Below w.heap.size w w') => right6_k (ht.bel hb) (by omega)
  obtain ⟨ca, cc, rfl⟩ := hc.shape
  obtain ⟨ma, mc, rfl⟩ := hm.shape
  obtain ⟨xa, xc, rfl⟩ := hx.shape
  obtain ⟨ua, uc, rfl, rfl⟩ := hu.shape
  obtain ⟨t_pa, t_pc, t_qa, t_qc, rfl, rfl, rfl, rfl⟩ := ht.shape
  obtain ⟨t_n, ht_n⟩ : ∃ x, t.binds.length = x := ⟨_, rfl⟩
  obtain ⟨t_m, ht_m⟩ : ∃ x, t.args.length = x := ⟨_, rfl⟩
  obtain ⟨t_k, ht_k⟩ : ∃ x, t.kind = x := ⟨_, rfl⟩
  obtain ⟨t_i, ht_i⟩ : ∃ x, t.index = x := ⟨_, rfl⟩
  rw [ht_n, ht_m, ht_k, ht_i] at ht ⊢
  have Et_n := Lib.hid ht_n
  have Et_m := Lib.hid ht_m
  have Et_k := Lib.hid ht_k
  have Et_i := Lib.hid ht_i
  clear ht_n ht_m ht_k ht_i
  obtain ⟨n1, hn1⟩ : ∃ n, u.args.length = n := ⟨_, rfl⟩
  obtain ⟨n2, hn2⟩ : ∃ n, u.base = n := ⟨_, rfl⟩
  rw [hn1, hn2] at Hi ⊢
  rw [Et_n.out, Et_m.out, Et_k.out, Et_i.out] at Hi Hrt
  clear hn1 hn2 hc hm hx ht hu hz hfit hF
  go_enter Tryz.func39, Tryz.ntmps39
  go_wp2_with fail
  obtain ⟨w3, hw3⟩ : ∃ w3, ((w.alloc (.cells #[.int .i64 b, .slice ca C.length cc, .slice ma M.length mc] 36)).alloc (.cells #[.slice t_pa t_n t_pc, .int .i64 t_k, .int .i64 t_i, .slice t_qa t_m t_qc] 52)).alloc (.cells #[.slice ua n1 uc, .int .i64 n2] 77) = w3 := ⟨_, rfl⟩
  have B_w3 : Below w.heap.size w w3 := by rw [← hw3]; exact (((Below.refl _ _).alloc (Nat.le_refl _) _).alloc (by simp) _).alloc (by simp; omega) _
  have x0_w3 : Blk w3 w.heap.size #[.int .i64 b, .slice ca C.length cc, .slice ma M.length mc] 36 := by rw [← hw3]; exact ((Blk.new _ _ _ rfl).alloc _).alloc _
  have x1_w3 : Blk w3 (w.heap.size + 1) #[.slice t_pa t_n t_pc, .int .i64 t_k, .int .i64 t_i, .slice t_qa t_m t_qc] 52 := by rw [← hw3]; exact (Blk.new _ _ _ (by simp)).alloc _
  have x2_w3 : Blk w3 (w.heap.size + 1 + 1) #[.slice ua n1 uc, .int .i64 n2] 77 := by rw [← hw3]; exact Blk.new _ _ _ (by simp)
  rw [hw3]
  clear hw3
  refine (Hrt.out w3 B_w3).mono ?_
  intro e w4 h
  obtain ⟨r, Hr, rfl, hbx0⟩ := of_retB' h
  clear h
  have hbx : Below w3.heap.size w3 w4 := hbx0
  clear hbx0
  have x0_w4 := x0_w3.below hbx
  have x1_w4 := x1_w3.below hbx
  have x2_w4 := x2_w3.below hbx
  have B_w4 := B_w3.trans (hbx.mono B_w3.size)
  clear x0_w3 x1_w3 x2_w3 B_w3 hbx
  cases r
  · go_wp2_with fail
    go_ret
    exact ⟨_, .inl ⟨no_of Hr.out, rfl⟩, rfl, B_w4⟩
  have hy := Lib.hid (yes_of Hr.out)
  clear Hr
  have cx00 : w4.cell? ⟨w.heap.size, 0, none⟩ = some (.int .i64 b) := x0_w4.cell rfl
  have cx01 : w4.cell? ⟨w.heap.size, 1, none⟩ = some (.slice ca C.length cc) := x0_w4.cell rfl
  have cx02 : w4.cell? ⟨w.heap.size, 2, none⟩ = some (.slice ma M.length mc) := x0_w4.cell rfl
  have lx0 := x0_w4.lt
  have cx10 : w4.cell? ⟨w.heap.size + 1, 0, none⟩ = some (.slice t_pa t_n t_pc) := x1_w4.cell rfl
  have cx11 : w4.cell? ⟨w.heap.size + 1, 1, none⟩ = some (.int .i64 t_k) := x1_w4.cell rfl
  have cx12 : w4.cell? ⟨w.heap.size + 1, 2, none⟩ = some (.int .i64 t_i) := x1_w4.cell rfl
  have cx13 : w4.cell? ⟨w.heap.size + 1, 3, none⟩ = some (.slice t_qa t_m t_qc) := x1_w4.cell rfl
  have lx1 := x1_w4.lt
  have cx20 : w4.cell? ⟨w.heap.size + 1 + 1, 0, none⟩ = some (.slice ua n1 uc) := x2_w4.cell rfl
  have cx21 : w4.cell? ⟨w.heap.size + 1 + 1, 1, none⟩ = some (.int .i64 n2) := x2_w4.cell rfl
  have lx2 := x2_w4.lt
  go_wp2_with fail
  refine (Hi.out w4 B_w4).mono ?_
  intro e w5 h
  obtain ⟨r2, Hr2, rfl, hbx0⟩ := of_retB' h
  clear h
  have hbx : Below w4.heap.size w4 w5 := hbx0
  clear hbx0
  clear cx00 cx01 cx02 lx0 cx10 cx11 cx12 cx13 lx1 cx20 cx21 lx2
  have x0_w5 := x0_w4.below hbx
  have x1_w5 := x1_w4.below hbx
  have x2_w5 := x2_w4.below hbx
  have B_w5 := B_w4.trans (hbx.mono B_w4.size)
  clear x0_w4 x1_w4 x2_w4 B_w4 hbx
  cases r2
  · go_wp2_with fail
    go_ret
    exact ⟨_, .inr (.inl ⟨hy.out, no_of Hr2.out, rfl⟩), rfl, B_w5⟩
  · have hy2 := Lib.hid (yes_of Hr2.out)
    clear Hr2
    go_wp2_with fail
    go_ret
    exact ⟨_, .inr (.inr ⟨hy.out, hy2.out, rfl⟩), rfl, B_w5⟩
set_option maxRecDepth 100000 in
set_option maxHeartbeats 4000000 in
theorem Check_r {F : Nat → Prop} {b : Int} {C M : List Ty} (t : Tm) (w : World) (cv mv xv tb tk ti ta s ub : Value) (X : List Ty) (u : Ty) (hF : ∀ q, F q → q < w.heap.size) (hc : IsSl rpTy F w cv C) (hm : IsSl rpTy F w mv M) (hx : IsSl2 rpTy (fun _ => True) F w xv X) (ht : IsTm F w tb tk ti ta t) (hu : IsTy F w s ub u)
    (hz : X.length + t.full ≤ 90000) (hfit : t.Fit) :
    Calls Tryz.prog 59 #[.agg #[.int .i64 b, cv, mv], xv, .agg #[tb, tk, ti, ta], .agg #[s, ub]] w (RetCheck C M t X u w) := by
  have Hi := Lib.hid fun (w' : World) (hb : Below w.heap.size w w') => is_r (b := b) t w' cv mv xv tb tk ti ta s ub X u (fun q hq => Nat.lt_of_lt_of_le (hF q hq) hb.size) (hc.bel hb) (hm.bel hb) (hx.bel hb) (ht.bel hb) (hu.bel hb) hz hfit
  have Hrt := Lib.hid fun (w' : World) (hb : Below w.heap.size w w') => Right_r (ht.bel hb) (by have := Tm.size_le_full t; omega)
  obtain ⟨ca, cc, rfl⟩ := hc.shape
  obtain ⟨ma, mc, rfl⟩ := hm.shape
  obtain ⟨xa, xc, rfl⟩ := hx.shape
  obtain ⟨ua, uc, rfl, rfl⟩ := hu.shape
  obtain ⟨t_pa, t_pc, t_qa, t_qc, rfl, rfl, rfl, rfl⟩ := ht.shape
  obtain ⟨t_n, ht_n⟩ : ∃ x, t.binds.length = x := ⟨_, rfl⟩
  obtain ⟨t_m, ht_m⟩ : ∃ x, t.args.length = x := ⟨_, rfl⟩
  obtain ⟨t_k, ht_k⟩ : ∃ x, t.kind = x := ⟨_, rfl⟩
  obtain ⟨t_i, ht_i⟩ : ∃ x, t.index = x := ⟨_, rfl⟩
  rw [ht_n, ht_m, ht_k, ht_i] at ht ⊢
  have Et_n := Lib.hid ht_n
  have Et_m := Lib.hid ht_m
  have Et_k := Lib.hid ht_k
  have Et_i := Lib.hid ht_i
  clear ht_n ht_m ht_k ht_i
  obtain ⟨n1, hn1⟩ : ∃ n, u.args.length = n := ⟨_, rfl⟩
  obtain ⟨n2, hn2⟩ : ∃ n, u.base = n := ⟨_, rfl⟩
  rw [hn1, hn2] at Hi ⊢
  rw [Et_n.out, Et_m.out, Et_k.out, Et_i.out] at Hi Hrt
  clear hn1 hn2 hc hm hx ht hu hz hfit hF
  go_enter Tryz.func59, Tryz.ntmps59
  go_wp2_with fail
  obtain ⟨w3, hw3⟩ : ∃ w3, ((w.alloc (.cells #[.int .i64 b, .slice ca C.length cc, .slice ma M.length mc] 24)).alloc (.cells #[.slice t_pa t_n t_pc, .int .i64 t_k, .int .i64 t_i, .slice t_qa t_m t_qc] 47)).alloc (.cells #[.slice ua n1 uc, .int .i64 n2] 104) = w3 := ⟨_, rfl⟩
  have B_w3 : Below w.heap.size w w3 := by rw [← hw3]; exact (((Below.refl _ _).alloc (Nat.le_refl _) _).alloc (by simp) _).alloc (by simp; omega) _
  have x0_w3 : Blk w3 w.heap.size #[.int .i64 b, .slice ca C.length cc, .slice ma M.length mc] 24 := by rw [← hw3]; exact ((Blk.new _ _ _ rfl).alloc _).alloc _
  have x1_w3 : Blk w3 (w.heap.size + 1) #[.slice t_pa t_n t_pc, .int .i64 t_k, .int .i64 t_i, .slice t_qa t_m t_qc] 47 := by rw [← hw3]; exact (Blk.new _ _ _ (by simp)).alloc _
  have x2_w3 : Blk w3 (w.heap.size + 1 + 1) #[.slice ua n1 uc, .int .i64 n2] 104 := by rw [← hw3]; exact Blk.new _ _ _ (by simp)
  rw [hw3]
  clear hw3
  refine (Hrt.out w3 B_w3).mono ?_
  intro e w4 h
  obtain ⟨r, Hr, rfl, hbx0⟩ := of_retB' h
  clear h
  have hbx : Below w3.heap.size w3 w4 := hbx0
  clear hbx0
  have x0_w4 := x0_w3.below hbx
  have x1_w4 := x1_w3.below hbx
  have x2_w4 := x2_w3.below hbx
  have B_w4 := B_w3.trans (hbx.mono B_w3.size)
  clear x0_w3 x1_w3 x2_w3 B_w3 hbx
  cases r
  · go_wp2_with fail
    go_ret
    exact ⟨_, .inl ⟨no_of Hr.out, rfl⟩, rfl, B_w4⟩
  have hy := Lib.hid (yes_of Hr.out)
  clear Hr
  have cx00 : w4.cell? ⟨w.heap.size, 0, none⟩ = some (.int .i64 b) := x0_w4.cell rfl
  have cx01 : w4.cell? ⟨w.heap.size, 1, none⟩ = some (.slice ca C.length cc) := x0_w4.cell rfl
  have cx02 : w4.cell? ⟨w.heap.size, 2, none⟩ = some (.slice ma M.length mc) := x0_w4.cell rfl
  have lx0 := x0_w4.lt
  have cx10 : w4.cell? ⟨w.heap.size + 1, 0, none⟩ = some (.slice t_pa t_n t_pc) := x1_w4.cell rfl
  have cx11 : w4.cell? ⟨w.heap.size + 1, 1, none⟩ = some (.int .i64 t_k) := x1_w4.cell rfl
  have cx12 : w4.cell? ⟨w.heap.size + 1, 2, none⟩ = some (.int .i64 t_i) := x1_w4.cell rfl
  have cx13 : w4.cell? ⟨w.heap.size + 1, 3, none⟩ = some (.slice t_qa t_m t_qc) := x1_w4.cell rfl
  have lx1 := x1_w4.lt
  have cx20 : w4.cell? ⟨w.heap.size + 1 + 1, 0, none⟩ = some (.slice ua n1 uc) := x2_w4.cell rfl
  have cx21 : w4.cell? ⟨w.heap.size + 1 + 1, 1, none⟩ = some (.int .i64 n2) := x2_w4.cell rfl
  have lx2 := x2_w4.lt
  go_wp2_with fail
  refine (Hi.out w4 B_w4).mono ?_
  intro e w5 h
  obtain ⟨r2, Hr2, rfl, hbx0⟩ := of_retB' h
  clear h
  have hbx : Below w4.heap.size w4 w5 := hbx0
  clear hbx0
  clear cx00 cx01 cx02 lx0 cx10 cx11 cx12 cx13 lx1 cx20 cx21 lx2
  have x0_w5 := x0_w4.below hbx
  have x1_w5 := x1_w4.below hbx
  have x2_w5 := x2_w4.below hbx
  have B_w5 := B_w4.trans (hbx.mono B_w4.size)
  clear x0_w4 x1_w4 x2_w4 B_w4 hbx
  cases r2
  · go_wp2_with fail
    go_ret
    exact ⟨_, .inr (.inl ⟨hy.out, no_of Hr2.out, rfl⟩), rfl, B_w5⟩
  · have hy2 := Lib.hid (yes_of Hr2.out)
    clear Hr2
    go_wp2_with fail
    go_ret
    exact ⟨_, .inr (.inr ⟨hy.out, hy2.out, rfl⟩), rfl, B_w5⟩
end Go.Proofs.YtiblklcfjakjmaaGreat

namespace Go.Proofs.YtiblklcfjakjmaaGreat
open Go.RowKit

end Go.Proofs.YtiblklcfjakjmaaGreat

namespace Go.Proofs.YtiblklcfjakjmaaGreat
open Go.RowKit

end Go.Proofs.YtiblklcfjakjmaaGreat

namespace Go.Proofs.YtiblklcfjakjmaaGreat
open Go.RowKit

section
variable {w : World} {b : Int} {cv mv xv tb tk ti ta s ub : Value} {C M X : List Ty} {t : Tm} {u : Ty}
theorem IsSl.low {α : Type} {r : Rp α} {v : Value} {l : List α} (hn : 0 < r.n) (h : IsSl r (fun _ => True) w v l) : IsSl r (fun q => q < w.heap.size) w v l := h.weaken hn fun _ hq _ => hq
theorem TyPostE.true {F : Nat → Prop} {o : Option Ty} {e : Ending} {w' : World} (h : TyPostE F o w e w') : TyPostE (fun _ => True) o w e w' := by
  obtain ⟨s, b, h1, h2, h3⟩ := h
  exact ⟨s, b, h1, h2.trueb, h3⟩
theorem HeadPost.true {F : Nat → Prop} {o : Option Ty} {e : Ending} {w' : World} (h : HeadPost F o w e w') : HeadPost (fun _ => True) o w e w' := by
  obtain ⟨s, b, h1, h2, h3⟩ := h
  exact ⟨s, b, h1, h2.trueb, h3⟩
theorem Check_kT (hc : IsSl rpTy (fun _ => True) w cv C) (hm : IsSl rpTy (fun _ => True) w mv M) (hx : IsSl rpTy (fun _ => True) w xv X) (ht : IsTm (fun _ => True) w tb tk ti ta t) (hu : IsTy (fun _ => True) w s ub u) (hz : X.length + t.full ≤ 90000) (hfit : t.Fit) :
    Calls Tryz.prog 39 #[.agg #[.int .i64 b, cv, mv], xv, .agg #[tb, tk, ti, ta], .agg #[s, ub]] w (RetCheck C M t X u w) :=
  Check_k (F := fun q => q < w.heap.size) t w _ _ _ _ _ _ _ _ _ X u (fun _ h => h) (hc.low (by decide)) (hm.low (by decide)) ((IsSl2.of (hx.low (by decide))).anyRow (by decide)) (ht.weaken fun _ hq _ => hq) (hu.weaken fun _ hq _ => hq) hz hfit
theorem Check_rT (hc : IsSl rpTy (fun _ => True) w cv C) (hm : IsSl rpTy (fun _ => True) w mv M) (hx : IsSl rpTy (fun _ => True) w xv X) (ht : IsTm (fun _ => True) w tb tk ti ta t) (hu : IsTy (fun _ => True) w s ub u) (hz : X.length + t.full ≤ 90000) (hfit : t.Fit) :
    Calls Tryz.prog 59 #[.agg #[.int .i64 b, cv, mv], xv, .agg #[tb, tk, ti, ta], .agg #[s, ub]] w (RetCheck C M t X u w) :=
  Check_r (F := fun q => q < w.heap.size) t w _ _ _ _ _ _ _ _ _ X u (fun _ h => h) (hc.low (by decide)) (hm.low (by decide)) ((IsSl2.of (hx.low (by decide))).anyRow (by decide)) (ht.weaken fun _ hq _ => hq) (hu.weaken fun _ hq _ => hq) hz hfit
end
def TyRet (z : Ty) (c : Int) (w : World) (e : Ending) (w' : World) : Prop := ∃ s b, e = .returned (.tuple #[.agg #[s, b], .int .i64 c]) ∧ IsTy (fun _ => True) w' s b z ∧ Below w.heap.size w w'
def HdRet (z : Ty) (k : Bool) (w : World) (e : Ending) (w' : World) : Prop := ∃ s b, e = .returned (.tuple #[.agg #[s, b], .bool k]) ∧ IsTy (fun _ => True) w' s b z ∧ Below w.heap.size w w'
theorem TyPostE.to {o : Option Ty} {z : Ty} {k : Bool} {c : Int} {w : World} {e : Ending} {w' : World} (hk : o.isSome = k) (hz : o.getD tyZ = z) (hc : c = if k then 0 else 10) (h : TyPostE (fun _ => True) o w e w') : TyRet z c w e w' := by
  subst hk hz hc; exact h
theorem HeadPost.to {o : Option Ty} {z : Ty} {k : Bool} {w : World} {e : Ending} {w' : World} (hk : o.isSome = k) (hz : o.getD tyZ = z) (h : HeadPost (fun _ => True) o w e w') : HdRet z k w e w' := by
  subst hk hz; exact h
theorem headTy_mem {C M X : List Ty} {k i : Int} {t : Ty} (h : headTy C M X k i = some t) : t ∈ (C ++ M) ++ X := by
  unfold headTy at h
  simp only [List.mem_append]
  split at h
  · cases h
  split at h
  · exact .inr (by have := List.mem_of_getElem? h; simpa using this)
  split at h
  · exact .inl (.inl (List.mem_of_getElem? h))
  split at h
  · exact .inl (.inr (List.mem_of_getElem? h))
  · cases h
theorem sizes_le_of {l : List Ty} {n : Nat} (h : ∀ t ∈ l, t.size ≤ n) : Ty.sizes l ≤ l.length * n := by
  induction l with
  | nil => simp [Ty.sizes]
  | cons t l ih =>
    have h1 := h t (by simp)
    have h2 := ih fun u hu => h u (by simp [hu])
    simp only [Ty.sizes, List.length_cons, Nat.succ_mul]
    omega
end Go.Proofs.YtiblklcfjakjmaaGreat

namespace Go.Proofs.YtiblklcfjakjmaaGreat
open Go.RowKit

theorem isTrue {F : Nat → Prop} {w : World} {v : Value} {l : List Ty} (h : IsSl rpTy F w v l) : IsSl rpTy (fun _ => True) w v l := h.weaken (by decide) fun _ _ _ => trivial
theorem slTy {m : Mp} {Im : Nat → Nat → Prop} {w : World} {v : Value} {l : List Ty} (h : Rel m Im w v (.sl 2 (eTys l) none)) : IsSl rpTy (fun _ => True) w v l :=
  isTrue (sl_of_rel (r := rpTy) (e := eTy) eTy_len (fun x t hx _ => ty_of_rel t hx) (by decide) (by rw [eTys_map] at h; exact h))
theorem agWorld {m : Mp} {Im : Nat → Nat → Prop} {w : World} {x : Value} {b : Int} {C M : List Ty} (h : Rel m Im w x (.ag [.v (.int .i64 b), .sl 2 (eTys C) none, .sl 2 (eTys M) none])) : ∃ cv mv, x = .agg #[.int .i64 b, cv, mv] ∧ IsSl rpTy (fun _ => True) w cv C ∧ IsSl rpTy (fun _ => True) w mv M := by
  obtain ⟨cs, rfl, hr⟩ := rel_ag.1 h
  match cs, hr with
  | [x, y, z], hr =>
    have := rel_v.1 hr.1; subst this
    exact ⟨y, z, rfl, slTy hr.2.1, slTy hr.2.2.1⟩
theorem agTy {m : Mp} {Im : Nat → Nat → Prop} {w : World} {x : Value} {t : Ty} (h : Rel m Im w x (.ag (eTy t))) : ∃ s b, x = .agg #[s, b] ∧ IsTy (fun _ => True) w s b t := by
  obtain ⟨cs, rfl, hr⟩ := rel_ag.1 h
  obtain ⟨s, b, rfl, ht⟩ := ty_of_rel t hr
  exact ⟨s, b, rfl, ht.weaken fun _ _ _ => trivial⟩
theorem check_d (b : Int) (C M X : List Ty) (t : Tm) (u : Ty) (c : Int) (hc : checkCode C M t X u c) (hz : X.length + t.full ≤ 90000) (hfit : t.Fit) :
    PureC Tryz.prog 39 [.ag [.v (.int .i64 b), .sl 2 (eTys C) none, .sl 2 (eTys M) none], .sl 2 (eTys X) none, .ag (eTm t), .ag (eTy u)] (.v (.int .i64 c)) := by
  refine pure_below (by kernel_rfl) fun m Im w vs hv => ?_
  match vs, hv with
  | [x1, x2, x3, x4], hv =>
    obtain ⟨cv, mv, rfl, h1, h2⟩ := agWorld hv.1
    obtain ⟨b0, k, i, a, rfl, ht⟩ := agTm hv.2.2.1
    obtain ⟨s, ub, rfl, hu⟩ := agTy hv.2.2.2.1
    refine (Check_kT h1 h2 (slTy hv.2.1) (ht.weaken fun _ _ _ => trivial) hu hz hfit).mono ?_
    rintro e w' ⟨c', hc', rfl, hb⟩
    have := checkCode_uniq hc hc'.out; subst this
    exact ⟨_, rfl, hb, fun _ _ _ => .v _⟩
theorem rcheck_d (b : Int) (C M X : List Ty) (t : Tm) (u : Ty) (c : Int) (hc : checkCode C M t X u c) (hz : X.length + t.full ≤ 90000) (hfit : t.Fit) :
    PureC Tryz.prog 59 [.ag [.v (.int .i64 b), .sl 2 (eTys C) none, .sl 2 (eTys M) none], .sl 2 (eTys X) none, .ag (eTm t), .ag (eTy u)] (.v (.int .i64 c)) := by
  refine pure_below (by kernel_rfl) fun m Im w vs hv => ?_
  match vs, hv with
  | [x1, x2, x3, x4], hv =>
    obtain ⟨cv, mv, rfl, h1, h2⟩ := agWorld hv.1
    obtain ⟨b0, k, i, a, rfl, ht⟩ := agTm hv.2.2.1
    obtain ⟨s, ub, rfl, hu⟩ := agTy hv.2.2.2.1
    refine (Check_rT h1 h2 (slTy hv.2.1) (ht.weaken fun _ _ _ => trivial) hu hz hfit).mono ?_
    rintro e w' ⟨c', hc', rfl, hb⟩
    have := checkCode_uniq hc hc'.out; subst this
    exact ⟨_, rfl, hb, fun _ _ _ => .v _⟩
theorem head_d (b : Int) (C M : List Ty) (k i : Int) (hi : i ≤ 9223372036854775807) (o : Option Ty) (ho : headTy C M [] k i = o) (hsz : ∀ t, o = some t → t.size ≤ 90000) :
    PureC Tryz.prog 56 [.ag [.v (.int .i64 b), .sl 2 (eTys C) none, .sl 2 (eTys M) none], .v (.slice none 0 0), .ag [.v (.int .i64 k), .v (.int .i64 i)]] (.tu [.ag (eTy (o.getD tyZ)), .v (.int .i64 (if o.isSome then 0 else 10))]) := by
  subst ho
  refine pure_below (by kernel_rfl) fun m Im w vs hv => ?_
  match vs, hv with
  | [x1, x2, x3], hv =>
    obtain ⟨cv, mv, rfl, h1, h2⟩ := agWorld hv.1
    have := rel_v.1 hv.2.1; subst this
    obtain ⟨cs, rfl, hr⟩ := rel_ag.1 hv.2.2.1
    match cs, hr with
    | [y, z], hr =>
      have := rel_v.1 hr.1; subst this
      have := rel_v.1 hr.2.1; subst this
      refine (HeadType_k (F := fun q => q < w.heap.size) (fun _ h => h) (h1.low (by decide)) (h2.low (by decide)) ((IsSl2.of ((isSl_nil rpTy (fun _ => True) w).low (by decide))).anyRow (by decide)) k i hi hsz).mono ?_
      rintro e w' ⟨s, ub, rfl, h3, hb⟩
      exact ⟨_, rfl, hb, fun Im' _ hI => rel_tu.2 ⟨_, rfl, rel_ag.2 ⟨_, rfl, rel_of_ty (fun b o v hq hc => hI b o v hq hc) _ h3⟩, .v _, trivial⟩⟩
def TC9_3 : TI := ⟨1, false, [Value.int IntKind.i64 0], [], none, 8, 2, none⟩
theorem TC9_3_ok : TypOk Tryz.prog 3 TC9_3 := ⟨by kernel_rfl, by kernel_rfl, by kernel_rfl, by kernel_rfl⟩
def TC9_104 : TI := ⟨2, true, [Value.slice none 0 0, Value.int IntKind.i64 0], [(0, 1, false), (1, 1, false)], none, 32, 6, none⟩
theorem TC9_104_ok : TypOk Tryz.prog 104 TC9_104 := ⟨by kernel_rfl, by kernel_rfl, by kernel_rfl, by kernel_rfl⟩
def TC9_44 : TI := ⟨2, true, [Value.int IntKind.i64 0, Value.int IntKind.i64 0], [(0, 1, false), (1, 1, false)], none, 16, 6, none⟩
theorem TC9_44_ok : TypOk Tryz.prog 44 TC9_44 := ⟨by kernel_rfl, by kernel_rfl, by kernel_rfl, by kernel_rfl⟩
def TC9_22 : TI := ⟨1, false, [Value.slice none 0 0], [], some 104, 24, 5, none⟩
theorem TC9_22_ok : TypOk Tryz.prog 22 TC9_22 := ⟨by kernel_rfl, by kernel_rfl, by kernel_rfl, by kernel_rfl⟩
def TC9_24 : TI := ⟨3, true, [Value.int IntKind.i64 0, Value.slice none 0 0, Value.slice none 0 0], [(0, 1, false), (1, 1, false), (2, 1, false)], none, 56, 6, none⟩
theorem TC9_24_ok : TypOk Tryz.prog 24 TC9_24 := ⟨by kernel_rfl, by kernel_rfl, by kernel_rfl, by kernel_rfl⟩
def TC9_25 : TI := ⟨1, false, [Value.slice none 0 0], [], some 63, 24, 5, none⟩
theorem TC9_25_ok : TypOk Tryz.prog 25 TC9_25 := ⟨by kernel_rfl, by kernel_rfl, by kernel_rfl, by kernel_rfl⟩
def TC9_36 : TI := ⟨3, true, [Value.int IntKind.i64 0, Value.slice none 0 0, Value.slice none 0 0], [(0, 1, false), (1, 1, false), (2, 1, false)], none, 56, 6, none⟩
theorem TC9_36_ok : TypOk Tryz.prog 36 TC9_36 := ⟨by kernel_rfl, by kernel_rfl, by kernel_rfl, by kernel_rfl⟩
def TC9_99 : TI := ⟨5, true, [Value.int IntKind.i64 0, Value.slice none 0 0, Value.int IntKind.i64 0, Value.int IntKind.i64 0, Value.slice none 0 0], [(0, 1, false), (1, 4, true)], none, 72, 6, none⟩
theorem TC9_99_ok : TypOk Tryz.prog 99 TC9_99 := ⟨by kernel_rfl, by kernel_rfl, by kernel_rfl, by kernel_rfl⟩
def TC9_77 : TI := ⟨2, true, [Value.slice none 0 0, Value.int IntKind.i64 0], [(0, 1, false), (1, 1, false)], none, 32, 6, none⟩
theorem TC9_77_ok : TypOk Tryz.prog 77 TC9_77 := ⟨by kernel_rfl, by kernel_rfl, by kernel_rfl, by kernel_rfl⟩
def TC9_63 : TI := ⟨5, true, [Value.int IntKind.i64 0, Value.slice none 0 0, Value.int IntKind.i64 0, Value.int IntKind.i64 0, Value.slice none 0 0], [(0, 1, false), (1, 4, true)], none, 72, 6, none⟩
theorem TC9_63_ok : TypOk Tryz.prog 63 TC9_63 := ⟨by kernel_rfl, by kernel_rfl, by kernel_rfl, by kernel_rfl⟩
def TC9_30 : TI := ⟨1, false, [Value.slice none 0 0], [], some 99, 24, 5, none⟩
theorem TC9_30_ok : TypOk Tryz.prog 30 TC9_30 := ⟨by kernel_rfl, by kernel_rfl, by kernel_rfl, by kernel_rfl⟩
def TC9_49 : TI := ⟨2, true, [Value.int IntKind.i64 0, Value.int IntKind.i64 0], [(0, 1, false), (1, 1, false)], none, 16, 6, none⟩
theorem TC9_49_ok : TypOk Tryz.prog 49 TC9_49 := ⟨by kernel_rfl, by kernel_rfl, by kernel_rfl, by kernel_rfl⟩
def TC9_52 : TI := ⟨4, true, [Value.slice none 0 0, Value.int IntKind.i64 0, Value.int IntKind.i64 0, Value.slice none 0 0], [(0, 1, false), (1, 2, true), (3, 1, false)], none, 64, 6, none⟩
theorem TC9_52_ok : TypOk Tryz.prog 52 TC9_52 := ⟨by kernel_rfl, by kernel_rfl, by kernel_rfl, by kernel_rfl⟩
def TC9_32 : TI := ⟨1, false, [Value.int IntKind.i64 0], [], none, 8, 2, none⟩
theorem TC9_32_ok : TypOk Tryz.prog 32 TC9_32 := ⟨by kernel_rfl, by kernel_rfl, by kernel_rfl, by kernel_rfl⟩
def TC9_34 : TI := ⟨1, false, [Value.slice none 0 0], [], some 77, 24, 5, none⟩
theorem TC9_34_ok : TypOk Tryz.prog 34 TC9_34 := ⟨by kernel_rfl, by kernel_rfl, by kernel_rfl, by kernel_rfl⟩
def TC9_47 : TI := ⟨4, true, [Value.slice none 0 0, Value.int IntKind.i64 0, Value.int IntKind.i64 0, Value.slice none 0 0], [(0, 1, false), (1, 2, true), (3, 1, false)], none, 64, 6, none⟩
theorem TC9_47_ok : TypOk Tryz.prog 47 TC9_47 := ⟨by kernel_rfl, by kernel_rfl, by kernel_rfl, by kernel_rfl⟩
def TC9 : List (Nat × TI) := [(3, TC9_3), (104, TC9_104), (44, TC9_44), (22, TC9_22), (24, TC9_24), (25, TC9_25), (36, TC9_36), (99, TC9_99), (77, TC9_77), (63, TC9_63), (30, TC9_30), (49, TC9_49), (52, TC9_52), (32, TC9_32), (34, TC9_34), (47, TC9_47)]
theorem TC9_ok : TabOk Tryz.prog TC9 := (((((((((((((((((TabOk.nil _).cons TC9_47_ok).cons TC9_34_ok).cons TC9_32_ok).cons TC9_52_ok).cons TC9_49_ok).cons TC9_30_ok).cons TC9_63_ok).cons TC9_77_ok).cons TC9_99_ok).cons TC9_36_ok).cons TC9_25_ok).cons TC9_24_ok).cons TC9_22_ok).cons TC9_44_ok).cons TC9_104_ok).cons TC9_3_ok)
def chkL (code : Tm → Ty → Int) (M : List Ty) : List (Int × Tm) → Int
  | [] => 0
  | p :: l => match headTy [] M [] 2 p.1 with
    | none => 10
    | some u => if code p.2 u ≠ 0 then code p.2 u else chkL code M l
theorem tyZ_eq : eTy tyZ = [.sl 2 [] none, .v (.int .i64 0)] := rfl
set_option maxHeartbeats 1000000 in
theorem rhead_d (b : Int) (C M : List Ty) (i : Int) : PureC Tryz.prog 58 [.ag [.v (.int .i64 b), .sl 2 (eTys C) none, .sl 2 (eTys M) none], .v (.slice none 0 0), .ag [.v (.int .i64 2), .v (.int .i64 i)]] (.tu [.ag (eTy ((headTy C M [] 2 i).getD tyZ)), .v (.bool (headTy C M [] 2 i).isSome)]) := by
  refine call_of_dw 0 70 [ResultVar.cell 6 104, ResultVar.tmp 7] TC9_ok (by kernel_rfl) Tryz.func58 rfl Tryz.ntmps58 rfl (by simp) ?dwords ?dbody
  case dwords => simp [wordsOk, D.ok, D.oks, rnames, eTys_ok, eTy_ok]
  case dbody =>
    intro cx hnt hn0
    refine dw_seq ?_
    refine dw_k [] TC9_ok (by kernel_rfl) hnt (by kernel_rfl) (by simp only [List.size_toArray, List.length_cons, List.length_nil, Nat.reduceAdd]; rfl) ?_
    intro K hK
    refine hK _ _ ?_
    clear hK K
    refine dw_seq (dw_block (dw_seq ?_))
    by_cases hi : i < 0
    · rw [headTy_neg hi]
      refine dw_k [(11, .v (.bool true))] TC9_ok (by kernel_rfl) hnt (by kernel_rfl) (by simp only [List.size_toArray, List.length_cons, List.length_nil, Nat.reduceAdd]; rfl) ?_
      intro K hK
      refine And.intro (dtrue hi) ?_
      refine hK _ _ ?_
      clear hK K
      refine dw_cond (t := true) rfl ?_
      rw [if_pos rfl]
      refine dw_seq ?_
      refine dw_k [] TC9_ok (by kernel_rfl) hnt (by kernel_rfl) (by simp only [List.size_toArray, List.length_cons, List.length_nil, Nat.reduceAdd]; rfl) ?_
      intro K hK
      refine hK _ _ ?_
      clear hK K
      refine dw_ret ?_
      exact retv (N := 0) (.inr rfl) rfl (by repeat first | exact VLe.refl _ | exact VLe.nil _ | exact VLe.untag _ _ _ | refine VLe.ag ?_ | refine VLe.tu ?_ | refine VLeL.cons ?_ ?_ | exact VLeL.nil) trivial
    · obtain ⟨n, rfl⟩ := Int.eq_ofNat_of_zero_le (Int.not_lt.1 hi)
      rw [headTy_2]
      refine dw_k [(11, .v (.bool false))] TC9_ok (by kernel_rfl) hnt (by kernel_rfl) (by simp only [List.size_toArray, List.length_cons, List.length_nil, Nat.reduceAdd]; rfl) ?_
      intro K hK
      refine And.intro (dfalse hi) ?_
      refine hK _ _ ?_
      clear hK K
      refine dw_cond (t := false) rfl ?_
      rw [if_neg (by simp)]
      refine dw_seq ?_
      refine dw_k [(16, .v (.bool false))] TC9_ok (by kernel_rfl) hnt (by kernel_rfl) (by simp only [List.size_toArray, List.length_cons, List.length_nil, Nat.reduceAdd]; rfl) ?_
      intro K hK
      refine And.intro (VLe.refl _) ?_
      refine hK _ _ ?_
      clear hK K
      refine dw_cond (t := false) rfl ?_
      rw [if_neg (by simp)]
      refine dw_seq ?_
      refine dw_k [(36, .v (.bool false))] TC9_ok (by kernel_rfl) hnt (by kernel_rfl) (by simp only [List.size_toArray, List.length_cons, List.length_nil, Nat.reduceAdd]; rfl) ?_
      intro K hK
      refine And.intro (VLe.refl _) ?_
      refine hK _ _ ?_
      clear hK K
      refine dw_cond (t := false) rfl ?_
      rw [if_neg (by simp)]
      refine dw_seq ?_
      by_cases hl : n < M.length
      · rw [List.getElem?_eq_getElem hl]
        simp only [Option.getD_some, Option.isSome_some]
        refine dw_k [(54, .v (.bool true)), (61, .v (.bool true))] TC9_ok (by kernel_rfl) hnt (by kernel_rfl) (by simp only [List.size_toArray, List.length_cons, List.length_nil, Nat.reduceAdd]; rfl) ?_
        intro K hK
        refine And.intro (VLe.refl _) ?_
        refine And.intro (dtrue (by rw [eTys_len]; omega)) ?_
        refine hK _ _ ?_
        clear hK K
        refine dw_cond (t := true) rfl ?_
        rw [if_pos rfl]
        refine dw_seq ?_
        refine dw_k [(67, .q [.sl 2 (eTys M[n].args) none, .v (.int .i64 M[n].base)])] TC9_ok (by kernel_rfl) hnt (by kernel_rfl) (by simp only [List.size_toArray, List.length_cons, List.length_nil, Nat.reduceAdd]; rfl) ?_
        intro K hK
        refine And.intro (⟨by omega, by rw [eTys_len]; omega⟩) ?_
        refine And.intro (VLe.of_eq (by rw [Int.toNat_natCast, eTys_getD M n hl, eTy_eq])) ?_
        refine hK _ _ ?_
        clear hK K
        refine dw_ret ?_
        rw [eTy_eq]
        exact retv (N := 0) (.inr rfl) rfl (by repeat first | exact VLe.refl _ | exact VLe.nil _ | exact VLe.untag _ _ _ | refine VLe.ag ?_ | refine VLe.tu ?_ | refine VLeL.cons ?_ ?_ | exact VLeL.nil) trivial
      · rw [List.getElem?_eq_none (by omega)]
        refine dw_k [(54, .v (.bool true)), (61, .v (.bool false))] TC9_ok (by kernel_rfl) hnt (by kernel_rfl) (by simp only [List.size_toArray, List.length_cons, List.length_nil, Nat.reduceAdd]; rfl) ?_
        intro K hK
        refine And.intro (VLe.refl _) ?_
        refine And.intro (dfalse (by rw [eTys_len]; omega)) ?_
        refine hK _ _ ?_
        clear hK K
        refine dw_cond (t := false) rfl ?_
        rw [if_neg (by simp)]
        refine dw_skip ?_
        refine dw_seq ?_
        refine dw_k [] TC9_ok (by kernel_rfl) hnt (by kernel_rfl) (by simp only [List.size_toArray, List.length_cons, List.length_nil, Nat.reduceAdd]; rfl) ?_
        intro K hK
        refine hK _ _ ?_
        clear hK K
        refine dw_ret ?_
        exact retv (N := 0) (.inr rfl) rfl (by repeat first | exact VLe.refl _ | exact VLe.nil _ | exact VLe.untag _ _ _ | refine VLe.ag ?_ | refine VLe.tu ?_ | refine VLeL.cons ?_ ?_ | exact VLeL.nil) trivial
set_option maxHeartbeats 1000000 in
theorem scheck_d (b : Int) (C M X : List Ty) (l : List (Int × Tm)) (hl : l.length ≤ 100000) (code : Tm → Ty → Int) (hc : ∀ t u, checkCode C M t X u (code t u)) (hz : ∀ p ∈ l, X.length + p.2.full ≤ 90000 ∧ p.2.Fit ∧ p.1 ≤ 9223372036854775807) (hM : ∀ u ∈ M, u.size ≤ 90000) :
    PureC Tryz.prog 12 [.ag [.v (.int .i64 b), .sl 2 (eTys C) none, .sl 2 (eTys M) none], .sl 2 (eTys X) none, .sl 5 (ePairs l) none] (.v (.int .i64 (if Sb.right l = true then chkL code M l else 1))) := by
  have hR := sright_d l (by omega)
  refine call_of_dw 0 42 [ResultVar.tmp 6] TC9_ok (by kernel_rfl) Tryz.func12 rfl Tryz.ntmps12 rfl (by simp) ?dwords ?dbody
  case dwords => simp [wordsOk, D.ok, D.oks, rnames, eTys_ok, ePairs_ok]
  case dbody =>
    intro cx hnt hn0
    refine dw_seq ?_
    refine dw_k [] TC9_ok (by kernel_rfl) hnt (by kernel_rfl) (by simp only [List.size_toArray, List.length_cons, List.length_nil, Nat.reduceAdd]; rfl) ?_
    intro K hK
    refine hK _ _ ?_
    clear hK K
    refine dw_seq (dw_seq ?_)
    cases hr : Sb.right l with
    | false =>
      rw [hr] at hR
      refine dw_k [] TC9_ok (by kernel_rfl) hnt (by kernel_rfl) (by simp only [List.size_toArray, List.length_cons, List.length_nil, Nat.reduceAdd]; rfl) ?_
      intro K hK
      refine ⟨_, _, _, Or.inl (hR), by repeat first | exact trivial | refine And.intro ⟨rfl, rfl⟩ ?_, ?_⟩
      refine hK _ _ ?_
      clear hK K
      refine dw_cond (t := true) rfl ?_
      rw [if_pos rfl]
      refine dw_seq ?_
      refine dw_k [] TC9_ok (by kernel_rfl) hnt (by kernel_rfl) (by simp only [List.size_toArray, List.length_cons, List.length_nil, Nat.reduceAdd]; rfl) ?_
      intro K hK
      refine hK _ _ ?_
      clear hK K
      refine dw_ret ?_
      exact retv (N := 0) (.inr rfl) rfl (VLe.refl _) trivial
    | true =>
      rw [hr] at hR
      refine dw_k [] TC9_ok (by kernel_rfl) hnt (by kernel_rfl) (by simp only [List.size_toArray, List.length_cons, List.length_nil, Nat.reduceAdd]; rfl) ?_
      intro K hK
      refine ⟨_, _, _, Or.inl (hR), by repeat first | exact trivial | refine And.intro ⟨rfl, rfl⟩ ?_, ?_⟩
      refine hK _ _ ?_
      clear hK K
      refine dw_cond (t := false) rfl ?_
      rw [if_neg (by simp)]
      refine dw_skip ?_
      rw [if_pos rfl]
      refine dw_seq (dw_seq ?_)
      refine dw_k [(16, .v (.int .i64 l.length))] TC9_ok (by kernel_rfl) hnt (by kernel_rfl) (by simp only [List.size_toArray, List.length_cons, List.length_nil, Nat.reduceAdd]; rfl) ?_
      intro K hK
      refine And.intro (dintE (by rw [ePairs_len])) ?_
      refine hK _ _ ?_
      clear hK K
      refine dw_block ?_
      refine dw_loop (ι := { j : Nat // chkL code M (l.drop j) = chkL code M l ∧ j ≤ l.length }) (fun j => [(.t 1, .sl 2 (eTys X) none), (.t 3, .p 0 0), (.t 15, .sl 5 (ePairs l) none), (.t 16, .v (.int .i64 l.length)), (.t 17, .v (.int .i64 (j.1 : Int))), (.c 0 0, .v (.int .i64 b)), (.c 0 1, .sl 2 (eTys C) none), (.c 0 2, .sl 2 (eTys M) none)]) 1 (fun j => l.length - j.1) ⟨0, rfl, Nat.zero_le _⟩ (VS.toK (by first | omega | simp [hn0]) (by repeat first | exact trivial | refine And.intro (And.intro (by first | rfl | simp [D.ok, D.oks, D.okss, D.okm, eTm_ok, eTy_ok, eTys_ok, eTms_ok, upto, keyOk, ePairs_ok]) (by first | exact Or.inl rfl | exact Or.inr ⟨_, rfl, (by repeat first | exact VLe.refl _ | exact VLe.nil _ | exact VLe.untag _ _ _ | refine VLe.ag ?_ | refine VLe.tu ?_ | refine VLeL.cons ?_ ?_ | exact VLeL.nil), trivial⟩ | simp [get, Key.eq, ePairs_ok])) ?_)) fun j => ?_
      obtain ⟨j, hj, hj2⟩ := j
      dsimp only
      refine dw_seq ?_
      by_cases hlt : j < l.length
      · rw [List.drop_eq_getElem_cons hlt, chkL] at hj
        obtain ⟨hz1, hz2, hz3⟩ := hz _ (List.getElem_mem hlt)
        have hho : headTy C M [] 2 l[j].1 = headTy [] M [] 2 l[j].1 := by simp [headTy]
        have hhd := head_d b C M 2 l[j].1 hz3 _ hho (fun u hu => hM u (by
          rw [← hho] at hu
          have := headTy_mem hu
          unfold headTy at hu
          split at hu
          · cases hu
          · simp at hu; exact List.mem_of_getElem? hu))
        refine dw_k [(18, .v (.bool true))] TC9_ok (by kernel_rfl) hnt (by kernel_rfl) (by simp only [List.size_toArray, List.length_cons, List.length_nil, Nat.reduceAdd]; rfl) ?_
        intro K hK
        refine And.intro (dtrue (by omega)) ?_
        refine hK _ _ ?_
        clear hK K
        refine dw_seq (dw_cond (t := true) rfl ?_)
        rw [if_pos rfl]
        refine dw_skip (dw_seq (dw_block (dw_seq ?_)))
        refine dw_k [(19, .q [.v (.int .i64 l[j].1), .sl 2 (eTys l[j].2.binds) none, .v (.int .i64 l[j].2.kind), .v (.int .i64 l[j].2.index), .sl 4 (eTms l[j].2.args) none])] TC9_ok (by kernel_rfl) hnt (by kernel_rfl) (by simp only [List.size_toArray, List.length_cons, List.length_nil, Nat.reduceAdd]; rfl) ?_
        intro K hK
        refine And.intro (⟨by omega, by rw [ePairs_len]; omega⟩) ?_
        refine And.intro (VLe.of_eq (by rw [Int.toNat_natCast, ePairs_getD l j hlt, ePair_eq])) ?_
        refine hK _ _ ?_
        clear hK K
        refine dw_seq ?_
        cases ho : headTy [] M [] 2 l[j].1 with
        | none =>
          rw [ho] at hhd hj
          dsimp only at hj
          rw [← hj]
          simp only [Option.getD_none, tyZ_eq] at hhd
          refine dw_k [] TC9_ok (by kernel_rfl) hnt (by kernel_rfl) (by simp only [List.size_toArray, List.length_cons, List.length_nil, Nat.reduceAdd]; rfl) ?_
          intro K hK
          refine ⟨_, _, _, Or.inl (hhd), by repeat first | exact trivial | refine And.intro ⟨rfl, rfl⟩ ?_, ?_⟩
          refine hK _ _ ?_
          clear hK K
          refine dw_seq (dw_seq ?_)
          refine dw_k [] TC9_ok (by kernel_rfl) hnt (by kernel_rfl) (by simp only [List.size_toArray, List.length_cons, List.length_nil, Nat.reduceAdd]; rfl) ?_
          intro K hK
          refine hK _ _ ?_
          clear hK K
          refine dw_cond (t := true) rfl ?_
          rw [if_pos rfl]
          refine dw_seq ?_
          refine dw_k [] TC9_ok (by kernel_rfl) hnt (by kernel_rfl) (by simp only [List.size_toArray, List.length_cons, List.length_nil, Nat.reduceAdd]; rfl) ?_
          intro K hK
          refine hK _ _ ?_
          clear hK K
          refine dw_ret ?_
          exact retv (N := 0) (.inr rfl) rfl (VLe.refl _) trivial
        | some u =>
          rw [ho] at hhd hj
          dsimp only at hj
          have hck := check_d b C M X l[j].2 u (code l[j].2 u) (hc _ _) hz1 hz2
          simp only [Option.getD_some] at hhd
          rw [eTy_eq] at hhd
          rw [eTm_eq, eTy_eq] at hck
          refine dw_k [] TC9_ok (by kernel_rfl) hnt (by kernel_rfl) (by simp only [List.size_toArray, List.length_cons, List.length_nil, Nat.reduceAdd]; rfl) ?_
          intro K hK
          refine ⟨_, _, _, Or.inl (hhd), by repeat first | exact trivial | refine And.intro ⟨rfl, rfl⟩ ?_, ?_⟩
          refine hK _ _ ?_
          clear hK K
          refine dw_seq (dw_seq ?_)
          refine dw_k [] TC9_ok (by kernel_rfl) hnt (by kernel_rfl) (by simp only [List.size_toArray, List.length_cons, List.length_nil, Nat.reduceAdd]; rfl) ?_
          intro K hK
          refine hK _ _ ?_
          clear hK K
          refine dw_cond (t := false) rfl ?_
          rw [if_neg (by simp)]
          refine dw_skip ?_
          refine dw_seq ?_
          refine dw_k [] TC9_ok (by kernel_rfl) hnt (by kernel_rfl) (by simp only [List.size_toArray, List.length_cons, List.length_nil, Nat.reduceAdd]; rfl) ?_
          intro K hK
          refine ⟨_, _, _, Or.inl (hck), by repeat first | exact trivial | refine And.intro ⟨rfl, rfl⟩ ?_, ?_⟩
          refine hK _ _ ?_
          clear hK K
          refine dw_seq ?_
          by_cases he : code l[j].2 u = 0
          · rw [if_neg (by simp [he])] at hj
            refine dw_k [(39, .v (.bool false))] TC9_ok (by kernel_rfl) hnt (by kernel_rfl) (by simp only [List.size_toArray, List.length_cons, List.length_nil, Nat.reduceAdd]; rfl) ?_
            intro K hK
            refine And.intro (VLe.of_eq (by simp [he])) ?_
            refine hK _ _ ?_
            clear hK K
            refine dw_cond (t := false) rfl ?_
            rw [if_neg (by simp)]
            refine dw_skip ?_
            refine dw_k [(41, .v (.int .i64 ((j + 1 : Nat) : Int)))] TC9_ok (by kernel_rfl) hnt (by kernel_rfl) (by simp only [List.size_toArray, List.length_cons, List.length_nil, Nat.reduceAdd]; rfl) ?_
            intro K hK
            refine And.intro (dintE (by rw [IntWalk.i64_in _ (by omega)]; omega)) ?_
            refine hK _ _ ?_
            clear hK K
            exact ⟨⟨j + 1, hj, hlt⟩, by dsimp only; omega, (VS.toK (by first | omega | simp [hn0]) (by repeat first | exact trivial | refine And.intro (And.intro (by first | rfl | simp [D.ok, D.oks, D.okss, D.okm, eTm_ok, eTy_ok, eTys_ok, eTms_ok, upto, keyOk, ePairs_ok]) (by first | exact Or.inl rfl | exact Or.inr ⟨_, rfl, (by repeat first | exact VLe.refl _ | exact VLe.nil _ | exact VLe.untag _ _ _ | refine VLe.ag ?_ | refine VLe.tu ?_ | refine VLeL.cons ?_ ?_ | exact VLeL.nil), trivial⟩ | simp [get, Key.eq, ePairs_ok])) ?_))⟩
          · rw [if_pos he] at hj
            rw [← hj]
            refine dw_k [(39, .v (.bool true))] TC9_ok (by kernel_rfl) hnt (by kernel_rfl) (by simp only [List.size_toArray, List.length_cons, List.length_nil, Nat.reduceAdd]; rfl) ?_
            intro K hK
            refine And.intro (VLe.of_eq (by simp [he])) ?_
            refine hK _ _ ?_
            clear hK K
            refine dw_cond (t := true) rfl ?_
            rw [if_pos rfl]
            refine dw_seq ?_
            refine dw_k [] TC9_ok (by kernel_rfl) hnt (by kernel_rfl) (by simp only [List.size_toArray, List.length_cons, List.length_nil, Nat.reduceAdd]; rfl) ?_
            intro K hK
            refine hK _ _ ?_
            clear hK K
            refine dw_ret ?_
            exact retv (N := 0) (.inr rfl) rfl (VLe.refl _) trivial
      · rw [List.drop_eq_nil_of_le (by omega), chkL] at hj
        rw [← hj]
        refine dw_k [(18, .v (.bool false))] TC9_ok (by kernel_rfl) hnt (by kernel_rfl) (by simp only [List.size_toArray, List.length_cons, List.length_nil, Nat.reduceAdd]; rfl) ?_
        intro K hK
        refine And.intro (dfalse (by omega)) ?_
        refine hK _ _ ?_
        clear hK K
        refine dw_seq (dw_cond (t := false) rfl ?_)
        rw [if_neg (by simp)]
        refine dw_exit ?_
        refine dw_seq ?_
        refine dw_k [] TC9_ok (by kernel_rfl) hnt (by kernel_rfl) (by simp only [List.size_toArray, List.length_cons, List.length_nil, Nat.reduceAdd]; rfl) ?_
        intro K hK
        refine hK _ _ ?_
        clear hK K
        refine dw_ret ?_
        exact retv (N := 0) (.inr rfl) rfl (VLe.refl _) trivial
set_option maxHeartbeats 1000000 in
theorem rright_d (l : List (Int × Tm)) (hl : l.length ≤ 1000000) : PureC Tryz.prog 22 [.sl 5 (ePairs l) none] (.v (.bool (Sb.right l))) := by
  refine call_of_dw 0 22 [ResultVar.tmp 2] TC9_ok (by kernel_rfl) Tryz.func22 rfl Tryz.ntmps22 rfl (by simp) ?dwords ?dbody
  case dwords => simp [wordsOk, D.ok, D.oks, rnames, ePairs_ok]
  case dbody =>
    intro cx hnt hn0
    refine dw_seq ?_
    refine dw_k [] TC9_ok (by kernel_rfl) hnt (by kernel_rfl) (by simp only [List.size_toArray, List.length_cons, List.length_nil, Nat.reduceAdd]; rfl) ?_
    intro K hK
    refine hK _ _ ?_
    clear hK K
    refine dw_seq (dw_seq ?_)
    refine dw_k [] TC9_ok (by kernel_rfl) hnt (by kernel_rfl) (by simp only [List.size_toArray, List.length_cons, List.length_nil, Nat.reduceAdd]; rfl) ?_
    intro K hK
    refine hK _ _ ?_
    clear hK K
    refine dw_block ?_
    refine dw_loop (ι := { j : Nat // ∀ i (_ : 0 < i) (h2 : i < l.length), i < j + 1 → (l[i - 1]'(by omega)).1 < l[i].1 }) (fun j => [(.t 0, .sl 5 (ePairs l) none), (.t 3, .v (.int .i64 ((j.1 : Int) + 1)))]) 2 (fun j => l.length - j.1) ⟨0, fun i h1 h2 h3 => by omega⟩ (VS.toK (by first | omega | simp [hn0]) (by repeat first | exact trivial | refine And.intro (And.intro (by first | rfl | simp [D.ok, D.oks, D.okss, D.okm, eTm_ok, eTy_ok, eTys_ok, eTms_ok, upto, keyOk, ePairs_ok]) (by first | exact Or.inl rfl | exact Or.inr ⟨_, rfl, (by repeat first | exact VLe.refl _ | exact VLe.nil _ | exact VLe.untag _ _ _ | refine VLe.ag ?_ | refine VLe.tu ?_ | refine VLeL.cons ?_ ?_ | exact VLeL.nil), trivial⟩ | simp [get, Key.eq, ePairs_ok])) ?_)) fun j => ?_
    obtain ⟨j, hj⟩ := j
    dsimp only
    refine dw_seq (dw_seq ?_)
    by_cases hlt : j + 1 < l.length
    · skip
      refine dw_k [(7, .v (.bool true))] TC9_ok (by kernel_rfl) hnt (by kernel_rfl) (by simp only [List.size_toArray, List.length_cons, List.length_nil, Nat.reduceAdd]; rfl) ?_
      intro K hK
      refine And.intro (dtrue (by rw [ePairs_len]; omega)) ?_
      refine hK _ _ ?_
      clear hK K
      refine dw_cond (t := true) rfl ?_
      rw [if_pos rfl]
      refine dw_skip ?_
      refine dw_seq (dw_block (dw_seq ?_))
      by_cases hc : l[j].1 < l[j + 1].1
      · skip
        refine dw_kD [(12, .v (.int .i64 (j : Int))), (13, .q [.v (.int .i64 l[j].1), .sl 2 (eTys l[j].2.binds) none, .v (.int .i64 l[j].2.kind), .v (.int .i64 l[j].2.index), .sl 4 (eTms l[j].2.args) none]), (18, .q [.v (.int .i64 l[j + 1].1), .sl 2 (eTys l[j + 1].2.binds) none, .v (.int .i64 l[j + 1].2.kind), .v (.int .i64 l[j + 1].2.index), .sl 4 (eTms l[j + 1].2.args) none]), (21, .v (.bool false))] TC9_ok (by kernel_rfl) hnt (by kernel_rfl) (by simp only [List.size_toArray, List.length_cons, List.length_nil, Nat.reduceAdd]; rfl) ?_
        intro K hK
        refine And.intro (dintE (by rw [IntWalk.i64_in _ (by omega)]; omega)) ?_
        refine And.intro (⟨by omega, by rw [ePairs_len]; omega⟩) ?_
        refine And.intro (VLe.of_eq (by rw [Int.toNat_natCast, ePairs_getD l j (by omega), ePair_eq])) ?_
        refine And.intro (⟨by omega, by rw [ePairs_len]; omega⟩) ?_
        refine And.intro (VLe.of_eq (by rw [show ((j : Int) + 1).toNat = j + 1 by omega, ePairs_getD l (j + 1) hlt, ePair_eq])) ?_
        refine And.intro (dfalse (by omega)) ?_
        refine hK _ _ (by kernel_rfl) ?_
        clear hK K
        refine dw_cond (t := false) rfl ?_
        rw [if_neg (by simp)]
        refine dw_skip ?_
        refine dw_k [(9, .v (.int .i64 (((j + 1 : Nat) : Int) + 1)))] TC9_ok (by kernel_rfl) hnt (by kernel_rfl) (by simp only [List.size_toArray, List.length_cons, List.length_nil, Nat.reduceAdd]; rfl) ?_
        intro K hK
        refine And.intro (dintE (by rw [IntWalk.i64_in _ (by omega)]; omega)) ?_
        refine hK _ _ ?_
        clear hK K
        refine ⟨⟨j + 1, fun i h1 h2 h3 => ?_⟩, by dsimp only; omega, (VS.toK (by first | omega | simp [hn0]) (by repeat first | exact trivial | refine And.intro (And.intro (by first | rfl | simp [D.ok, D.oks, D.okss, D.okm, eTm_ok, eTy_ok, eTys_ok, eTms_ok, upto, keyOk, ePairs_ok]) (by first | exact Or.inl rfl | exact Or.inr ⟨_, rfl, (by repeat first | exact VLe.refl _ | exact VLe.nil _ | exact VLe.untag _ _ _ | refine VLe.ag ?_ | refine VLe.tu ?_ | refine VLeL.cons ?_ ?_ | exact VLeL.nil), trivial⟩ | simp [get, Key.eq, ePairs_ok])) ?_))⟩
        by_cases he : i = j + 1
        · subst he; simpa using hc
        · exact hj i h1 h2 (by omega)
      · have hr : Sb.right l = false := not_right (i := j + 1) (by omega) hlt (by simpa using hc)
        rw [hr]
        refine dw_kD [(12, .v (.int .i64 (j : Int))), (13, .q [.v (.int .i64 l[j].1), .sl 2 (eTys l[j].2.binds) none, .v (.int .i64 l[j].2.kind), .v (.int .i64 l[j].2.index), .sl 4 (eTms l[j].2.args) none]), (18, .q [.v (.int .i64 l[j + 1].1), .sl 2 (eTys l[j + 1].2.binds) none, .v (.int .i64 l[j + 1].2.kind), .v (.int .i64 l[j + 1].2.index), .sl 4 (eTms l[j + 1].2.args) none]), (21, .v (.bool true))] TC9_ok (by kernel_rfl) hnt (by kernel_rfl) (by simp only [List.size_toArray, List.length_cons, List.length_nil, Nat.reduceAdd]; rfl) ?_
        intro K hK
        refine And.intro (dintE (by rw [IntWalk.i64_in _ (by omega)]; omega)) ?_
        refine And.intro (⟨by omega, by rw [ePairs_len]; omega⟩) ?_
        refine And.intro (VLe.of_eq (by rw [Int.toNat_natCast, ePairs_getD l j (by omega), ePair_eq])) ?_
        refine And.intro (⟨by omega, by rw [ePairs_len]; omega⟩) ?_
        refine And.intro (VLe.of_eq (by rw [show ((j : Int) + 1).toNat = j + 1 by omega, ePairs_getD l (j + 1) hlt, ePair_eq])) ?_
        refine And.intro (dtrue (by omega)) ?_
        refine hK _ _ (by kernel_rfl) ?_
        clear hK K
        refine dw_cond (t := true) rfl ?_
        rw [if_pos rfl]
        refine dw_seq ?_
        refine dw_k [] TC9_ok (by kernel_rfl) hnt (by kernel_rfl) (by simp only [List.size_toArray, List.length_cons, List.length_nil, Nat.reduceAdd]; rfl) ?_
        intro K hK
        refine hK _ _ ?_
        clear hK K
        refine dw_ret ?_
        exact retv (N := 0) (.inr rfl) rfl (VLe.refl _) trivial
    · have hr : Sb.right l = true := right_of fun i h1 h2 => hj i h1 h2 (by omega)
      rw [hr]
      refine dw_k [(7, .v (.bool false))] TC9_ok (by kernel_rfl) hnt (by kernel_rfl) (by simp only [List.size_toArray, List.length_cons, List.length_nil, Nat.reduceAdd]; rfl) ?_
      intro K hK
      refine And.intro (dfalse (by rw [ePairs_len]; omega)) ?_
      refine hK _ _ ?_
      clear hK K
      refine dw_cond (t := false) rfl ?_
      rw [if_neg (by simp)]
      refine dw_exit ?_
      refine dw_seq ?_
      refine dw_k [] TC9_ok (by kernel_rfl) hnt (by kernel_rfl) (by simp only [List.size_toArray, List.length_cons, List.length_nil, Nat.reduceAdd]; rfl) ?_
      intro K hK
      refine hK _ _ ?_
      clear hK K
      refine dw_ret ?_
      exact retv (N := 0) (.inr rfl) rfl (VLe.refl _) trivial
set_option maxHeartbeats 1000000 in
theorem rscheck_d (b : Int) (C M X : List Ty) (l : List (Int × Tm)) (hl : l.length ≤ 100000) (code : Tm → Ty → Int) (hc : ∀ t u, checkCode C M t X u (code t u)) (hz : ∀ p ∈ l, X.length + p.2.full ≤ 90000 ∧ p.2.Fit) :
    PureC Tryz.prog 15 [.ag [.v (.int .i64 b), .sl 2 (eTys C) none, .sl 2 (eTys M) none], .sl 2 (eTys X) none, .sl 5 (ePairs l) none] (.v (.int .i64 (if Sb.right l = true then chkL code M l else 1))) := by
  have hR := rright_d l (by omega)
  refine call_of_dw 0 45 [ResultVar.tmp 6] TC9_ok (by kernel_rfl) Tryz.func15 rfl Tryz.ntmps15 rfl (by simp) ?dwords ?dbody
  case dwords => simp [wordsOk, D.ok, D.oks, rnames, eTys_ok, ePairs_ok]
  case dbody =>
    intro cx hnt hn0
    refine dw_seq ?_
    refine dw_k [] TC9_ok (by kernel_rfl) hnt (by kernel_rfl) (by simp only [List.size_toArray, List.length_cons, List.length_nil, Nat.reduceAdd]; rfl) ?_
    intro K hK
    refine hK _ _ ?_
    clear hK K
    refine dw_seq (dw_seq ?_)
    cases hr : Sb.right l with
    | false =>
      rw [hr] at hR
      refine dw_k [] TC9_ok (by kernel_rfl) hnt (by kernel_rfl) (by simp only [List.size_toArray, List.length_cons, List.length_nil, Nat.reduceAdd]; rfl) ?_
      intro K hK
      refine ⟨_, _, _, Or.inl (hR), by repeat first | exact trivial | refine And.intro ⟨rfl, rfl⟩ ?_, ?_⟩
      refine hK _ _ ?_
      clear hK K
      refine dw_cond (t := true) rfl ?_
      rw [if_pos rfl]
      refine dw_seq ?_
      refine dw_k [] TC9_ok (by kernel_rfl) hnt (by kernel_rfl) (by simp only [List.size_toArray, List.length_cons, List.length_nil, Nat.reduceAdd]; rfl) ?_
      intro K hK
      refine hK _ _ ?_
      clear hK K
      refine dw_ret ?_
      exact retv (N := 0) (.inr rfl) rfl (VLe.refl _) trivial
    | true =>
      rw [hr] at hR
      refine dw_k [] TC9_ok (by kernel_rfl) hnt (by kernel_rfl) (by simp only [List.size_toArray, List.length_cons, List.length_nil, Nat.reduceAdd]; rfl) ?_
      intro K hK
      refine ⟨_, _, _, Or.inl (hR), by repeat first | exact trivial | refine And.intro ⟨rfl, rfl⟩ ?_, ?_⟩
      refine hK _ _ ?_
      clear hK K
      refine dw_cond (t := false) rfl ?_
      rw [if_neg (by simp)]
      refine dw_skip ?_
      rw [if_pos rfl]
      refine dw_seq (dw_seq ?_)
      refine dw_k [] TC9_ok (by kernel_rfl) hnt (by kernel_rfl) (by simp only [List.size_toArray, List.length_cons, List.length_nil, Nat.reduceAdd]; rfl) ?_
      intro K hK
      refine hK _ _ ?_
      clear hK K
      refine dw_block ?_
      refine dw_loop (ι := { j : Nat // chkL code M (l.drop j) = chkL code M l ∧ j ≤ l.length }) (fun j => [(.t 1, .sl 2 (eTys X) none), (.t 3, .p 0 0), (.t 2, .sl 5 (ePairs l) none), (.t 7, .v (.int .i64 (j.1 : Int))), (.c 0 0, .v (.int .i64 b)), (.c 0 1, .sl 2 (eTys C) none), (.c 0 2, .sl 2 (eTys M) none)]) 1 (fun j => l.length - j.1) ⟨0, rfl, Nat.zero_le _⟩ (VS.toK (by first | omega | simp [hn0]) (by repeat first | exact trivial | refine And.intro (And.intro (by first | rfl | simp [D.ok, D.oks, D.okss, D.okm, eTm_ok, eTy_ok, eTys_ok, eTms_ok, upto, keyOk, ePairs_ok]) (by first | exact Or.inl rfl | exact Or.inr ⟨_, rfl, (by repeat first | exact VLe.refl _ | exact VLe.nil _ | exact VLe.untag _ _ _ | refine VLe.ag ?_ | refine VLe.tu ?_ | refine VLeL.cons ?_ ?_ | exact VLeL.nil), trivial⟩ | simp [get, Key.eq, ePairs_ok])) ?_)) fun j => ?_
      obtain ⟨j, hj, hj2⟩ := j
      dsimp only
      refine dw_seq (dw_seq ?_)
      by_cases hlt : j < l.length
      · rw [List.drop_eq_getElem_cons hlt, chkL] at hj
        obtain ⟨hz1, hz2⟩ := hz _ (List.getElem_mem hlt)
        have hho : headTy C M [] 2 l[j].1 = headTy [] M [] 2 l[j].1 := by simp [headTy]
        have hhd := rhead_d b C M l[j].1
        rw [hho] at hhd
        have hb : (0 : Int) ≤ (j : Int) ∧ (j : Int) < ((ePairs l).length : Int) := ⟨by omega, by rw [ePairs_len]; omega⟩
        have hq : (ePairs l).getD (j : Int).toNat [] = [.v (.int .i64 l[j].1), .sl 2 (eTys l[j].2.binds) none, .v (.int .i64 l[j].2.kind), .v (.int .i64 l[j].2.index), .sl 4 (eTms l[j].2.args) none] := by rw [Int.toNat_natCast, ePairs_getD l j hlt, ePair_eq]
        refine dw_k [(17, .v (.bool true))] TC9_ok (by kernel_rfl) hnt (by kernel_rfl) (by simp only [List.size_toArray, List.length_cons, List.length_nil, Nat.reduceAdd]; rfl) ?_
        intro K hK
        refine And.intro (dtrue (by rw [ePairs_len]; omega)) ?_
        refine hK _ _ ?_
        clear hK K
        refine dw_cond (t := true) rfl ?_
        rw [if_pos rfl]
        refine dw_skip (dw_seq (dw_block (dw_seq ?_)))
        cases ho : headTy [] M [] 2 l[j].1 with
        | none =>
          rw [ho] at hhd hj
          dsimp only at hj
          rw [← hj]
          simp only [Option.getD_none, tyZ_eq, Option.isSome_none] at hhd
          refine dw_kD [(24, .q [.v (.int .i64 l[j].1), .sl 2 (eTys l[j].2.binds) none, .v (.int .i64 l[j].2.kind), .v (.int .i64 l[j].2.index), .sl 4 (eTms l[j].2.args) none])] TC9_ok (by kernel_rfl) hnt (by kernel_rfl) (by simp only [List.size_toArray, List.length_cons, List.length_nil, Nat.reduceAdd]; rfl) ?_
          intro K hK
          refine And.intro (hb) ?_
          refine And.intro (VLe.of_eq (by rw [hq])) ?_
          refine ⟨_, _, _, Or.inl (hhd), by repeat first | exact trivial | refine And.intro ⟨rfl, rfl⟩ ?_, ?_⟩
          refine hK _ _ (by kernel_rfl) ?_
          clear hK K
          refine dw_seq (dw_seq ?_)
          refine dw_k [] TC9_ok (by kernel_rfl) hnt (by kernel_rfl) (by simp only [List.size_toArray, List.length_cons, List.length_nil, Nat.reduceAdd]; rfl) ?_
          intro K hK
          refine hK _ _ ?_
          clear hK K
          refine dw_cond (t := true) rfl ?_
          rw [if_pos rfl]
          refine dw_seq ?_
          refine dw_k [] TC9_ok (by kernel_rfl) hnt (by kernel_rfl) (by simp only [List.size_toArray, List.length_cons, List.length_nil, Nat.reduceAdd]; rfl) ?_
          intro K hK
          refine hK _ _ ?_
          clear hK K
          refine dw_ret ?_
          exact retv (N := 0) (.inr rfl) rfl (VLe.refl _) trivial
        | some u =>
          rw [ho] at hhd hj
          dsimp only at hj
          have hck := rcheck_d b C M X l[j].2 u (code l[j].2 u) (hc _ _) hz1 hz2
          simp only [Option.getD_some, Option.isSome_some] at hhd
          rw [eTy_eq] at hhd
          rw [eTm_eq, eTy_eq] at hck
          refine dw_kD [(24, .q [.v (.int .i64 l[j].1), .sl 2 (eTys l[j].2.binds) none, .v (.int .i64 l[j].2.kind), .v (.int .i64 l[j].2.index), .sl 4 (eTms l[j].2.args) none])] TC9_ok (by kernel_rfl) hnt (by kernel_rfl) (by simp only [List.size_toArray, List.length_cons, List.length_nil, Nat.reduceAdd]; rfl) ?_
          intro K hK
          refine And.intro (hb) ?_
          refine And.intro (VLe.of_eq (by rw [hq])) ?_
          refine ⟨_, _, _, Or.inl (hhd), by repeat first | exact trivial | refine And.intro ⟨rfl, rfl⟩ ?_, ?_⟩
          refine hK _ _ (by kernel_rfl) ?_
          clear hK K
          refine dw_seq (dw_seq ?_)
          refine dw_k [] TC9_ok (by kernel_rfl) hnt (by kernel_rfl) (by simp only [List.size_toArray, List.length_cons, List.length_nil, Nat.reduceAdd]; rfl) ?_
          intro K hK
          refine hK _ _ ?_
          clear hK K
          refine dw_cond (t := false) rfl ?_
          rw [if_neg (by simp)]
          refine dw_skip ?_
          refine dw_seq ?_
          refine dw_kD [(37, .q [.v (.int .i64 l[j].1), .sl 2 (eTys l[j].2.binds) none, .v (.int .i64 l[j].2.kind), .v (.int .i64 l[j].2.index), .sl 4 (eTms l[j].2.args) none])] TC9_ok (by kernel_rfl) hnt (by kernel_rfl) (by simp only [List.size_toArray, List.length_cons, List.length_nil, Nat.reduceAdd]; rfl) ?_
          intro K hK
          refine And.intro (hb) ?_
          refine And.intro (VLe.of_eq (by rw [hq])) ?_
          refine ⟨_, _, _, Or.inl (hck), by repeat first | exact trivial | refine And.intro ⟨rfl, rfl⟩ ?_, ?_⟩
          refine hK _ _ (by kernel_rfl) ?_
          clear hK K
          refine dw_seq ?_
          by_cases he : code l[j].2 u = 0
          · rw [if_neg (by simp [he])] at hj
            refine dw_k [(43, .v (.bool false))] TC9_ok (by kernel_rfl) hnt (by kernel_rfl) (by simp only [List.size_toArray, List.length_cons, List.length_nil, Nat.reduceAdd]; rfl) ?_
            intro K hK
            refine And.intro (VLe.of_eq (by simp [he])) ?_
            refine hK _ _ ?_
            clear hK K
            refine dw_cond (t := false) rfl ?_
            rw [if_neg (by simp)]
            refine dw_skip ?_
            refine dw_k [(19, .v (.int .i64 ((j + 1 : Nat) : Int)))] TC9_ok (by kernel_rfl) hnt (by kernel_rfl) (by simp only [List.size_toArray, List.length_cons, List.length_nil, Nat.reduceAdd]; rfl) ?_
            intro K hK
            refine And.intro (dintE (by rw [IntWalk.i64_in _ (by omega)]; omega)) ?_
            refine hK _ _ ?_
            clear hK K
            exact ⟨⟨j + 1, hj, hlt⟩, by dsimp only; omega, (VS.toK (by first | omega | simp [hn0]) (by repeat first | exact trivial | refine And.intro (And.intro (by first | rfl | simp [D.ok, D.oks, D.okss, D.okm, eTm_ok, eTy_ok, eTys_ok, eTms_ok, upto, keyOk, ePairs_ok]) (by first | exact Or.inl rfl | exact Or.inr ⟨_, rfl, (by repeat first | exact VLe.refl _ | exact VLe.nil _ | exact VLe.untag _ _ _ | refine VLe.ag ?_ | refine VLe.tu ?_ | refine VLeL.cons ?_ ?_ | exact VLeL.nil), trivial⟩ | simp [get, Key.eq, ePairs_ok])) ?_))⟩
          · rw [if_pos he] at hj
            rw [← hj]
            refine dw_k [(43, .v (.bool true))] TC9_ok (by kernel_rfl) hnt (by kernel_rfl) (by simp only [List.size_toArray, List.length_cons, List.length_nil, Nat.reduceAdd]; rfl) ?_
            intro K hK
            refine And.intro (VLe.of_eq (by simp [he])) ?_
            refine hK _ _ ?_
            clear hK K
            refine dw_cond (t := true) rfl ?_
            rw [if_pos rfl]
            refine dw_seq ?_
            refine dw_k [] TC9_ok (by kernel_rfl) hnt (by kernel_rfl) (by simp only [List.size_toArray, List.length_cons, List.length_nil, Nat.reduceAdd]; rfl) ?_
            intro K hK
            refine hK _ _ ?_
            clear hK K
            refine dw_ret ?_
            exact retv (N := 0) (.inr rfl) rfl (VLe.refl _) trivial
      · rw [List.drop_eq_nil_of_le (by omega), chkL] at hj
        rw [← hj]
        refine dw_k [(17, .v (.bool false))] TC9_ok (by kernel_rfl) hnt (by kernel_rfl) (by simp only [List.size_toArray, List.length_cons, List.length_nil, Nat.reduceAdd]; rfl) ?_
        intro K hK
        refine And.intro (dfalse (by rw [ePairs_len]; omega)) ?_
        refine hK _ _ ?_
        clear hK K
        refine dw_cond (t := false) rfl ?_
        rw [if_neg (by simp)]
        refine dw_exit ?_
        refine dw_seq ?_
        refine dw_k [] TC9_ok (by kernel_rfl) hnt (by kernel_rfl) (by simp only [List.size_toArray, List.length_cons, List.length_nil, Nat.reduceAdd]; rfl) ?_
        intro K hK
        refine hK _ _ ?_
        clear hK K
        refine dw_ret ?_
        exact retv (N := 0) (.inr rfl) rfl (VLe.refl _) trivial
end Go.Proofs.YtiblklcfjakjmaaGreat

namespace Go.Proofs.YtiblklcfjakjmaaGreat
open Go.RowKit
def TW9_22 : TI := ⟨1, false, [Value.slice none 0 0], [], some 104, 24, 5, none⟩
theorem TW9_22_ok : TypOk Tryz.prog 22 TW9_22 := ⟨by kernel_rfl, by kernel_rfl, by kernel_rfl, by kernel_rfl⟩
def TW9_24 : TI := ⟨3, true, [Value.int IntKind.i64 0, Value.slice none 0 0, Value.slice none 0 0], [(0, 1, false), (1, 1, false), (2, 1, false)], none, 56, 6, none⟩
theorem TW9_24_ok : TypOk Tryz.prog 24 TW9_24 := ⟨by kernel_rfl, by kernel_rfl, by kernel_rfl, by kernel_rfl⟩
def TW9_3 : TI := ⟨1, false, [Value.int IntKind.i64 0], [], none, 8, 2, none⟩
theorem TW9_3_ok : TypOk Tryz.prog 3 TW9_3 := ⟨by kernel_rfl, by kernel_rfl, by kernel_rfl, by kernel_rfl⟩
def TW9_36 : TI := ⟨3, true, [Value.int IntKind.i64 0, Value.slice none 0 0, Value.slice none 0 0], [(0, 1, false), (1, 1, false), (2, 1, false)], none, 56, 6, none⟩
theorem TW9_36_ok : TypOk Tryz.prog 36 TW9_36 := ⟨by kernel_rfl, by kernel_rfl, by kernel_rfl, by kernel_rfl⟩
def TW9_104 : TI := ⟨2, true, [Value.slice none 0 0, Value.int IntKind.i64 0], [(0, 1, false), (1, 1, false)], none, 32, 6, none⟩
theorem TW9_104_ok : TypOk Tryz.prog 104 TW9_104 := ⟨by kernel_rfl, by kernel_rfl, by kernel_rfl, by kernel_rfl⟩
def TW9 : List (Nat × TI) := [(22, TW9_22), (24, TW9_24), (3, TW9_3), (36, TW9_36), (104, TW9_104)]
theorem TW9_ok : TabOk Tryz.prog TW9 := ((((((TabOk.nil _).cons TW9_104_ok).cons TW9_36_ok).cons TW9_3_ok).cons TW9_24_ok).cons TW9_22_ok)

theorem types_d (l : List Ty) (hz : Ty.sizes l ≤ 1000000) : PureC Tryz.prog 14 [.sl 2 (eTys l) none] (.sl 2 (eTys l) none) := by
  refine pure_below (by kernel_rfl) fun m Im w vs hv => ?_
  match vs, hv with
  | [x], hv =>
    refine (types_any (slTy hv.1) w (Keep.refl _ _) hz).mono ?_
    rintro e w' ⟨a, c, rfl, h1, h2⟩
    refine ⟨_, rfl, h2, fun Im' _ hI => ?_⟩
    rw [eTys_map]
    exact rel_of_sl (r := rpTy) (e := eTy) (fun b o v hq hc => hI b o v hq hc) eTy_len (fun x a h => by
      obtain ⟨s, b, rfl, ht⟩ := h
      exact rel_of_ty (fun b o v hq hc => hI b o v hq hc) a ht) h1
theorem behind_d (l r : List Ty) (h1 : l.length ≤ 1000) (h2 : r.length ≤ 1000) : PureC Tryz.prog 51 [.sl 2 (eTys l) none, .sl 2 (eTys r) none] (.sl 2 (eTys (l ++ r)) none) := by
  rw [eTys_append]
  have e1 := eTys_len l
  have e2 := eTys_len r
  refine call_of_dw 0 12 [ResultVar.tmp 4] TW9_ok (by kernel_rfl) Tryz.func51 rfl Tryz.ntmps51 rfl (by simp) ?dwords ?dbody
  case dwords => simp [wordsOk, D.ok, D.oks, D.okss, rnames, eTys_ok, ← eTys_append]
  case dbody =>
    intro cx hnt hn0
    refine dw_seq ?_
    refine dw_k [] TW9_ok (by kernel_rfl) hnt (by kernel_rfl) (by simp only [List.size_toArray, List.length_cons, List.length_nil, Nat.reduceAdd]; rfl) ?_
    intro K hK
    refine hK _ _ ?_
    clear hK K
    refine dw_seq ?_
    refine dw_k [] TW9_ok (by kernel_rfl) hnt (by kernel_rfl) (by simp only [List.size_toArray, List.length_cons, List.length_nil, Nat.reduceAdd]; rfl) ?_
    intro K hK
    refine hK _ _ ?_
    clear hK K
    refine dw_seq ?_
    refine dw_k [] TW9_ok (by kernel_rfl) hnt (by kernel_rfl) (by simp only [List.size_toArray, List.length_cons, List.length_nil, Nat.reduceAdd]; rfl) ?_
    intro K hK
    refine And.intro (by omega) ?_
    refine hK _ _ ?_
    clear hK K
    refine dw_seq ?_
    refine dw_k [] TW9_ok (by kernel_rfl) hnt (by kernel_rfl) (by simp only [List.size_toArray, List.length_cons, List.length_nil, Nat.reduceAdd]; rfl) ?_
    intro K hK
    refine And.intro (⟨rfl, by omega⟩) ?_
    refine hK _ _ ?_
    clear hK K
    refine dw_ret ?_
    exact retv (N := 0) (.inr rfl) rfl (by repeat first | exact VLe.refl _ | exact VLe.nil _ | exact VLe.untag _ _ _ | refine VLe.ag ?_ | refine VLe.tu ?_ | refine VLeL.cons ?_ ?_ | exact VLeL.nil) trivial
theorem world_d (b : Int) (C M : List Ty) (h1 : Ty.sizes C ≤ 1000000) (h2 : Ty.sizes M ≤ 1000000) : PureC Tryz.prog 13 [.ag [.v (.int .i64 b), .sl 2 (eTys C) none, .sl 2 (eTys M) none]] (.ag [.v (.int .i64 b), .sl 2 (eTys C) none, .sl 2 (eTys M) none]) := by
  have hC := types_d C h1
  have hM := types_d M h2
  refine call_of_dw 0 12 [ResultVar.cell 2 36] TW9_ok (by kernel_rfl) Tryz.func13 rfl Tryz.ntmps13 rfl (by simp) ?dwords ?dbody
  case dwords => simp [wordsOk, D.ok, D.oks, rnames, eTys_ok]
  case dbody =>
    intro cx hnt hn0
    refine dw_seq ?_
    refine dw_k [] TW9_ok (by kernel_rfl) hnt (by kernel_rfl) (by simp only [List.size_toArray, List.length_cons, List.length_nil, Nat.reduceAdd]; rfl) ?_
    intro K hK
    refine hK _ _ ?_
    clear hK K
    refine dw_seq ?_
    refine dw_kD [] TW9_ok (by kernel_rfl) hnt (by kernel_rfl) (by simp only [List.size_toArray, List.length_cons, List.length_nil, Nat.reduceAdd]; rfl) ?_
    intro K hK
    refine ⟨_, _, _, Or.inl (hC), by repeat first | exact trivial | refine And.intro ⟨rfl, rfl⟩ ?_, ?_⟩
    refine ⟨_, _, _, Or.inl (hM), by repeat first | exact trivial | refine And.intro ⟨rfl, rfl⟩ ?_, ?_⟩
    refine hK _ _ (by kernel_rfl) ?_
    clear hK K
    refine dw_ret ?_
    exact retv (N := 0) (.inr rfl) rfl (by repeat first | exact VLe.refl _ | exact VLe.nil _ | exact VLe.untag _ _ _ | refine VLe.ag ?_ | refine VLe.tu ?_ | refine VLeL.cons ?_ ?_ | exact VLeL.nil) trivial
def few4B (t : Ty) : Bool := decide (fewT 60 t 60 ≤ 60)
set_option maxHeartbeats 1000000 in
theorem small_d (b : Int) (C M X : List Ty) (h1 : C.length ≤ 20) (h2 : M.length ≤ 20) (h3 : X.length ≤ 20) : PureC Tryz.prog 9 [.ag [.v (.int .i64 b), .sl 2 (eTys C) none, .sl 2 (eTys M) none], .sl 2 (eTys X) none] (.v (.bool (((C ++ M) ++ X).all few4B))) := by
  have hB := behind_d C M (by omega) (by omega)
  have hB2 := behind_d (C ++ M) X (by simp; omega) (by omega)
  obtain ⟨l, hl⟩ : ∃ l, (C ++ M) ++ X = l := ⟨_, rfl⟩
  rw [hl] at hB2 ⊢
  have hll : l.length ≤ 60 := by rw [← hl]; simp; omega
  refine call_of_dw 0 41 [ResultVar.tmp 4] TW9_ok (by kernel_rfl) Tryz.func9 rfl Tryz.ntmps9 rfl (by simp) ?dwords ?dbody
  case dwords => simp [wordsOk, D.ok, D.oks, rnames, eTys_ok]
  case dbody =>
    intro cx hnt hn0
    refine dw_seq ?_
    refine dw_k [] TW9_ok (by kernel_rfl) hnt (by kernel_rfl) (by simp only [List.size_toArray, List.length_cons, List.length_nil, Nat.reduceAdd]; rfl) ?_
    intro K hK
    refine hK _ _ ?_
    clear hK K
    refine dw_seq (dw_seq ?_)
    refine dw_k [(10, .v (.bool false)), (15, .v (.bool false)), (20, .v (.bool false))] TW9_ok (by kernel_rfl) hnt (by kernel_rfl) (by simp only [List.size_toArray, List.length_cons, List.length_nil, Nat.reduceAdd]; rfl) ?_
    intro K hK
    refine And.intro (dfalse (by rw [eTys_len]; omega)) ?_
    refine And.intro (dfalse (by rw [eTys_len]; omega)) ?_
    refine And.intro (dfalse (by rw [eTys_len]; omega)) ?_
    refine hK _ _ ?_
    clear hK K
    refine dw_cond (t := false) rfl ?_
    rw [if_neg (by simp)]
    refine dw_skip ?_
    refine dw_seq ?_
    refine dw_k [] TW9_ok (by kernel_rfl) hnt (by kernel_rfl) (by simp only [List.size_toArray, List.length_cons, List.length_nil, Nat.reduceAdd]; rfl) ?_
    intro K hK
    refine ⟨_, _, _, Or.inl (hB), by repeat first | exact trivial | refine And.intro ⟨rfl, rfl⟩ ?_, ?_⟩
    refine ⟨_, _, _, Or.inl (hB2), by repeat first | exact trivial | refine And.intro ⟨rfl, rfl⟩ ?_, ?_⟩
    refine hK _ _ ?_
    clear hK K
    refine dw_seq (dw_seq ?_)
    refine dw_k [] TW9_ok (by kernel_rfl) hnt (by kernel_rfl) (by simp only [List.size_toArray, List.length_cons, List.length_nil, Nat.reduceAdd]; rfl) ?_
    intro K hK
    refine hK _ _ ?_
    clear hK K
    refine dw_block ?_
    refine dw_loop (ι := { j : Nat // ∀ i (h : i < l.length), i < j → few4B l[i] = true }) (fun j => [(.t 5, .sl 2 (eTys l) none), (.t 6, .v (.int .i64 (j.1 : Int)))]) 1 (fun j => l.length - j.1) ⟨0, fun i h1 h2 => by omega⟩ (VS.toK (by first | omega | simp [hn0]) (by repeat first | exact trivial | refine And.intro (And.intro (by first | rfl | simp [D.ok, D.oks, D.okss, D.okm, eTm_ok, eTy_ok, eTys_ok, eTms_ok, upto, keyOk]) (by first | exact Or.inl rfl | exact Or.inr ⟨_, rfl, (by repeat first | exact VLe.refl _ | exact VLe.nil _ | exact VLe.untag _ _ _ | refine VLe.ag ?_ | refine VLe.tu ?_ | refine VLeL.cons ?_ ?_ | exact VLeL.nil), trivial⟩ | simp [get, Key.eq])) ?_)) fun j => ?_
    obtain ⟨j, hj⟩ := j
    dsimp only
    refine dw_seq (dw_seq ?_)
    by_cases hlt : j < l.length
    · have hi := Few4_d 60 (by decide) (by decide) l[j] 60 (by decide) (by decide)
      rw [eTy_eq] at hi
      have hq : (eTys l).getD (j : Int).toNat [] = [.sl 2 (eTys l[j].args) none, .v (.int .i64 l[j].base)] := by rw [Int.toNat_natCast, eTys_getD l j hlt, eTy_eq]
      have hb : (0 : Int) ≤ (j : Int) ∧ (j : Int) < ((eTys l).length : Int) := ⟨by omega, by rw [eTys_len]; omega⟩
      refine dw_k [(32, .v (.bool true))] TW9_ok (by kernel_rfl) hnt (by kernel_rfl) (by simp only [List.size_toArray, List.length_cons, List.length_nil, Nat.reduceAdd]; rfl) ?_
      intro K hK
      refine And.intro (dtrue (by rw [eTys_len]; omega)) ?_
      refine hK _ _ ?_
      clear hK K
      refine dw_cond (t := true) rfl ?_
      rw [if_pos rfl]
      refine dw_skip ?_
      refine dw_seq (dw_block (dw_seq ?_))
      cases hf : few4B l[j] with
      | true =>
        have hf2 := hf
        unfold few4B at hf2
        rw [hf2] at hi
        refine dw_k [(37, .q [.sl 2 (eTys l[j].args) none, .v (.int .i64 l[j].base)])] TW9_ok (by kernel_rfl) hnt (by kernel_rfl) (by simp only [List.size_toArray, List.length_cons, List.length_nil, Nat.reduceAdd]; rfl) ?_
        intro K hK
        refine And.intro (hb) ?_
        refine And.intro (VLe.of_eq (by rw [hq])) ?_
        refine ⟨_, _, _, Or.inl (hi), by repeat first | exact trivial | refine And.intro ⟨rfl, rfl⟩ ?_, ?_⟩
        refine hK _ _ ?_
        clear hK K
        refine dw_cond (t := false) rfl ?_
        rw [if_neg (by simp)]
        refine dw_skip ?_
        refine dw_k [(34, .v (.int .i64 ((j + 1 : Nat) : Int)))] TW9_ok (by kernel_rfl) hnt (by kernel_rfl) (by simp only [List.size_toArray, List.length_cons, List.length_nil, Nat.reduceAdd]; rfl) ?_
        intro K hK
        refine And.intro (dintE (by rw [IntWalk.i64_in _ (by omega)]; omega)) ?_
        refine hK _ _ ?_
        clear hK K
        refine ⟨⟨j + 1, fun i h1 h2 => ?_⟩, by dsimp only; omega, (VS.toK (by first | omega | simp [hn0]) (by repeat first | exact trivial | refine And.intro (And.intro (by first | rfl | simp [D.ok, D.oks, D.okss, D.okm, eTm_ok, eTy_ok, eTys_ok, eTms_ok, upto, keyOk]) (by first | exact Or.inl rfl | exact Or.inr ⟨_, rfl, (by repeat first | exact VLe.refl _ | exact VLe.nil _ | exact VLe.untag _ _ _ | refine VLe.ag ?_ | refine VLe.tu ?_ | refine VLeL.cons ?_ ?_ | exact VLeL.nil), trivial⟩ | simp [get, Key.eq])) ?_))⟩
        by_cases he : i = j
        · subst he; exact hf
        · exact hj i h1 (by omega)
      | false =>
        have hf2 := hf
        unfold few4B at hf2
        rw [hf2] at hi
        have ha : l.all few4B = false := by rw [List.all_eq_false]; exact ⟨l[j], List.getElem_mem hlt, by rw [hf]; simp⟩
        rw [ha]
        refine dw_k [(37, .q [.sl 2 (eTys l[j].args) none, .v (.int .i64 l[j].base)])] TW9_ok (by kernel_rfl) hnt (by kernel_rfl) (by simp only [List.size_toArray, List.length_cons, List.length_nil, Nat.reduceAdd]; rfl) ?_
        intro K hK
        refine And.intro (hb) ?_
        refine And.intro (VLe.of_eq (by rw [hq])) ?_
        refine ⟨_, _, _, Or.inl (hi), by repeat first | exact trivial | refine And.intro ⟨rfl, rfl⟩ ?_, ?_⟩
        refine hK _ _ ?_
        clear hK K
        refine dw_cond (t := true) rfl ?_
        rw [if_pos rfl]
        refine dw_seq ?_
        refine dw_k [] TW9_ok (by kernel_rfl) hnt (by kernel_rfl) (by simp only [List.size_toArray, List.length_cons, List.length_nil, Nat.reduceAdd]; rfl) ?_
        intro K hK
        refine hK _ _ ?_
        clear hK K
        refine dw_ret ?_
        exact retv (N := 0) (.inr rfl) rfl (VLe.refl _) trivial
    · have ha : l.all few4B = true := by
        rw [List.all_eq_true]
        intro t ht
        obtain ⟨i, hi, rfl⟩ := List.getElem_of_mem ht
        exact hj i hi (by omega)
      rw [ha]
      refine dw_k [(32, .v (.bool false))] TW9_ok (by kernel_rfl) hnt (by kernel_rfl) (by simp only [List.size_toArray, List.length_cons, List.length_nil, Nat.reduceAdd]; rfl) ?_
      intro K hK
      refine And.intro (dfalse (by rw [eTys_len]; omega)) ?_
      refine hK _ _ ?_
      clear hK K
      refine dw_cond (t := false) rfl ?_
      rw [if_neg (by simp)]
      refine dw_exit ?_
      refine dw_seq ?_
      refine dw_k [] TW9_ok (by kernel_rfl) hnt (by kernel_rfl) (by simp only [List.size_toArray, List.length_cons, List.length_nil, Nat.reduceAdd]; rfl) ?_
      intro K hK
      refine hK _ _ ?_
      clear hK K
      refine dw_ret ?_
      exact retv (N := 0) (.inr rfl) rfl (VLe.refl _) trivial
set_option maxHeartbeats 1000000 in
theorem small_no (b : Int) (C M X : List Ty) (h : ¬ (C.length ≤ 20 ∧ M.length ≤ 20 ∧ X.length ≤ 20)) : PureC Tryz.prog 9 [.ag [.v (.int .i64 b), .sl 2 (eTys C) none, .sl 2 (eTys M) none], .sl 2 (eTys X) none] (.v (.bool false)) := by
  refine call_of_dw 0 41 [ResultVar.tmp 4] TW9_ok (by kernel_rfl) Tryz.func9 rfl Tryz.ntmps9 rfl (by simp) ?dwords ?dbody
  case dwords => simp [wordsOk, D.ok, D.oks, rnames, eTys_ok]
  case dbody =>
    intro cx hnt hn0
    refine dw_seq ?_
    refine dw_k [] TW9_ok (by kernel_rfl) hnt (by kernel_rfl) (by simp only [List.size_toArray, List.length_cons, List.length_nil, Nat.reduceAdd]; rfl) ?_
    intro K hK
    refine hK _ _ ?_
    clear hK K
    refine dw_seq (dw_seq ?_)
    by_cases h1 : C.length ≤ 20
    · by_cases h2 : M.length ≤ 20
      · skip
        refine dw_k [(10, .v (.bool false)), (15, .v (.bool false)), (20, .v (.bool true))] TW9_ok (by kernel_rfl) hnt (by kernel_rfl) (by simp only [List.size_toArray, List.length_cons, List.length_nil, Nat.reduceAdd]; rfl) ?_
        intro K hK
        refine And.intro (dfalse (by rw [eTys_len]; omega)) ?_
        refine And.intro (dfalse (by rw [eTys_len]; omega)) ?_
        refine And.intro (dtrue (by rw [eTys_len]; omega)) ?_
        refine hK _ _ ?_
        clear hK K
        refine dw_cond (t := true) rfl ?_
        rw [if_pos rfl]
        refine dw_seq ?_
        refine dw_k [] TW9_ok (by kernel_rfl) hnt (by kernel_rfl) (by simp only [List.size_toArray, List.length_cons, List.length_nil, Nat.reduceAdd]; rfl) ?_
        intro K hK
        refine hK _ _ ?_
        clear hK K
        refine dw_ret ?_
        exact retv (N := 0) (.inr rfl) rfl (VLe.refl _) trivial
      · skip
        refine dw_k [(10, .v (.bool false)), (15, .v (.bool true))] TW9_ok (by kernel_rfl) hnt (by kernel_rfl) (by simp only [List.size_toArray, List.length_cons, List.length_nil, Nat.reduceAdd]; rfl) ?_
        intro K hK
        refine And.intro (dfalse (by rw [eTys_len]; omega)) ?_
        refine And.intro (dtrue (by rw [eTys_len]; omega)) ?_
        refine hK _ _ ?_
        clear hK K
        refine dw_cond (t := true) rfl ?_
        rw [if_pos rfl]
        refine dw_seq ?_
        refine dw_k [] TW9_ok (by kernel_rfl) hnt (by kernel_rfl) (by simp only [List.size_toArray, List.length_cons, List.length_nil, Nat.reduceAdd]; rfl) ?_
        intro K hK
        refine hK _ _ ?_
        clear hK K
        refine dw_ret ?_
        exact retv (N := 0) (.inr rfl) rfl (VLe.refl _) trivial
    · skip
      refine dw_k [(10, .v (.bool true))] TW9_ok (by kernel_rfl) hnt (by kernel_rfl) (by simp only [List.size_toArray, List.length_cons, List.length_nil, Nat.reduceAdd]; rfl) ?_
      intro K hK
      refine And.intro (dtrue (by rw [eTys_len]; omega)) ?_
      refine hK _ _ ?_
      clear hK K
      refine dw_cond (t := true) rfl ?_
      rw [if_pos rfl]
      refine dw_seq ?_
      refine dw_k [] TW9_ok (by kernel_rfl) hnt (by kernel_rfl) (by simp only [List.size_toArray, List.length_cons, List.length_nil, Nat.reduceAdd]; rfl) ?_
      intro K hK
      refine hK _ _ ?_
      clear hK K
      refine dw_ret ?_
      exact retv (N := 0) (.inr rfl) rfl (VLe.refl _) trivial
end Go.Proofs.YtiblklcfjakjmaaGreat

namespace Go.Proofs.YtiblklcfjakjmaaGreat
open Go.RowKit
def TS2_52 : TI := ⟨4, true, [Value.slice none 0 0, Value.int IntKind.i64 0, Value.int IntKind.i64 0, Value.slice none 0 0], [(0, 1, false), (1, 2, true), (3, 1, false)], none, 64, 6, none⟩
theorem TS2_52_ok : TypOk Tryz.prog 52 TS2_52 := ⟨by kernel_rfl, by kernel_rfl, by kernel_rfl, by kernel_rfl⟩
def TS2_140 : TI := ⟨3, true, [Value.pointer none, Value.slice none 0 0, Value.int IntKind.i64 0], [(0, 1, false), (1, 1, false), (2, 1, false)], none, 40, 6, none⟩
theorem TS2_140_ok : TypOk Tryz.prog 140 TS2_140 := ⟨by kernel_rfl, by kernel_rfl, by kernel_rfl, by kernel_rfl⟩
def TS2_32 : TI := ⟨1, false, [Value.int IntKind.i64 0], [], none, 8, 2, none⟩
theorem TS2_32_ok : TypOk Tryz.prog 32 TS2_32 := ⟨by kernel_rfl, by kernel_rfl, by kernel_rfl, by kernel_rfl⟩
def TS2_3 : TI := ⟨1, false, [Value.int IntKind.i64 0], [], none, 8, 2, none⟩
theorem TS2_3_ok : TypOk Tryz.prog 3 TS2_3 := ⟨by kernel_rfl, by kernel_rfl, by kernel_rfl, by kernel_rfl⟩
def TS2_50 : TI := ⟨1, false, [Value.slice none 0 0], [], some 52, 24, 5, none⟩
theorem TS2_50_ok : TypOk Tryz.prog 50 TS2_50 := ⟨by kernel_rfl, by kernel_rfl, by kernel_rfl, by kernel_rfl⟩
def TS2_34 : TI := ⟨1, false, [Value.slice none 0 0], [], some 77, 24, 5, none⟩
theorem TS2_34_ok : TypOk Tryz.prog 34 TS2_34 := ⟨by kernel_rfl, by kernel_rfl, by kernel_rfl, by kernel_rfl⟩
def TS2_85 : TI := ⟨1, false, [Value.pointer none], [], none, 8, 4, none⟩
theorem TS2_85_ok : TypOk Tryz.prog 85 TS2_85 := ⟨by kernel_rfl, by kernel_rfl, by kernel_rfl, by kernel_rfl⟩
def TS2_49 : TI := ⟨2, true, [Value.int IntKind.i64 0, Value.int IntKind.i64 0], [(0, 1, false), (1, 1, false)], none, 16, 6, none⟩
theorem TS2_49_ok : TypOk Tryz.prog 49 TS2_49 := ⟨by kernel_rfl, by kernel_rfl, by kernel_rfl, by kernel_rfl⟩
def TS2_30 : TI := ⟨1, false, [Value.slice none 0 0], [], some 99, 24, 5, none⟩
theorem TS2_30_ok : TypOk Tryz.prog 30 TS2_30 := ⟨by kernel_rfl, by kernel_rfl, by kernel_rfl, by kernel_rfl⟩
def TS2_138 : TI := ⟨1, false, [Value.pointer none], [], none, 8, 4, none⟩
theorem TS2_138_ok : TypOk Tryz.prog 138 TS2_138 := ⟨by kernel_rfl, by kernel_rfl, by kernel_rfl, by kernel_rfl⟩
def TS2_99 : TI := ⟨5, true, [Value.int IntKind.i64 0, Value.slice none 0 0, Value.int IntKind.i64 0, Value.int IntKind.i64 0, Value.slice none 0 0], [(0, 1, false), (1, 4, true)], none, 72, 6, none⟩
theorem TS2_99_ok : TypOk Tryz.prog 99 TS2_99 := ⟨by kernel_rfl, by kernel_rfl, by kernel_rfl, by kernel_rfl⟩
def TS2_112 : TI := ⟨1, false, [Value.pointer none], [], none, 8, 4, none⟩
theorem TS2_112_ok : TypOk Tryz.prog 112 TS2_112 := ⟨by kernel_rfl, by kernel_rfl, by kernel_rfl, by kernel_rfl⟩
def TS2_77 : TI := ⟨2, true, [Value.slice none 0 0, Value.int IntKind.i64 0], [(0, 1, false), (1, 1, false)], none, 32, 6, none⟩
theorem TS2_77_ok : TypOk Tryz.prog 77 TS2_77 := ⟨by kernel_rfl, by kernel_rfl, by kernel_rfl, by kernel_rfl⟩
def TS2 : List (Nat × TI) := [(52, TS2_52), (140, TS2_140), (32, TS2_32), (3, TS2_3), (50, TS2_50), (34, TS2_34), (85, TS2_85), (49, TS2_49), (30, TS2_30), (138, TS2_138), (99, TS2_99), (112, TS2_112), (77, TS2_77)]
theorem TS2_ok : TabOk Tryz.prog TS2 := ((((((((((((((TabOk.nil _).cons TS2_77_ok).cons TS2_112_ok).cons TS2_99_ok).cons TS2_138_ok).cons TS2_30_ok).cons TS2_49_ok).cons TS2_85_ok).cons TS2_34_ok).cons TS2_50_ok).cons TS2_3_ok).cons TS2_32_ok).cons TS2_140_ok).cons TS2_52_ok)

def swE (l : List (Int × Tm)) (s : Nm.St) : List (Key × D) := [(.c 0 0, .o 1), (.c 0 1, .sl 5 (ePairs l) none), (.c 0 2, .v (.int .i64 s.e)), (.o 1, .ob (BudJ s.left s.dry))]
theorem replaced_d (l : List (Int × Tm)) (t u : Tm) (s : Nm.St) (h0 : 0 ≤ s.left) (h1 : s.left ≤ 1000000000) (hu : Wide u) (ha : ∀ a ∈ t.args, Wide a)
    (ho : u.binds.length = t.args.length → (Nm.put 100001 u t.args ⟨s.left, s.dry, 0, 0⟩).2.e = 0 → DoneOk (Nm.put 100001 u t.args ⟨s.left, s.dry, 0, 0⟩).1) (he : s.e = 0) :
    CallC Tryz.prog 118 [.p 0 0, .ag (eTm t), .ag (eTm u)] (swE l s) (swE l (Sb.replaced t u s).2) (.ag (eTm (Sb.replaced t u s).1)) := by
  have hP := Put_d u t.args s.left s.dry h0 h1 hu ha
  obtain ⟨left, dry, count, er⟩ := s
  dsimp only at he h0 h1 ho hP
  subst he
  obtain ⟨bs, k, i, a⟩ := t
  dsimp only [Tm.args] at ho hP ha
  obtain ⟨p, hp⟩ : ∃ p, Sb.replaced (.mk bs k i a) u ⟨left, dry, count, 0⟩ = p := ⟨_, rfl⟩
  rw [hp]
  have hpd := hp.symm
  clear hp
  have hp1 : u.binds.length ≠ a.length → p = (Nm.tz, ⟨left, dry, count, 1⟩) := fun h => hpd.trans (if_pos h)
  have hp2 : u.binds.length = a.length → p = if (Nm.Put u a left dry).2.e ≠ 0 then (Nm.tz, ⟨(Nm.Put u a left dry).2.left, (Nm.Put u a left dry).2.dry, count, (Nm.Put u a left dry).2.e⟩) else (.mk bs (Nm.Put u a left dry).1.kind (Nm.Put u a left dry).1.index (Nm.Put u a left dry).1.args, ⟨(Nm.Put u a left dry).2.left, (Nm.Put u a left dry).2.dry, count, 0⟩) := fun h => hpd.trans (if_neg (fun h' => h' h))
  clear hpd
  obtain ⟨ub, uk, ui, ua⟩ := u
  rw [eTm_eq, eTm_eq (.mk ub uk ui ua)]
  dsimp only [Tm.binds] at hp1 hp2 ho
  refine call_of_dw 2 42 [ResultVar.cell 6 52] TS2_ok (by kernel_rfl) Tryz.func118 rfl Tryz.ntmps118 rfl (by simp) ?dwords ?dbody
  case dwords => simp [wordsOk, swE, D.ok, D.oks, rnames, inN, ckey, eTm_ok, eTms_ok, eTys_ok, ePairs_ok]
  case dbody =>
    intro cx hnt hn0
    dsimp only [Tm.binds, Tm.kind, Tm.index, Tm.args]
    refine dw_seq ?_
    refine dw_k [] TS2_ok (by kernel_rfl) hnt (by kernel_rfl) (by simp only [List.size_toArray, List.length_cons, List.length_nil, Nat.reduceAdd]; rfl) ?_
    intro K hK
    refine hK _ _ ?_
    clear hK K
    refine dw_seq (dw_seq ?_)
    by_cases hl : ub.length = a.length
    · have hpd := hp2 hl
      have hP := hP (ho hl)
      obtain ⟨r, hr⟩ : ∃ r, Nm.Put (.mk ub uk ui ua) a left dry = r := ⟨_, rfl⟩
      rw [hr] at hP hpd
      clear hr
      obtain ⟨rt, rs⟩ := r
      dsimp only at hP hpd
      rw [eTm_eq, eTm_eq rt] at hP
      refine dw_k [(15, .v (.bool false))] TS2_ok (by kernel_rfl) hnt (by kernel_rfl) (by simp only [List.size_toArray, List.length_cons, List.length_nil, Nat.reduceAdd]; rfl) ?_
      intro K hK
      refine And.intro (VLe.of_eq (by simp [eTys_len, eTms_len, hl])) ?_
      refine hK _ _ ?_
      clear hK K
      refine dw_cond (t := false) rfl ?_
      rw [if_neg (by simp)]
      refine dw_skip ?_
      refine dw_seq ?_
      refine dw_kD [] TS2_ok (by kernel_rfl) hnt (by kernel_rfl) (by simp only [List.size_toArray, List.length_cons, List.length_nil, Nat.reduceAdd]; rfl) ?_
      intro K hK
      refine ⟨_, _, _, Or.inl (hP), by repeat first | exact trivial | refine And.intro ⟨rfl, rfl⟩ ?_, ?_⟩
      refine hK _ _ (by kernel_rfl) ?_
      clear hK K
      refine dw_seq (dw_seq ?_)
      by_cases hre : rs.e = 0
      · rw [if_neg (by simp [hre])] at hpd
        subst hpd
        refine dw_k [(32, .v (.bool false))] TS2_ok (by kernel_rfl) hnt (by kernel_rfl) (by simp only [List.size_toArray, List.length_cons, List.length_nil, Nat.reduceAdd]; rfl) ?_
        intro K hK
        refine And.intro (VLe.of_eq (by simp [hre])) ?_
        refine hK _ _ ?_
        clear hK K
        refine dw_cond (t := false) rfl ?_
        rw [if_neg (by simp)]
        refine dw_skip ?_
        refine dw_seq ?_
        refine dw_k [] TS2_ok (by kernel_rfl) hnt (by kernel_rfl) (by simp only [List.size_toArray, List.length_cons, List.length_nil, Nat.reduceAdd]; rfl) ?_
        intro K hK
        refine hK _ _ ?_
        clear hK K
        refine dw_seq ?_
        refine dw_k [] TS2_ok (by kernel_rfl) hnt (by kernel_rfl) (by simp only [List.size_toArray, List.length_cons, List.length_nil, Nat.reduceAdd]; rfl) ?_
        intro K hK
        refine hK _ _ ?_
        clear hK K
        refine dw_ret ?_
        rw [eTm_eq]
        exact retv (N := 0) (.inr rfl) rfl (by repeat first | exact VLe.refl _ | exact VLe.nil _ | exact VLe.untag _ _ _ | refine VLe.ag ?_ | refine VLe.tu ?_ | refine VLeL.cons ?_ ?_ | exact VLeL.nil) (by repeat first | exact trivial | refine And.intro rfl ?_)
      · rw [if_pos hre] at hpd
        subst hpd
        refine dw_k [(32, .v (.bool true))] TS2_ok (by kernel_rfl) hnt (by kernel_rfl) (by simp only [List.size_toArray, List.length_cons, List.length_nil, Nat.reduceAdd]; rfl) ?_
        intro K hK
        refine And.intro (VLe.of_eq (by simp [hre])) ?_
        refine hK _ _ ?_
        clear hK K
        refine dw_cond (t := true) rfl ?_
        rw [if_pos rfl]
        refine dw_seq ?_
        refine dw_k [] TS2_ok (by kernel_rfl) hnt (by kernel_rfl) (by simp only [List.size_toArray, List.length_cons, List.length_nil, Nat.reduceAdd]; rfl) ?_
        intro K hK
        refine hK _ _ ?_
        clear hK K
        refine dw_seq ?_
        refine dw_k [] TS2_ok (by kernel_rfl) hnt (by kernel_rfl) (by simp only [List.size_toArray, List.length_cons, List.length_nil, Nat.reduceAdd]; rfl) ?_
        intro K hK
        refine hK _ _ ?_
        clear hK K
        refine dw_ret ?_
        rw [tz_eq]
        exact retv (N := 0) (.inr rfl) rfl (by repeat first | exact VLe.refl _ | exact VLe.nil _ | exact VLe.untag _ _ _ | refine VLe.ag ?_ | refine VLe.tu ?_ | refine VLeL.cons ?_ ?_ | exact VLeL.nil) (by repeat first | exact trivial | refine And.intro rfl ?_)
    · have hpd := hp1 hl
      subst hpd
      refine dw_k [(15, .v (.bool true))] TS2_ok (by kernel_rfl) hnt (by kernel_rfl) (by simp only [List.size_toArray, List.length_cons, List.length_nil, Nat.reduceAdd]; rfl) ?_
      intro K hK
      refine And.intro (VLe.of_eq (by simp [eTys_len, eTms_len]; omega)) ?_
      refine hK _ _ ?_
      clear hK K
      refine dw_cond (t := true) rfl ?_
      rw [if_pos rfl]
      refine dw_seq ?_
      refine dw_k [] TS2_ok (by kernel_rfl) hnt (by kernel_rfl) (by simp only [List.size_toArray, List.length_cons, List.length_nil, Nat.reduceAdd]; rfl) ?_
      intro K hK
      refine hK _ _ ?_
      clear hK K
      refine dw_seq ?_
      refine dw_k [] TS2_ok (by kernel_rfl) hnt (by kernel_rfl) (by simp only [List.size_toArray, List.length_cons, List.length_nil, Nat.reduceAdd]; rfl) ?_
      intro K hK
      refine hK _ _ ?_
      clear hK K
      refine dw_ret ?_
      rw [tz_eq]
      exact retv (N := 0) (.inr rfl) rfl (by repeat first | exact VLe.refl _ | exact VLe.nil _ | exact VLe.untag _ _ _ | refine VLe.ag ?_ | refine VLe.tu ?_ | refine VLeL.cons ?_ ?_ | exact VLeL.nil) (by repeat first | exact trivial | refine And.intro rfl ?_)
end Go.Proofs.YtiblklcfjakjmaaGreat

namespace Go.Proofs.YtiblklcfjakjmaaGreat
open Go.RowKit

def repOk (l : List (Int × Tm)) (k i ins : Int) (q : List Tm × Nm.St) : Prop := k = 2 → q.2.e = 0 → ∀ u, Sb.find l i = some u →
  Wide u ∧ Wide (Nm.lift ins u 0) ∧ (∀ a ∈ q.1, Wide a) ∧ ((Nm.lift ins u 0).binds.length = q.1.length → (Nm.put 100001 (Nm.lift ins u 0) q.1 ⟨q.2.left, q.2.dry, 0, 0⟩).2.e = 0 → DoneOk (Nm.put 100001 (Nm.lift ins u 0) q.1 ⟨q.2.left, q.2.dry, 0, 0⟩).1)
mutual
def thOk (l : List (Int × Tm)) : Tm → Int → Nm.St → Prop
  | .mk b k i a, ins, s => s.e = 0 → (Nm.spend s).1 = true → thOks l a (Nm.wr (ins + b.length)) (Nm.spend s).2 ∧ repOk l k i (Nm.wr (ins + b.length)) (Sb.throughs l a (Nm.wr (ins + b.length)) (Nm.spend s).2)
def thOks (l : List (Int × Tm)) : List Tm → Int → Nm.St → Prop
  | [], _, _ => True
  | t :: r, ins, s => thOk l t ins s ∧ thOks l r ins (Sb.through l t ins s).2
end
def InR (s : Nm.St) : Prop := 0 ≤ s.left ∧ s.left ≤ 1000000000
theorem spend_in {s : Nm.St} (h : InR s) : InR (Nm.spend s).2 := by
  unfold InR at *
  unfold Nm.spend
  split
  · exact ⟨Int.le_refl _, by show (0 : Int) ≤ 1000000000; decide⟩
  · rename_i hc; dsimp only; omega
theorem done_in {p : Tm × Nm.St} (h : InR p.2) : InR (Nm.done p).2 := by
  unfold Nm.done
  dsimp only
  have : InR (if p.2.e = 0 ∧ ¬ (p.1.size ≤ 5000 ∧ p.1.depth ≤ 60) then Nm.fail p.2 2 else p.2) := by
    split
    · unfold Nm.fail; split <;> exact h
    · exact h
  generalize (if p.2.e = 0 ∧ ¬ (p.1.size ≤ 5000 ∧ p.1.depth ≤ 60) then Nm.fail p.2 2 else p.2) = s at this ⊢
  split <;> exact this
theorem Put_in {t : Tm} {xs : List Tm} {left : Int} {dry : Bool} (h : 0 ≤ left ∧ left ≤ 1000000000) : InR (Nm.Put t xs left dry).2 :=
  done_in (putW_wk (through_wk 100001) t xs ⟨left, dry, 0, 0⟩ ⟨h, ⟨Int.le_refl 0, (by decide : (0 : Int) ≤ 100001)⟩, fun _ => (by decide : (0 : Int) ≤ 100000)⟩).left
theorem replaced_in {t u : Tm} {s : Nm.St} (h : InR s) : InR (Sb.replaced t u s).2 := by
  unfold Sb.replaced
  dsimp only
  split
  · exact h
  · have := Put_in (t := u) (xs := t.args) (dry := s.dry) h
    split <;> exact this
theorem seqM_in {g : Tm → Nm.St → Tm × Nm.St} : ∀ (l : List Tm) (hg : ∀ t ∈ l, ∀ s, InR s → InR (g t s).2) (s : Nm.St), InR s → InR (Nm.seqM g l s).2
  | [], _, _, h => h
  | t :: l, hg, s, h => seqM_in l (fun u hu => hg u (by simp [hu])) _ (hg t (by simp) s h)
theorem through_in (l : List (Int × Tm)) : ∀ (t : Tm) (ins : Int) (s : Nm.St), InR s → InR (Sb.through l t ins s).2 := by
  intro t
  induction t using Tm.ind with
  | h bs k i a ih =>
    intro ins s h
    rw [Sb.through]
    dsimp only
    rw [Sb.throughs_seq]
    have hq := seqM_in (g := fun t s => Sb.through l t (Nm.wr (ins + bs.length)) s) a (fun t ht s hs => ih t ht _ s hs) _ (spend_in h)
    split
    · exact h
    · split
      · exact spend_in h
      · split
        · exact hq
        · split
          · exact hq
          · exact replaced_in hq
theorem thOks_at (l : List (Int × Tm)) (ins : Int) : ∀ (a : List Tm) (s : Nm.St), thOks l a ins s → ∀ j (h : j < a.length), thOk l a[j] ins (Nm.seqM (fun t s => Sb.through l t ins s) (a.take j) s).2
  | t :: a, s, h, 0, _ => by rw [thOks] at h; exact h.1
  | t :: a, s, h, j + 1, hj => by
    rw [thOks] at h
    exact thOks_at l ins a _ h.2 j (by simpa using hj)

theorem Sb_find_idx (l : List (Int × Tm)) (m : Int) : Sb.find l m = ((idxOf m l).bind fun i => l[i]?).map (·.2) := by
  rw [find_idx]
  cases idxOf m l <;> rfl
def sthE (l : List (Int × Tm)) (s : Nm.St) (bs : List Ty) (k i : Int) (a : List Tm) (ins : Int) : List (Key × D) :=
  [(.t 0, .p 0 0), (.t 2, .v (.int .i64 ins)), (.t 4, .p 2 0), (.t 6, .p 3 0), (.t 7, .p 26 0), (.c 2 0, .sl 2 (eTys bs) none), (.c 2 1, .v (.int .i64 k)), (.c 2 2, .v (.int .i64 i)), (.c 2 3, .sl 4 (eTms a) none),
   (.c 3 0, .v (.slice none 0 0)), (.c 3 1, .v (.int .i64 0)), (.c 3 2, .v (.int .i64 0)), (.c 3 3, .v (.slice none 0 0)), (.c 26 0, .sl 2 (eTys bs) none), (.c 26 1, .v (.int .i64 k)), (.c 26 2, .v (.int .i64 i)),
   (.c 0 0, .o 1), (.c 0 1, .sl 5 (ePairs l) none), (.c 0 2, .v (.int .i64 s.e)), (.o 1, .ob (BudJ s.left s.dry))]
set_option maxHeartbeats 4000000 in
theorem sthr_d (l : List (Int × Tm)) (hl : l.length ≤ 1000000) : ∀ (t : Tm) (_ : Wide t) (ins : Int) (s : Nm.St), InR s → thOk l t ins s →
    CallC Tryz.prog 85 [.p 0 0, .ag (eTm t), .v (.int .i64 ins)] (swE l s) (swE l (Sb.through l t ins s).2) (.ag (eTm (Sb.through l t ins s).1)) := by
  intro t
  induction t using Tm.ind with
  | h bs k i a ih =>
  intro ht ins s hs hok
  obtain ⟨w1, w2, w3⟩ := ht.inv
  obtain ⟨p, hp⟩ : ∃ p, Sb.through l (.mk bs k i a) ins s = p := ⟨_, rfl⟩
  rw [Sb.through, Sb.throughs_seq] at hp
  rw [thOk, Sb.throughs_seq] at hok
  obtain ⟨m, hm⟩ : ∃ m, Nm.wr (ins + (bs.length : Int)) = m := ⟨_, rfl⟩
  rw [hm] at hp hok
  have hp' : Sb.through l (.mk bs k i a) ins s = p := by rw [← hp, Sb.through, Sb.throughs_seq, hm]
  rw [hp', eTm_eq]
  have hpd := hp.symm
  dsimp only at hpd
  clear hp hp'
  have hsp := spend_d 1 s hs.1 hs.2
  have hsi := spend_in hs
  have hse := (Nm.spend_keeps s).2
  obtain ⟨g, hg⟩ : ∃ g : Tm → Nm.St → Tm × Nm.St, (fun t s => Sb.through l t m s) = g := ⟨_, rfl⟩
  have hat := thOks_at l m a (Nm.spend s).2
  rw [hg] at hpd hok hat
  obtain ⟨left, dry, count, er⟩ := s
  dsimp only at hsp hsi hse hpd hok hat
  refine call_of_dw 2 86 [ResultVar.cell 6 52] TS2_ok (by kernel_rfl) Tryz.func85 rfl Tryz.ntmps85 rfl (by simp) ?dwords ?dbody
  case dwords => simp [wordsOk, swE, D.ok, D.oks, rnames, inN, ckey, eTm_ok, eTms_ok, eTys_ok, ePairs_ok]
  case dbody =>
    intro cx hnt hn0
    dsimp only [Tm.binds, Tm.kind, Tm.index, Tm.args]
    refine dw_seq ?_
    refine dw_k [] TS2_ok (by kernel_rfl) hnt (by kernel_rfl) (by simp only [List.size_toArray, List.length_cons, List.length_nil, Nat.reduceAdd]; rfl) ?_
    intro K hK
    refine hK _ _ ?_
    clear hK K
    refine dw_seq (dw_seq ?_)
    by_cases he : er = 0
    · subst he
      refine dw_k [(15, .v (.bool false))] TS2_ok (by kernel_rfl) hnt (by kernel_rfl) (by simp only [List.size_toArray, List.length_cons, List.length_nil, Nat.reduceAdd]; rfl) ?_
      intro K hK
      refine And.intro (VLe.refl _) ?_
      refine hK _ _ ?_
      clear hK K
      refine dw_cond (t := false) rfl ?_
      rw [if_neg (by simp)]
      refine dw_skip ?_
      rw [if_neg (by simp)] at hpd
      refine dw_seq (dw_seq ?_)
      obtain ⟨sp, hspq⟩ : ∃ sp, Nm.spend ⟨left, dry, count, 0⟩ = sp := ⟨_, rfl⟩
      rw [hspq] at hsp hsi hse hpd hok hat
      clear hspq
      obtain ⟨b, s1⟩ := sp
      dsimp only at hsp hsi hse hpd hok hat
      cases b with
      | false =>
        rw [if_pos rfl] at hpd
        subst hpd
        refine dw_k [] TS2_ok (by kernel_rfl) hnt (by kernel_rfl) (by simp only [List.size_toArray, List.length_cons, List.length_nil, Nat.reduceAdd]; rfl) ?_
        intro K hK
        refine ⟨_, _, _, Or.inl (hsp), by repeat first | exact trivial | refine And.intro ⟨rfl, rfl⟩ ?_, ?_⟩
        refine hK _ _ ?_
        clear hK K
        refine dw_cond (t := true) rfl ?_
        rw [if_pos rfl]
        refine dw_seq ?_
        refine dw_k [] TS2_ok (by kernel_rfl) hnt (by kernel_rfl) (by simp only [List.size_toArray, List.length_cons, List.length_nil, Nat.reduceAdd]; rfl) ?_
        intro K hK
        refine hK _ _ ?_
        clear hK K
        refine dw_seq ?_
        refine dw_k [] TS2_ok (by kernel_rfl) hnt (by kernel_rfl) (by simp only [List.size_toArray, List.length_cons, List.length_nil, Nat.reduceAdd]; rfl) ?_
        intro K hK
        refine hK _ _ ?_
        clear hK K
        refine dw_ret ?_
        rw [tz_eq]
        exact retv (N := 0) (.inr rfl) rfl (by repeat first | exact VLe.refl _ | exact VLe.nil _ | exact VLe.untag _ _ _ | refine VLe.ag ?_ | refine VLe.tu ?_ | refine VLeL.cons ?_ ?_ | exact VLeL.nil) (by repeat first | exact trivial | refine And.intro rfl ?_)
      | true =>
        rw [if_neg (by simp)] at hpd
        obtain ⟨hok1, hok2⟩ := hok rfl rfl
        have hat := hat hok1
        clear hok hok1
        refine dw_k [] TS2_ok (by kernel_rfl) hnt (by kernel_rfl) (by simp only [List.size_toArray, List.length_cons, List.length_nil, Nat.reduceAdd]; rfl) ?_
        intro K hK
        refine ⟨_, _, _, Or.inl (hsp), by repeat first | exact trivial | refine And.intro ⟨rfl, rfl⟩ ?_, ?_⟩
        refine hK _ _ ?_
        clear hK K
        refine dw_cond (t := false) rfl ?_
        rw [if_neg (by simp)]
        refine dw_skip ?_
        refine dw_seq ?_
        refine dw_k [(31, .v (.int .i64 m))] TS2_ok (by kernel_rfl) hnt (by kernel_rfl) (by simp only [List.size_toArray, List.length_cons, List.length_nil, Nat.reduceAdd]; rfl) ?_
        intro K hK
        refine And.intro (VLe.of_eq (by rw [eTys_len, ← wr_wrap, hm])) ?_
        refine hK _ _ ?_
        clear hK K
        refine dw_cut (τ := (.c 26 3, .v (.slice none 0 0)) :: sthE l ⟨s1.left, s1.dry, s1.count, 0⟩ bs k i a m) (N1 := 27) ?_ ?_
        · skip
          refine dw_k [] TS2_ok (by kernel_rfl) hnt (by kernel_rfl) (by simp only [List.size_toArray, List.length_cons, List.length_nil, Nat.reduceAdd]; rfl) ?_
          intro K hK
          refine hK _ _ ?_
          clear hK K
          exact cut_ok (VS.toK (by first | omega | simp [hn0]) (by repeat first | exact trivial | refine And.intro (And.intro (by first | rfl | simp [D.ok, D.oks, D.okss, D.okm, eTm_ok, eTy_ok, eTys_ok, eTms_ok, upto, keyOk, ePairs_ok]) (by first | exact Or.inl rfl | exact Or.inr ⟨_, rfl, (by repeat first | exact VLe.refl _ | exact VLe.nil _ | exact VLe.untag _ _ _ | refine VLe.ag ?_ | refine VLe.tu ?_ | refine VLeL.cons ?_ ?_ | exact VLeL.nil), trivial⟩ | simp [get, Key.eq, ePairs_ok])) ?_))
        · have hs1 : (⟨s1.left, s1.dry, s1.count, 0⟩ : Nm.St) = s1 := by rw [← hse]
          rw [hs1]
          dsimp only [sthE]
          refine dw_seq ?_
          refine dw_seq ?_
          refine dw_k [(39, .v (.int .i64 a.length))] TS2_ok (by kernel_rfl) hnt (by kernel_rfl) (by simp only [List.size_toArray, List.length_cons, List.length_nil, Nat.reduceAdd]; rfl) ?_
          intro K hK
          refine And.intro (dintE (by rw [eTms_len])) ?_
          refine hK _ _ ?_
          clear hK K
          refine dw_block ?_
          refine dw_loop (ι := Nat) (fun j => (.t 38, .sl 4 (eTms a) none) :: (.t 39, .v (.int .i64 a.length)) :: (.t 40, .v (.int .i64 j)) :: (.c 26 3, .sl 4 (eTms (Nm.seqM g (a.take j) s1).1) (some 31)) :: (.r 31, .rw 52 4 j) :: sthE l (Nm.seqM g (a.take j) s1).2 bs k i a m) 32 (fun j => a.length - j) 0 (VS.trans (VS.row (k := 26) (off := 3) 52 4 rfl) (VS.toK (by first | omega | simp [hn0]) (by repeat first | exact trivial | refine And.intro (And.intro (by first | rfl | simp [D.ok, D.oks, D.okss, D.okm, eTm_ok, eTy_ok, eTys_ok, eTms_ok, upto, keyOk, ePairs_ok]) (by first | exact Or.inl rfl | exact Or.inr ⟨_, rfl, (by repeat first | exact VLe.refl _ | exact VLe.nil _ | exact VLe.untag _ _ _ | refine VLe.ag ?_ | refine VLe.tu ?_ | refine VLeL.cons ?_ ?_ | exact VLeL.nil), trivial⟩ | simp [get, Key.eq, ePairs_ok])) ?_))) fun j => ?_
          dsimp only [sthE]
          have hst : InR (Nm.seqM g (a.take j) s1).2 := seqM_in _ (fun t _ s h => by rw [← hg]; exact through_in l t m s h) _ hsi
          have hll : (Nm.seqM g (a.take j) s1).1.length = (a.take j).length := Nm.seqM_length ..
          refine dw_seq ?_
          by_cases hlt : j < a.length
          · have hcon := ih a[j] (List.getElem_mem hlt) (w3 _ (List.getElem_mem hlt)) m (Nm.seqM g (a.take j) s1).2 hst (hat j hlt)
            have hg2 : Sb.through l a[j] m (Nm.seqM g (a.take j) s1).2 = g a[j] (Nm.seqM g (a.take j) s1).2 := by rw [← hg]
            rw [hg2] at hcon
            have hsq := Nm.seqM_take g a j hlt s1
            rw [eTm_eq, eTm_eq] at hcon
            refine dw_k [(41, .v (.bool true))] TS2_ok (by kernel_rfl) hnt (by kernel_rfl) (by simp only [List.size_toArray, List.length_cons, List.length_nil, Nat.reduceAdd]; rfl) ?_
            intro K hK
            refine And.intro (dtrue (by omega)) ?_
            refine hK _ _ ?_
            clear hK K
            refine dw_seq (dw_cond (t := true) rfl ?_)
            rw [if_pos rfl]
            refine dw_skip (dw_seq (dw_block (dw_seq ?_)))
            refine dw_k [(42, .q [.sl 2 (eTys a[j].binds) none, .v (.int .i64 a[j].kind), .v (.int .i64 a[j].index), .sl 4 (eTms a[j].args) none])] TS2_ok (by kernel_rfl) hnt (by kernel_rfl) (by simp only [List.size_toArray, List.length_cons, List.length_nil, Nat.reduceAdd]; rfl) ?_
            intro K hK
            refine And.intro (⟨by omega, by rw [eTms_len]; omega⟩) ?_
            refine And.intro (VLe.of_eq (by rw [Int.toNat_natCast, eTms_getD a j hlt, eTm_eq])) ?_
            refine hK _ _ ?_
            clear hK K
            refine dw_kD [(51, .sl 4 (eTms (Nm.seqM g (a.take (j + 1)) s1).1) (some 31))] TS2_ok (by kernel_rfl) hnt (by kernel_rfl) (by simp only [List.size_toArray, List.length_cons, List.length_nil, Nat.reduceAdd]; rfl) ?_
            intro K hK
            refine ⟨_, _, _, Or.inl (hcon), by repeat first | exact trivial | refine And.intro ⟨rfl, rfl⟩ ?_, ?_⟩
            refine And.intro (⟨by rw [eTms_len, hll, List.length_take]; omega, by rw [eTms_len, hll, List.length_take]; simp; omega⟩) ?_
            refine And.intro (VLe.of_eq (by rw [hsq, eTms_append, eTms, eTms, eTm_eq (g a[j] _).1])) ?_
            refine hK _ _ (by kernel_rfl) ?_
            clear hK K
            refine dw_k [(53, .v (.int .i64 ((j + 1 : Nat) : Int)))] TS2_ok (by kernel_rfl) hnt (by kernel_rfl) (by simp only [List.size_toArray, List.length_cons, List.length_nil, Nat.reduceAdd]; rfl) ?_
            intro K hK
            refine And.intro (dintE (by rw [IntWalk.i64_in _ (by omega)]; omega)) ?_
            refine hK _ _ ?_
            clear hK K
            refine ⟨j + 1, by omega, ?_⟩
            have hl2 : (eTms (Nm.seqM g (a.take j) s1).1).length = j := by rw [eTms_len, hll, List.length_take]; omega
            rw [hsq]
            exact (VS.toK (by first | omega | simp [hn0]) (by repeat first | exact trivial | refine And.intro (And.intro (by first | rfl | simp [D.ok, D.oks, D.okss, D.okm, eTm_ok, eTy_ok, eTys_ok, eTms_ok, upto, keyOk, hl2, ePairs_ok]) (by first | exact Or.inl rfl | exact Or.inr ⟨_, rfl, (by repeat first | exact VLe.refl _ | exact VLe.nil _ | exact VLe.untag _ _ _ | refine VLe.ag ?_ | refine VLe.tu ?_ | refine VLeL.cons ?_ ?_ | exact VLeL.nil), trivial⟩ | simp [get, Key.eq, hl2, ePairs_ok])) ?_))
          · rw [List.take_of_length_le (by omega)] at hst hll ⊢
            obtain ⟨q, hq⟩ : ∃ q, Nm.seqM g a s1 = q := ⟨_, rfl⟩
            rw [hq] at hst hll hpd hok2 ⊢
            clear hq
            obtain ⟨as', s2⟩ := q
            dsimp only at hst hll hpd hok2 ⊢
            have hen := eTms_len as'
            obtain ⟨left, dry, count, er⟩ := s2
            dsimp only at hst hpd hok2 ⊢
            refine dw_k [(41, .v (.bool false))] TS2_ok (by kernel_rfl) hnt (by kernel_rfl) (by simp only [List.size_toArray, List.length_cons, List.length_nil, Nat.reduceAdd]; rfl) ?_
            intro K hK
            refine And.intro (dfalse (by omega)) ?_
            refine hK _ _ ?_
            clear hK K
            refine dw_seq (dw_cond (t := false) rfl ?_)
            rw [if_neg (by simp)]
            refine dw_exit ?_
            refine dw_seq ?_
            refine dw_seq ?_
            by_cases hk : k ≠ 2
            · rw [if_pos (.inl hk)] at hpd
              subst hpd
              refine dw_k [(57, .v (.bool true))] TS2_ok (by kernel_rfl) hnt (by kernel_rfl) (by simp only [List.size_toArray, List.length_cons, List.length_nil, Nat.reduceAdd]; rfl) ?_
              intro K hK
              refine And.intro (VLe.of_eq (by simp [hk])) ?_
              refine hK _ _ ?_
              clear hK K
              refine dw_cond (t := true) rfl ?_
              rw [if_pos rfl]
              refine dw_seq ?_
              refine dw_k [] TS2_ok (by kernel_rfl) hnt (by kernel_rfl) (by simp only [List.size_toArray, List.length_cons, List.length_nil, Nat.reduceAdd]; rfl) ?_
              intro K hK
              refine hK _ _ ?_
              clear hK K
              refine dw_ret ?_
              rw [eTm_eq]
              exact retv (N := 0) (.inr rfl) rfl (by repeat first | exact VLe.refl _ | exact VLe.nil _ | exact VLe.untag _ _ _ | refine VLe.ag ?_ | refine VLe.tu ?_ | refine VLeL.cons ?_ ?_ | exact VLeL.nil) (by repeat first | exact trivial | refine And.intro rfl ?_)
            · have hk : k = 2 := by simpa using hk
              by_cases her : er ≠ 0
              · rw [if_pos (.inr her)] at hpd
                subst hpd
                refine dw_k [(57, .v (.bool false)), (63, .v (.bool true))] TS2_ok (by kernel_rfl) hnt (by kernel_rfl) (by simp only [List.size_toArray, List.length_cons, List.length_nil, Nat.reduceAdd]; rfl) ?_
                intro K hK
                refine And.intro (VLe.of_eq (by simp [hk])) ?_
                refine And.intro (VLe.of_eq (by simp [her])) ?_
                refine hK _ _ ?_
                clear hK K
                refine dw_cond (t := true) rfl ?_
                rw [if_pos rfl]
                refine dw_seq ?_
                refine dw_k [] TS2_ok (by kernel_rfl) hnt (by kernel_rfl) (by simp only [List.size_toArray, List.length_cons, List.length_nil, Nat.reduceAdd]; rfl) ?_
                intro K hK
                refine hK _ _ ?_
                clear hK K
                refine dw_ret ?_
                rw [eTm_eq]
                exact retv (N := 0) (.inr rfl) rfl (by repeat first | exact VLe.refl _ | exact VLe.nil _ | exact VLe.untag _ _ _ | refine VLe.ag ?_ | refine VLe.tu ?_ | refine VLeL.cons ?_ ?_ | exact VLeL.nil) (by repeat first | exact trivial | refine And.intro rfl ?_)
              · have her : er = 0 := by simpa using her
                rw [if_neg (fun h => h.elim (fun h => h hk) fun h => h her)] at hpd
                subst her
                have hok2 := hok2 hk rfl
                have hfind := sfind_d l hl i
                rw [Sb_find_idx] at hpd hok2
                refine dw_k [(57, .v (.bool false)), (63, .v (.bool false))] TS2_ok (by kernel_rfl) hnt (by kernel_rfl) (by simp only [List.size_toArray, List.length_cons, List.length_nil, Nat.reduceAdd]; rfl) ?_
                intro K hK
                refine And.intro (VLe.of_eq (by simp [hk])) ?_
                refine And.intro (VLe.refl _) ?_
                refine hK _ _ ?_
                clear hK K
                refine dw_cond (t := false) rfl ?_
                rw [if_neg (by simp)]
                refine dw_skip ?_
                refine dw_seq ?_
                cases hx : (idxOf i l).bind fun i => l[i]? with
                | none =>
                  rw [hx] at hfind hpd
                  dsimp only at hfind
                  simp only [Option.map_none] at hpd
                  subst hpd
                  refine dw_kD [] TS2_ok (by kernel_rfl) hnt (by kernel_rfl) (by simp only [List.size_toArray, List.length_cons, List.length_nil, Nat.reduceAdd]; rfl) ?_
                  intro K hK
                  refine ⟨_, _, _, Or.inl (hfind), by repeat first | exact trivial | refine And.intro ⟨rfl, rfl⟩ ?_, ?_⟩
                  refine hK _ _ (by kernel_rfl) ?_
                  clear hK K
                  refine dw_seq (dw_seq ?_)
                  refine dw_k [] TS2_ok (by kernel_rfl) hnt (by kernel_rfl) (by simp only [List.size_toArray, List.length_cons, List.length_nil, Nat.reduceAdd]; rfl) ?_
                  intro K hK
                  refine hK _ _ ?_
                  clear hK K
                  refine dw_cond (t := true) rfl ?_
                  rw [if_pos rfl]
                  refine dw_seq ?_
                  refine dw_k [] TS2_ok (by kernel_rfl) hnt (by kernel_rfl) (by simp only [List.size_toArray, List.length_cons, List.length_nil, Nat.reduceAdd]; rfl) ?_
                  intro K hK
                  refine hK _ _ ?_
                  clear hK K
                  refine dw_ret ?_
                  rw [eTm_eq]
                  exact retv (N := 0) (.inr rfl) rfl (by repeat first | exact VLe.refl _ | exact VLe.nil _ | exact VLe.untag _ _ _ | refine VLe.ag ?_ | refine VLe.tu ?_ | refine VLeL.cons ?_ ?_ | exact VLeL.nil) (by repeat first | exact trivial | refine And.intro rfl ?_)
                | some pr =>
                  rw [hx] at hfind hpd hok2
                  simp only [Option.map_some] at hpd hok2
                  obtain ⟨o1, o2, o3, o4⟩ := hok2 pr.2 rfl
                  have hgr := grown_d pr.2 o1 m 0
                  obtain ⟨v, hv⟩ : ∃ v, Nm.lift m pr.2 0 = v := ⟨_, rfl⟩
                  rw [hv] at hpd hgr o2 o4
                  have hrep := replaced_d l (.mk bs k i as') v ⟨left, dry, count, 0⟩ hst.1 hst.2 o2 o3 o4 rfl
                  rw [← hpd] at hrep
                  dsimp only at hfind
                  rw [ePair_eq] at hfind
                  rw [eTm_eq, eTm_eq] at hgr
                  rw [eTm_eq, eTm_eq, eTm_eq] at hrep
                  refine dw_kD [] TS2_ok (by kernel_rfl) hnt (by kernel_rfl) (by simp only [List.size_toArray, List.length_cons, List.length_nil, Nat.reduceAdd]; rfl) ?_
                  intro K hK
                  refine ⟨_, _, _, Or.inl (hfind), by repeat first | exact trivial | refine And.intro ⟨rfl, rfl⟩ ?_, ?_⟩
                  refine hK _ _ (by kernel_rfl) ?_
                  clear hK K
                  refine dw_seq (dw_seq ?_)
                  refine dw_k [] TS2_ok (by kernel_rfl) hnt (by kernel_rfl) (by simp only [List.size_toArray, List.length_cons, List.length_nil, Nat.reduceAdd]; rfl) ?_
                  intro K hK
                  refine hK _ _ ?_
                  clear hK K
                  refine dw_cond (t := false) rfl ?_
                  rw [if_neg (by simp)]
                  refine dw_skip ?_
                  refine dw_seq ?_
                  refine dw_kD [(78, .ag [.sl 2 (eTys bs) none, .v (.int .i64 k), .v (.int .i64 i), .sl 4 (eTms as') none])] TS2_ok (by kernel_rfl) hnt (by kernel_rfl) (by simp only [List.size_toArray, List.length_cons, List.length_nil, Nat.reduceAdd]; rfl) ?_
                  intro K hK
                  refine And.intro (by repeat first | exact VLe.refl _ | exact VLe.nil _ | exact VLe.untag _ _ _ | refine VLe.ag ?_ | refine VLe.tu ?_ | refine VLeL.cons ?_ ?_ | exact VLeL.nil) ?_
                  refine ⟨_, _, _, Or.inl (hgr), by repeat first | exact trivial | refine And.intro ⟨rfl, rfl⟩ ?_, ?_⟩
                  refine ⟨_, _, _, Or.inl (hrep), by repeat first | exact trivial | refine And.intro ⟨rfl, rfl⟩ ?_, ?_⟩
                  refine hK _ _ (by kernel_rfl) ?_
                  clear hK K
                  refine dw_ret ?_
                  rw [eTm_eq]
                  exact retv (N := 0) (.inr rfl) rfl (by repeat first | exact VLe.refl _ | exact VLe.nil _ | exact VLe.untag _ _ _ | refine VLe.ag ?_ | refine VLe.tu ?_ | refine VLeL.cons ?_ ?_ | exact VLeL.nil) (by repeat first | exact trivial | refine And.intro rfl ?_)
    · rw [if_pos he] at hpd
      subst hpd
      refine dw_k [(15, .v (.bool true))] TS2_ok (by kernel_rfl) hnt (by kernel_rfl) (by simp only [List.size_toArray, List.length_cons, List.length_nil, Nat.reduceAdd]; rfl) ?_
      intro K hK
      refine And.intro (VLe.of_eq (by simp [he])) ?_
      refine hK _ _ ?_
      clear hK K
      refine dw_cond (t := true) rfl ?_
      rw [if_pos rfl]
      refine dw_seq ?_
      refine dw_k [] TS2_ok (by kernel_rfl) hnt (by kernel_rfl) (by simp only [List.size_toArray, List.length_cons, List.length_nil, Nat.reduceAdd]; rfl) ?_
      intro K hK
      refine hK _ _ ?_
      clear hK K
      refine dw_ret ?_
      rw [tz_eq]
      exact retv (N := 0) (.inr rfl) rfl (by repeat first | exact VLe.refl _ | exact VLe.nil _ | exact VLe.untag _ _ _ | refine VLe.ag ?_ | refine VLe.tu ?_ | refine VLeL.cons ?_ ?_ | exact VLeL.nil) (by repeat first | exact trivial | refine And.intro rfl ?_)
end Go.Proofs.YtiblklcfjakjmaaGreat

namespace Go.Proofs.YtiblklcfjakjmaaGreat
open Go.RowKit

def swR (kw kb : Nat) (l : List (Int × Tm)) (s : Nm.St) : List (Key × D) := [(.c kw 0, .o kb), (.c kw 1, .sl 5 (ePairs l) none), (.c kw 2, .v (.int .i64 s.e)), (.o kb, .ob (BudJ s.left s.dry))]
theorem sthr_at (kw kb : Nat) (hk : kw ≠ kb) (l : List (Int × Tm)) (hl : l.length ≤ 1000000) (t : Tm) (ht : Wide t) (ins : Int) (s : Nm.St) (hs : InR s) (ho : thOk l t ins s) :
    CallC Tryz.prog 85 [.p kw 0, .ag (eTm t), .v (.int .i64 ins)] (swR kw kb l s) (swR kw kb l (Sb.through l t ins s).2) (.ag (eTm (Sb.through l t ins s).1)) := by
  have h := (sthr_d l hl t ht ins s hs ho).ren (ren2 kw kb) (by simp [renOk, swE, D.ok, D.oks, rnames, inN, ckey, eTm_ok, eTms_ok, eTys_ok, ePairs_ok]) (by
    intro k h1 k' h2
    simp [rnames, swE] at h1 h2
    rcases h1 with rfl | rfl <;> rcases h2 with rfl | rfl <;> simp [ren2, hk, hk.symm])
  simpa [D.ren, eTm_ren, eTms_ren, ePairs_ren, swE, swR, renE, Key.ren, ren2] using h

theorem app_1 {l : List (Int × Tm)} {t : Tm} {left : Int} {dry : Bool} (h : Sb.right l = false) : Sb.apply l t left dry = (Nm.tz, ⟨left, dry, 0, 1⟩) := if_pos h
theorem app_2 {l : List (Int × Tm)} {t : Tm} {left : Int} {dry : Bool} (h : Sb.right l = true) : Sb.apply l t left dry =
    (let r := Sb.through l t 0 ⟨left, dry, 0, 0⟩; let s : Nm.St := if r.2.e = 0 ∧ ¬ (r.1.size ≤ 5000 ∧ r.1.depth ≤ 60) then { r.2 with e := 2 } else r.2; if s.e ≠ 0 then (Nm.tz, s) else (r.1, s)) := if_neg (by rw [h]; simp)
def endA (t : Tm) (s : Nm.St) : Tm × Nm.St := let s' : Nm.St := if s.e = 0 ∧ ¬ (t.size ≤ 5000 ∧ t.depth ≤ 60) then { s with e := 2 } else s; if s'.e ≠ 0 then (Nm.tz, s') else (t, s')
theorem end_1 {t : Tm} (h : t.size ≤ 5000 ∧ t.depth ≤ 60) (l : Int) (d : Bool) (c : Int) : endA t ⟨l, d, c, 0⟩ = (t, ⟨l, d, c, 0⟩) := by
  have : ¬ ((0 : Int) = 0 ∧ ¬ (t.size ≤ 5000 ∧ t.depth ≤ 60)) := fun h' => h'.2 h
  unfold endA; dsimp only; rw [if_neg this]; simp
theorem end_2 {t : Tm} (h : ¬ (t.size ≤ 5000 ∧ t.depth ≤ 60)) (l : Int) (d : Bool) (c : Int) : endA t ⟨l, d, c, 0⟩ = (Nm.tz, ⟨l, d, c, 2⟩) := by
  have : (0 : Int) = 0 ∧ ¬ (t.size ≤ 5000 ∧ t.depth ≤ 60) := ⟨rfl, h⟩
  unfold endA; dsimp only; rw [if_pos this]; rfl
theorem end_3 {t : Tm} {e : Int} (h : e ≠ 0) (l : Int) (d : Bool) (c : Int) : endA t ⟨l, d, c, e⟩ = (Nm.tz, ⟨l, d, c, e⟩) := by
  have : ¬ (e = 0 ∧ ¬ (t.size ≤ 5000 ∧ t.depth ≤ 60)) := fun h' => h h'.1
  unfold endA; dsimp only; rw [if_neg this]; exact if_pos h

set_option maxHeartbeats 1000000 in
theorem apply_d (l : List (Int × Tm)) (hl : l.length ≤ 1000000) (t : Tm) (ht : Wide t) (left : Int) (dry : Bool) (h0 : 0 ≤ left ∧ left ≤ 1000000000) (ho : Sb.right l = true → thOk l t 0 ⟨left, dry, 0, 0⟩ ∧ ((Sb.through l t 0 ⟨left, dry, 0, 0⟩).2.e = 0 → DoneOk (Sb.through l t 0 ⟨left, dry, 0, 0⟩).1)) :
    CallC Tryz.prog 41 [.sl 5 (ePairs l) none, .ag (eTm t), .o 1] [(.o 1, .ob (BudJ left dry))] [(.o 1, .ob (BudJ (Sb.apply l t left dry).2.left (Sb.apply l t left dry).2.dry))] (.tu [.ag (eTm (Sb.apply l t left dry).1), .v (.int .i64 (Sb.apply l t left dry).2.e)]) := by
  obtain ⟨p, hp⟩ : ∃ p, Sb.apply l t left dry = p := ⟨_, rfl⟩
  rw [hp]
  have hrt := sright_d l hl
  have hth := fun h => sthr_at 15 1 (by decide) l hl t ht 0 ⟨left, dry, 0, 0⟩ h0 (ho h).1
  rw [eTm_eq t] at hth ⊢
  refine call_of_dw 2 50 [ResultVar.cell 6 52, ResultVar.tmp 7] TS2_ok (by kernel_rfl) Tryz.func41 rfl Tryz.ntmps41 rfl (by simp) ?dwords ?dbody
  case dwords => simp [wordsOk, D.ok, D.oks, rnames, inN, ckey, eTm_ok, eTms_ok, eTys_ok, ePairs_ok]
  case dbody =>
    intro cx hnt hn0
    refine dw_seq ?_
    refine dw_k [] TS2_ok (by kernel_rfl) hnt (by kernel_rfl) (by simp only [List.size_toArray, List.length_cons, List.length_nil, Nat.reduceAdd]; rfl) ?_
    intro K hK
    refine hK _ _ ?_
    clear hK K
    refine dw_seq (dw_seq ?_)
    cases hr : Sb.right l with
    | false =>
      rw [hr] at hrt
      rw [app_1 hr] at hp
      subst hp
      refine dw_k [] TS2_ok (by kernel_rfl) hnt (by kernel_rfl) (by simp only [List.size_toArray, List.length_cons, List.length_nil, Nat.reduceAdd]; rfl) ?_
      intro K hK
      refine ⟨_, _, _, Or.inl (hrt), by repeat first | exact trivial | refine And.intro ⟨rfl, rfl⟩ ?_, ?_⟩
      refine hK _ _ ?_
      clear hK K
      refine dw_cond (t := true) rfl ?_
      rw [if_pos rfl]
      refine dw_seq ?_
      refine dw_k [] TS2_ok (by kernel_rfl) hnt (by kernel_rfl) (by simp only [List.size_toArray, List.length_cons, List.length_nil, Nat.reduceAdd]; rfl) ?_
      intro K hK
      refine hK _ _ ?_
      clear hK K
      refine dw_ret ?_
      rw [tz_eq]
      exact retv (N := 0) (.inr rfl) rfl (by repeat first | exact VLe.refl _ | exact VLe.nil _ | exact VLe.untag _ _ _ | refine VLe.ag ?_ | refine VLe.tu ?_ | refine VLeL.cons ?_ ?_ | exact VLeL.nil) (by repeat first | exact trivial | refine And.intro rfl ?_)
    | true =>
      rw [hr] at hrt
      have ho := (ho hr).2
      have hth := hth hr
      rw [app_2 hr] at hp
      obtain ⟨r, hrr⟩ : ∃ r, Sb.through l t 0 ⟨left, dry, 0, 0⟩ = r := ⟨_, rfl⟩
      rw [hrr] at hp ho hth
      have hp : endA r.1 r.2 = p := hp
      clear hrr
      obtain ⟨u, s1⟩ := r
      obtain ⟨left', dry', count, er⟩ := s1
      dsimp only at hp ho hth
      refine dw_k [] TS2_ok (by kernel_rfl) hnt (by kernel_rfl) (by simp only [List.size_toArray, List.length_cons, List.length_nil, Nat.reduceAdd]; rfl) ?_
      intro K hK
      refine ⟨_, _, _, Or.inl (hrt), by repeat first | exact trivial | refine And.intro ⟨rfl, rfl⟩ ?_, ?_⟩
      refine hK _ _ ?_
      clear hK K
      refine dw_cond (t := false) rfl ?_
      rw [if_neg (by simp)]
      refine dw_skip ?_
      refine dw_seq ?_
      refine dw_k [] TS2_ok (by kernel_rfl) hnt (by kernel_rfl) (by simp only [List.size_toArray, List.length_cons, List.length_nil, Nat.reduceAdd]; rfl) ?_
      intro K hK
      refine hK _ _ ?_
      clear hK K
      refine dw_seq ?_
      have hru : er = 0 → PureC Tryz.prog 82 [.ag (eTm u)] (.v (.bool (decide (u.size ≤ 5000 ∧ u.depth ≤ 60)))) := fun h => right_d u (ho h).right
      have hcu : er = 0 → (u.size ≤ 5000 ∧ u.depth ≤ 60) → PureC Tryz.prog 61 [.ag (eTm u)] (.ag (eTm u)) := fun h h' => copy_d u ((ho h).copy h').1 ((ho h).copy h').2
      rw [eTm_eq u] at hth hru hcu
      refine dw_k [] TS2_ok (by kernel_rfl) hnt (by kernel_rfl) (by simp only [List.size_toArray, List.length_cons, List.length_nil, Nat.reduceAdd]; rfl) ?_
      intro K hK
      refine ⟨_, _, _, Or.inl (hth), by repeat first | exact trivial | refine And.intro ⟨rfl, rfl⟩ ?_, ?_⟩
      refine hK _ _ ?_
      clear hK K
      refine dw_seq (dw_seq ?_)
      by_cases he : er = 0
      · subst he
        have hru := hru rfl
        by_cases hR : u.size ≤ 5000 ∧ u.depth ≤ 60
        · have hcu := hcu rfl hR
          rw [end_1 hR] at hp
          subst hp
          rw [decide_eq_true hR] at hru
          refine dw_k [(29, .v (.bool true))] TS2_ok (by kernel_rfl) hnt (by kernel_rfl) (by simp only [List.size_toArray, List.length_cons, List.length_nil, Nat.reduceAdd]; rfl) ?_
          intro K hK
          refine And.intro (VLe.refl _) ?_
          refine ⟨_, _, _, Or.inl (hru), by repeat first | exact trivial | refine And.intro ⟨rfl, rfl⟩ ?_, ?_⟩
          refine hK _ _ ?_
          clear hK K
          refine dw_cond (t := false) rfl ?_
          rw [if_neg (by simp)]
          refine dw_skip ?_
          refine dw_seq (dw_seq ?_)
          refine dw_k [(42, .v (.bool false))] TS2_ok (by kernel_rfl) hnt (by kernel_rfl) (by simp only [List.size_toArray, List.length_cons, List.length_nil, Nat.reduceAdd]; rfl) ?_
          intro K hK
          refine And.intro (VLe.refl _) ?_
          refine hK _ _ ?_
          clear hK K
          refine dw_cond (t := false) rfl ?_
          rw [if_neg (by simp)]
          refine dw_skip ?_
          refine dw_seq ?_
          refine dw_k [] TS2_ok (by kernel_rfl) hnt (by kernel_rfl) (by simp only [List.size_toArray, List.length_cons, List.length_nil, Nat.reduceAdd]; rfl) ?_
          intro K hK
          refine ⟨_, _, _, Or.inl (hcu), by repeat first | exact trivial | refine And.intro ⟨rfl, rfl⟩ ?_, ?_⟩
          refine hK _ _ ?_
          clear hK K
          refine dw_ret ?_
          rw [eTm_eq]
          exact retv (N := 0) (.inr rfl) rfl (by repeat first | exact VLe.refl _ | exact VLe.nil _ | exact VLe.untag _ _ _ | refine VLe.ag ?_ | refine VLe.tu ?_ | refine VLeL.cons ?_ ?_ | exact VLeL.nil) (by repeat first | exact trivial | refine And.intro rfl ?_)
        · rw [end_2 hR] at hp
          subst hp
          rw [decide_eq_false hR] at hru
          refine dw_k [(29, .v (.bool true))] TS2_ok (by kernel_rfl) hnt (by kernel_rfl) (by simp only [List.size_toArray, List.length_cons, List.length_nil, Nat.reduceAdd]; rfl) ?_
          intro K hK
          refine And.intro (VLe.refl _) ?_
          refine ⟨_, _, _, Or.inl (hru), by repeat first | exact trivial | refine And.intro ⟨rfl, rfl⟩ ?_, ?_⟩
          refine hK _ _ ?_
          clear hK K
          refine dw_cond (t := true) rfl ?_
          rw [if_pos rfl]
          refine dw_k [] TS2_ok (by kernel_rfl) hnt (by kernel_rfl) (by simp only [List.size_toArray, List.length_cons, List.length_nil, Nat.reduceAdd]; rfl) ?_
          intro K hK
          refine hK _ _ ?_
          clear hK K
          refine dw_seq (dw_seq ?_)
          refine dw_k [(42, .v (.bool true))] TS2_ok (by kernel_rfl) hnt (by kernel_rfl) (by simp only [List.size_toArray, List.length_cons, List.length_nil, Nat.reduceAdd]; rfl) ?_
          intro K hK
          refine And.intro (VLe.refl _) ?_
          refine hK _ _ ?_
          clear hK K
          refine dw_cond (t := true) rfl ?_
          rw [if_pos rfl]
          refine dw_seq ?_
          refine dw_kD [] TS2_ok (by kernel_rfl) hnt (by kernel_rfl) (by simp only [List.size_toArray, List.length_cons, List.length_nil, Nat.reduceAdd]; rfl) ?_
          intro K hK
          refine hK _ _ (by kernel_rfl) ?_
          clear hK K
          refine dw_ret ?_
          rw [tz_eq]
          exact retv (N := 0) (.inr rfl) rfl (by repeat first | exact VLe.refl _ | exact VLe.nil _ | exact VLe.untag _ _ _ | refine VLe.ag ?_ | refine VLe.tu ?_ | refine VLeL.cons ?_ ?_ | exact VLeL.nil) (by repeat first | exact trivial | refine And.intro rfl ?_)
      · rw [end_3 he] at hp
        subst hp
        refine dw_k [(29, .v (.bool false))] TS2_ok (by kernel_rfl) hnt (by kernel_rfl) (by simp only [List.size_toArray, List.length_cons, List.length_nil, Nat.reduceAdd]; rfl) ?_
        intro K hK
        refine And.intro (VLe.of_eq (by simp [he])) ?_
        refine hK _ _ ?_
        clear hK K
        refine dw_cond (t := false) rfl ?_
        rw [if_neg (by simp)]
        refine dw_skip ?_
        refine dw_seq (dw_seq ?_)
        refine dw_k [(42, .v (.bool true))] TS2_ok (by kernel_rfl) hnt (by kernel_rfl) (by simp only [List.size_toArray, List.length_cons, List.length_nil, Nat.reduceAdd]; rfl) ?_
        intro K hK
        refine And.intro (VLe.of_eq (by simp [he])) ?_
        refine hK _ _ ?_
        clear hK K
        refine dw_cond (t := true) rfl ?_
        rw [if_pos rfl]
        refine dw_seq ?_
        refine dw_kD [] TS2_ok (by kernel_rfl) hnt (by kernel_rfl) (by simp only [List.size_toArray, List.length_cons, List.length_nil, Nat.reduceAdd]; rfl) ?_
        intro K hK
        refine hK _ _ (by kernel_rfl) ?_
        clear hK K
        refine dw_ret ?_
        rw [tz_eq]
        exact retv (N := 0) (.inr rfl) rfl (by repeat first | exact VLe.refl _ | exact VLe.nil _ | exact VLe.untag _ _ _ | refine VLe.ag ?_ | refine VLe.tu ?_ | refine VLeL.cons ?_ ?_ | exact VLeL.nil) (by repeat first | exact trivial | refine And.intro rfl ?_)
end Go.Proofs.YtiblklcfjakjmaaGreat

namespace Go.Proofs.YtiblklcfjakjmaaGreat
open Go.RowKit
def TK9_52 : TI := ⟨4, true, [Value.slice none 0 0, Value.int IntKind.i64 0, Value.int IntKind.i64 0, Value.slice none 0 0], [(0, 1, false), (1, 2, true), (3, 1, false)], none, 64, 6, none⟩
theorem TK9_52_ok : TypOk Tryz.prog 52 TK9_52 := ⟨by kernel_rfl, by kernel_rfl, by kernel_rfl, by kernel_rfl⟩
def TK9_50 : TI := ⟨1, false, [Value.slice none 0 0], [], some 52, 24, 5, none⟩
theorem TK9_50_ok : TypOk Tryz.prog 50 TK9_50 := ⟨by kernel_rfl, by kernel_rfl, by kernel_rfl, by kernel_rfl⟩
def TK9_77 : TI := ⟨2, true, [Value.slice none 0 0, Value.int IntKind.i64 0], [(0, 1, false), (1, 1, false)], none, 32, 6, none⟩
theorem TK9_77_ok : TypOk Tryz.prog 77 TK9_77 := ⟨by kernel_rfl, by kernel_rfl, by kernel_rfl, by kernel_rfl⟩
def TK9_49 : TI := ⟨2, true, [Value.int IntKind.i64 0, Value.int IntKind.i64 0], [(0, 1, false), (1, 1, false)], none, 16, 6, none⟩
theorem TK9_49_ok : TypOk Tryz.prog 49 TK9_49 := ⟨by kernel_rfl, by kernel_rfl, by kernel_rfl, by kernel_rfl⟩
def TK9_34 : TI := ⟨1, false, [Value.slice none 0 0], [], some 77, 24, 5, none⟩
theorem TK9_34_ok : TypOk Tryz.prog 34 TK9_34 := ⟨by kernel_rfl, by kernel_rfl, by kernel_rfl, by kernel_rfl⟩
def TK9_30 : TI := ⟨1, false, [Value.slice none 0 0], [], some 99, 24, 5, none⟩
theorem TK9_30_ok : TypOk Tryz.prog 30 TK9_30 := ⟨by kernel_rfl, by kernel_rfl, by kernel_rfl, by kernel_rfl⟩
def TK9_3 : TI := ⟨1, false, [Value.int IntKind.i64 0], [], none, 8, 2, none⟩
theorem TK9_3_ok : TypOk Tryz.prog 3 TK9_3 := ⟨by kernel_rfl, by kernel_rfl, by kernel_rfl, by kernel_rfl⟩
def TK9_99 : TI := ⟨5, true, [Value.int IntKind.i64 0, Value.slice none 0 0, Value.int IntKind.i64 0, Value.int IntKind.i64 0, Value.slice none 0 0], [(0, 1, false), (1, 4, true)], none, 72, 6, none⟩
theorem TK9_99_ok : TypOk Tryz.prog 99 TK9_99 := ⟨by kernel_rfl, by kernel_rfl, by kernel_rfl, by kernel_rfl⟩
def TK9_32 : TI := ⟨1, false, [Value.int IntKind.i64 0], [], none, 8, 2, none⟩
theorem TK9_32_ok : TypOk Tryz.prog 32 TK9_32 := ⟨by kernel_rfl, by kernel_rfl, by kernel_rfl, by kernel_rfl⟩
def TK9_85 : TI := ⟨1, false, [Value.pointer none], [], none, 8, 4, none⟩
theorem TK9_85_ok : TypOk Tryz.prog 85 TK9_85 := ⟨by kernel_rfl, by kernel_rfl, by kernel_rfl, by kernel_rfl⟩
def TK9 : List (Nat × TI) := [(52, TK9_52), (50, TK9_50), (77, TK9_77), (49, TK9_49), (34, TK9_34), (30, TK9_30), (3, TK9_3), (99, TK9_99), (32, TK9_32), (85, TK9_85)]
theorem TK9_ok : TabOk Tryz.prog TK9 := (((((((((((TabOk.nil _).cons TK9_85_ok).cons TK9_32_ok).cons TK9_99_ok).cons TK9_3_ok).cons TK9_30_ok).cons TK9_34_ok).cons TK9_49_ok).cons TK9_77_ok).cons TK9_50_ok).cons TK9_52_ok)

theorem kA_fit : ∀ t : Tm, t.full ≤ 100 → t.Fit → DoneOk t := fun t h hf => ⟨by omega, fun _ => ⟨by omega, hf⟩⟩
theorem wide_leaf (b : List Ty) (k i : Int) (h : b.length ≤ 100000) : Wide (.mk b k i []) := .mk _ _ _ _ h (by simp) fun t h => by cases h
theorem wide_one (b : List Ty) (k i : Int) (t : Tm) (h : b.length ≤ 100000) (ht : Wide t) : Wide (.mk b k i [t]) := .mk _ _ _ _ h (by simp) fun u h => by
  simp at h; subst h; exact ht
theorem kZ_wide : Wide Sb.kZ := wide_leaf _ _ _ (by decide)
theorem kF_wide : Wide Sb.kF := wide_one _ _ _ _ (by decide) (wide_leaf _ _ _ (by decide))
theorem k_q1 : Sb.throughs [(0, Sb.kF)] [Sb.kZ] 0 ⟨18, false, 0, 0⟩ = ([Sb.kZ], ⟨17, false, 0, 0⟩) := by kernel_rfl
theorem k_q2 : Sb.throughs [(0, Sb.kF)] [Sb.kX [Sb.kZ]] 0 ⟨19, false, 0, 0⟩ = ([Sb.kC [Sb.kZ]], ⟨14, false, 0, 0⟩) := by kernel_rfl
theorem k_p1 : (Nm.put 100001 Sb.kF [Sb.kZ] ⟨17, false, 0, 0⟩).1 = Sb.kC [Sb.kZ] := by kernel_rfl
theorem k_p2 : (Nm.put 100001 Sb.kF [Sb.kC [Sb.kZ]] ⟨14, false, 0, 0⟩).1 = Sb.kC [Sb.kC [Sb.kZ]] := by kernel_rfl
theorem k_t : Sb.through [(0, Sb.kF)] (Sb.kX [Sb.kX [Sb.kZ]]) 0 ⟨20, false, 0, 0⟩ = (Sb.kC [Sb.kC [Sb.kZ]], ⟨(Sb.through [(0, Sb.kF)] (Sb.kX [Sb.kX [Sb.kZ]]) 0 ⟨20, false, 0, 0⟩).2.left, false, 0, 0⟩) := by kernel_rfl
theorem k_find {u : Tm} (h : Sb.find [(0, Sb.kF)] 0 = some u) : u = Sb.kF := by
  have : Sb.find [(0, Sb.kF)] 0 = some Sb.kF := by rfl
  rw [this] at h; cases h; rfl
theorem kZ_fit : Sb.kZ.Fit := .mk _ _ _ _ (by decide) (by decide) fun t h => by cases h
theorem kC_fit (t : Tm) (h : t.Fit) : (Sb.kC [t]).Fit := .mk _ _ _ _ (by decide) (by decide) fun u hu => by
  simp at hu; subst hu; exact h
theorem k_done1 : DoneOk (Sb.kC [Sb.kZ]) := kA_fit _ (by decide) (kC_fit _ kZ_fit)
theorem k_done2 : DoneOk (Sb.kC [Sb.kC [Sb.kZ]]) := kA_fit _ (by decide) (kC_fit _ (kC_fit _ kZ_fit))
theorem k_rep1 : repOk [(0, Sb.kF)] 2 0 0 (Sb.throughs [(0, Sb.kF)] [Sb.kZ] 0 ⟨18, false, 0, 0⟩) := by
  rw [k_q1]
  intro _ _ u hu
  have := k_find hu; subst this
  have hl : Nm.lift 0 Sb.kF 0 = Sb.kF := by kernel_rfl
  rw [hl]
  refine ⟨kF_wide, kF_wide, fun a h => by simp at h; subst h; exact kZ_wide, fun _ _ => ?_⟩
  dsimp only
  rw [k_p1]; exact k_done1
theorem k_rep2 : repOk [(0, Sb.kF)] 2 0 0 (Sb.throughs [(0, Sb.kF)] [Sb.kX [Sb.kZ]] 0 ⟨19, false, 0, 0⟩) := by
  rw [k_q2]
  intro _ _ u hu
  have := k_find hu; subst this
  have hl : Nm.lift 0 Sb.kF 0 = Sb.kF := by kernel_rfl
  rw [hl]
  refine ⟨kF_wide, kF_wide, fun a h => by simp at h; subst h; exact wide_one _ _ _ _ (by decide) kZ_wide, fun _ _ => ?_⟩
  dsimp only
  rw [k_p2]; exact k_done2
theorem k_th : thOk [(0, Sb.kF)] (Sb.kX [Sb.kX [Sb.kZ]]) 0 ⟨20, false, 0, 0⟩ := by
  have hz : thOk [(0, Sb.kF)] Sb.kZ 0 ⟨18, false, 0, 0⟩ := by
    rw [Sb.kZ, thOk]
    intro _ _
    exact ⟨by rw [thOks]; trivial, fun h => by cases h⟩
  have hx : thOk [(0, Sb.kF)] (Sb.kX [Sb.kZ]) 0 ⟨19, false, 0, 0⟩ := by
    rw [Sb.kX, thOk]
    intro _ _
    have e : Nm.wr (0 + (([] : List Ty).length : Int)) = 0 := by kernel_rfl
    have e2 : (Nm.spend ⟨19, false, 0, 0⟩).2 = ⟨18, false, 0, 0⟩ := by kernel_rfl
    rw [e, e2]
    exact ⟨by rw [thOks, thOks]; exact ⟨hz, trivial⟩, k_rep1⟩
  rw [Sb.kX, thOk]
  intro _ _
  have e : Nm.wr (0 + (([] : List Ty).length : Int)) = 0 := by kernel_rfl
  have e2 : (Nm.spend ⟨20, false, 0, 0⟩).2 = ⟨19, false, 0, 0⟩ := by kernel_rfl
  rw [e, e2]
  exact ⟨by rw [thOks, thOks]; exact ⟨hx, trivial⟩, k_rep2⟩
theorem apply_at (kb : Nat) (l : List (Int × Tm)) (hl : l.length ≤ 1000000) (t : Tm) (ht : Wide t) (left : Int) (dry : Bool) (h0 : 0 ≤ left ∧ left ≤ 1000000000) (ho : Sb.right l = true → thOk l t 0 ⟨left, dry, 0, 0⟩ ∧ ((Sb.through l t 0 ⟨left, dry, 0, 0⟩).2.e = 0 → DoneOk (Sb.through l t 0 ⟨left, dry, 0, 0⟩).1)) :
    CallC Tryz.prog 41 [.sl 5 (ePairs l) none, .ag (eTm t), .o kb] [(.o kb, .ob (BudJ left dry))] [(.o kb, .ob (BudJ (Sb.apply l t left dry).2.left (Sb.apply l t left dry).2.dry))] (.tu [.ag (eTm (Sb.apply l t left dry).1), .v (.int .i64 (Sb.apply l t left dry).2.e)]) := by
  have h := (apply_d l hl t ht left dry h0 ho).ren (fun _ => kb) (by simp [renOk, D.ok, D.oks, rnames, inN, ckey, eTm_ok, ePairs_ok]) (by
    intro k h1 k' h2 _
    simp [rnames] at h1 h2
    rw [h1, h2])
  simpa [D.ren, D.rens, eTm_ren, ePairs_ren, renE, Key.ren] using h
theorem equal_d (t : Tm) : PureC Tryz.prog 43 [.ag (eTm t), .ag (eTm t)] (.v (.bool true)) := by
  refine pure_below (by kernel_rfl) fun m Im w vs hv => ?_
  match vs, hv with
  | [x, y], hv =>
    obtain ⟨b, k, i, a, rfl, ht⟩ := agTm hv.1
    obtain ⟨b', k', i', a', rfl, ht'⟩ := agTm hv.2.1
    refine (equal6_k t _ _ _ _ _ _ ht _ _ _ _ _ _ t ht' w (Keep.refl _ _) (Keep.refl _ _)).mono ?_
    rintro e w' ⟨b, hb, rfl, h2⟩
    rw [hb.2 rfl]
    exact ⟨_, rfl, h2, fun Im' _ hI => .v _⟩
theorem kindOf_d : PureC Tryz.prog 53 [.v (.int .i64 0), .v (.slice none 0 0)] (.ag (eTy Sb.kA)) := by
  refine pure_below (by kernel_rfl) fun m Im w vs hv => ?_
  match vs, hv with
  | [x, y], hv =>
    have := rel_v.1 hv.1; subst this
    have := rel_v.1 hv.2.1; subst this
    refine (of_k 0 (isSl_nil rpTy (fun _ => True) w) (by decide)).mono ?_
    rintro e w' ⟨s, b, rfl, h1, h2⟩
    exact ⟨_, rfl, h2, fun Im' _ hI => rel_ag.2 ⟨_, rfl, rel_of_ty (fun b o v hb hc => hI b o v hb hc) _ h1⟩⟩
theorem k1_d (l : List Tm) : PureC Tryz.prog 54 [.sl 4 (eTms l) none] (.ag (eTm (Sb.kC l))) := by
  refine call_of_dw 0 6 [ResultVar.cell 2 52] TK9_ok (by kernel_rfl) Tryz.func54 rfl Tryz.ntmps54 rfl (by simp) ?dwords ?dbody
  case dwords => simp [wordsOk, D.ok, D.oks, rnames, eTm_ok, eTms_ok]
  case dbody =>
    intro cx hnt hn0
    refine dw_seq ?_
    refine dw_k [] TK9_ok (by kernel_rfl) hnt (by kernel_rfl) (by simp only [List.size_toArray, List.length_cons, List.length_nil, Nat.reduceAdd]; rfl) ?_
    intro K hK
    refine hK _ _ ?_
    clear hK K
    refine dw_seq ?_
    refine dw_k [] TK9_ok (by kernel_rfl) hnt (by kernel_rfl) (by simp only [List.size_toArray, List.length_cons, List.length_nil, Nat.reduceAdd]; rfl) ?_
    intro K hK
    refine hK _ _ ?_
    clear hK K
    refine dw_ret ?_
    exact retv (N := 0) (.inr rfl) rfl (by repeat first | exact VLe.refl _ | exact VLe.nil _ | exact VLe.untag _ _ _ | refine VLe.ag ?_ | refine VLe.tu ?_ | refine VLeL.cons ?_ ?_ | exact VLeL.nil) trivial
theorem k2_d (l : List Tm) : PureC Tryz.prog 55 [.sl 4 (eTms l) none] (.ag (eTm (Sb.kX l))) := by
  refine call_of_dw 0 6 [ResultVar.cell 2 52] TK9_ok (by kernel_rfl) Tryz.func55 rfl Tryz.ntmps55 rfl (by simp) ?dwords ?dbody
  case dwords => simp [wordsOk, D.ok, D.oks, rnames, eTm_ok, eTms_ok]
  case dbody =>
    intro cx hnt hn0
    refine dw_seq ?_
    refine dw_k [] TK9_ok (by kernel_rfl) hnt (by kernel_rfl) (by simp only [List.size_toArray, List.length_cons, List.length_nil, Nat.reduceAdd]; rfl) ?_
    intro K hK
    refine hK _ _ ?_
    clear hK K
    refine dw_seq ?_
    refine dw_k [] TK9_ok (by kernel_rfl) hnt (by kernel_rfl) (by simp only [List.size_toArray, List.length_cons, List.length_nil, Nat.reduceAdd]; rfl) ?_
    intro K hK
    refine hK _ _ ?_
    clear hK K
    refine dw_ret ?_
    exact retv (N := 0) (.inr rfl) rfl (by repeat first | exact VLe.refl _ | exact VLe.nil _ | exact VLe.untag _ _ _ | refine VLe.ag ?_ | refine VLe.tu ?_ | refine VLeL.cons ?_ ?_ | exact VLeL.nil) trivial
set_option maxHeartbeats 1000000 in
theorem known09_d : PureC Tryz.prog 10 [] (.v (.bool true)) := by
  have hap := fun kb => apply_at kb [(0, Sb.kF)] (by decide) (Sb.kX [Sb.kX [Sb.kZ]]) (wide_one _ _ _ _ (by decide) (wide_one _ _ _ _ (by decide) kZ_wide)) 20 false ⟨by decide, by decide⟩ fun _ => ⟨k_th, fun _ => by rw [k_t]; exact k_done2⟩
  rw [Sb.known_is, Sb.known_ok] at hap
  obtain ⟨bl, hbl⟩ : ∃ bl, (Sb.apply [(0, Sb.kF)] (Sb.kX [Sb.kX [Sb.kZ]]) 20 false).2 = bl := ⟨_, rfl⟩
  rw [hbl] at hap
  clear hbl
  have hof := kindOf_d
  refine call_of_dw 0 46 [ResultVar.tmp 0] TK9_ok (by kernel_rfl) Tryz.func10 rfl Tryz.ntmps10 rfl (by simp) ?dwords ?dbody
  case dwords => rfl
  case dbody =>
    intro cx hnt hn0
    refine dw_seq ?_
    refine dw_k [] TK9_ok (by kernel_rfl) hnt (by kernel_rfl) (by simp only [List.size_toArray, List.length_cons, List.length_nil, Nat.reduceAdd]; rfl) ?_
    intro K hK
    refine hK _ _ ?_
    clear hK K
    refine dw_seq ?_
    refine dw_k [] TK9_ok (by kernel_rfl) hnt (by kernel_rfl) (by simp only [List.size_toArray, List.length_cons, List.length_nil, Nat.reduceAdd]; rfl) ?_
    intro K hK
    refine ⟨_, _, _, Or.inl (hof), by repeat first | exact trivial | refine And.intro ⟨rfl, rfl⟩ ?_, ?_⟩
    refine hK _ _ ?_
    clear hK K
    refine dw_seq ?_
    refine dw_k [] TK9_ok (by kernel_rfl) hnt (by kernel_rfl) (by simp only [List.size_toArray, List.length_cons, List.length_nil, Nat.reduceAdd]; rfl) ?_
    intro K hK
    refine hK _ _ ?_
    clear hK K
    refine dw_seq ?_
    refine dw_k [] TK9_ok (by kernel_rfl) hnt (by kernel_rfl) (by simp only [List.size_toArray, List.length_cons, List.length_nil, Nat.reduceAdd]; rfl) ?_
    intro K hK
    refine hK _ _ ?_
    clear hK K
    refine dw_seq ?_
    refine dw_k [] TK9_ok (by kernel_rfl) hnt (by kernel_rfl) (by simp only [List.size_toArray, List.length_cons, List.length_nil, Nat.reduceAdd]; rfl) ?_
    intro K hK
    refine hK _ _ ?_
    clear hK K
    refine dw_seq ?_
    refine dw_k [(12, .ag [.sl 2 [] none, .v (.int .i64 0), .v (.int .i64 0), .sl 4 [] none]), (13, .sl 4 (eTms [Nm.tz]) none)] TK9_ok (by kernel_rfl) hnt (by kernel_rfl) (by simp only [List.size_toArray, List.length_cons, List.length_nil, Nat.reduceAdd]; rfl) ?_
    intro K hK
    refine And.intro (by repeat first | exact VLe.refl _ | exact VLe.nil _ | exact VLe.untag _ _ _ | refine VLe.ag ?_ | refine VLe.tu ?_ | refine VLeL.cons ?_ ?_ | exact VLeL.nil) ?_
    refine And.intro (VLe.untag _ _ _) ?_
    refine ⟨_, _, _, Or.inl (k1_d [Nm.tz]), by repeat first | exact trivial | refine And.intro ⟨rfl, rfl⟩ ?_, ?_⟩
    refine hK _ _ ?_
    clear hK K
    refine dw_seq ?_
    refine dw_k [(16, .sl 2 (eTys [Sb.kA]) none)] TK9_ok (by kernel_rfl) hnt (by kernel_rfl) (by simp only [List.size_toArray, List.length_cons, List.length_nil, Nat.reduceAdd]; rfl) ?_
    intro K hK
    refine And.intro (VLe.untag _ _ _) ?_
    refine hK _ _ ?_
    clear hK K
    refine dw_seq ?_
    refine dw_kD [(21, .sl 5 (ePairs [(0, Sb.kF)]) none), (24, .ag [.sl 2 [] none, .v (.int .i64 1), .v (.int .i64 0), .sl 4 [] none]), (25, .sl 4 (eTms [Sb.kZ]) none), (27, .sl 4 (eTms [Sb.kX [Sb.kZ]]) none)] TK9_ok (by kernel_rfl) hnt (by kernel_rfl) (by simp only [List.size_toArray, List.length_cons, List.length_nil, Nat.reduceAdd]; rfl) ?_
    intro K hK
    refine And.intro (VLe.untag _ _ _) ?_
    refine And.intro (by repeat first | exact VLe.refl _ | exact VLe.nil _ | exact VLe.untag _ _ _ | refine VLe.ag ?_ | refine VLe.tu ?_ | refine VLeL.cons ?_ ?_ | exact VLeL.nil) ?_
    refine And.intro (VLe.untag _ _ _) ?_
    refine ⟨_, _, _, Or.inl (k2_d [Sb.kZ]), by repeat first | exact trivial | refine And.intro ⟨rfl, rfl⟩ ?_, ?_⟩
    refine And.intro (VLe.untag _ _ _) ?_
    refine ⟨_, _, _, Or.inl (k2_d [Sb.kX [Sb.kZ]]), by repeat first | exact trivial | refine And.intro ⟨rfl, rfl⟩ ?_, ?_⟩
    refine ⟨_, _, _, Or.inr (new_d 20 (by decide) _), by repeat first | exact trivial | refine And.intro ⟨rfl, rfl⟩ ?_, ?_⟩
    refine ⟨_, _, _, Or.inl (hap _), by repeat first | exact trivial | refine And.intro ⟨rfl, rfl⟩ ?_, ?_⟩
    refine hK _ _ (by kernel_rfl) ?_
    clear hK K
    refine dw_seq ?_
    refine dw_kD [(39, .ag [.sl 2 [] none, .v (.int .i64 1), .v (.int .i64 0), .sl 4 [] none]), (40, .sl 4 (eTms [Sb.kZ]) none), (42, .sl 4 (eTms [Sb.kC [Sb.kZ]]) none)] TK9_ok (by kernel_rfl) hnt (by kernel_rfl) (by simp only [List.size_toArray, List.length_cons, List.length_nil, Nat.reduceAdd]; rfl) ?_
    intro K hK
    refine And.intro (by repeat first | exact VLe.refl _ | exact VLe.nil _ | exact VLe.untag _ _ _ | refine VLe.ag ?_ | refine VLe.tu ?_ | refine VLeL.cons ?_ ?_ | exact VLeL.nil) ?_
    refine And.intro (VLe.untag _ _ _) ?_
    refine ⟨_, _, _, Or.inl (k1_d [Sb.kZ]), by repeat first | exact trivial | refine And.intro ⟨rfl, rfl⟩ ?_, ?_⟩
    refine And.intro (VLe.untag _ _ _) ?_
    refine ⟨_, _, _, Or.inl (k1_d [Sb.kC [Sb.kZ]]), by repeat first | exact trivial | refine And.intro ⟨rfl, rfl⟩ ?_, ?_⟩
    refine ⟨_, _, _, Or.inl (equal_d (Sb.kC [Sb.kC [Sb.kZ]])), by repeat first | exact trivial | refine And.intro ⟨rfl, rfl⟩ ?_, ?_⟩
    refine hK _ _ (by kernel_rfl) ?_
    clear hK K
    refine dw_ret ?_
    exact retv (N := 0) (.inr rfl) rfl (VLe.refl _) trivial
end Go.Proofs.YtiblklcfjakjmaaGreat

