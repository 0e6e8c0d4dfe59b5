/-
  The law TermWell, stepped through.
-/
import Derived.Test.YtejpgifofkiofaaRowWell6p21
import Derived.Test.YtejpgifofkiofaaRowWell6p32
import Derived.Test.YtejpgifofkiofaaRowWell6p34
import Derived.Test.YtejpgifofkiofaaRowWell6p19
import Derived.Test.YtejpgifofkiofaaRowWell6p36
set_option linter.unusedVariables false
set_option linter.unusedSimpArgs false
namespace Go.Proofs.Ytejpgifofkiofaa
open Go.RowKit

def TyRetF (z : Ty) (c : Int) (w : World) (e : Ending) (w' : World) : Prop := ∃ s b, e = .returned (.tuple #[.agg #[s, b], .int .i64 c]) ∧ IsTy (fun q => w.heap.size ≤ q) w' s b z ∧ Below w.heap.size w w'
theorem TypeOf_kF {w : World} {b : Int} {cv mv xv tb tk ti ta : Value} {C M X : List Ty} {t : Tm} {o : Option Ty} {z : Ty} {k : Bool} {c : Int} (hk : o.isSome = k) (hz' : o.getD tyZ = z) (hcc : c = if k = true then 0 else 10) (hc : IsSl rpTy (fun _ => True) w cv C) (hm : IsSl rpTy (fun _ => True) w mv M) (hx : IsSl rpTy (fun _ => True) w xv X) (ht : IsTm (fun _ => True) w tb tk ti ta t) (hi : t.index ≤ 9223372036854775807) (hl : X.length ≤ 50000) (hz : t.full ≤ 40000) (ho : (headTy C M (X ++ t.binds) t.kind t.index).map (fun h => Ty.mk t.binds h.base) = o) :
    Calls Try.prog 61 #[.agg #[.int .i64 b, cv, mv], xv, .agg #[tb, tk, ti, ta]] w (TyRetF z c w) := by
  subst hk hz' hcc ho
  exact TypeOf_k (F := fun q => q < w.heap.size) (fun _ h => h) (hc.low (by decide)) (hm.low (by decide)) ((IsSl2.of (hx.low (by decide))).anyRow (by decide)) (ht.weaken fun _ hq _ => hq) hi hl hz

theorem checkCode_zero {C M X : List Ty} {t : Tm} {u : Ty} (h : checkCode C M t X u 0) : (t.size ≤ 5000 ∧ t.depth ≤ 60) ∧ IsOf C M t X u := by
  unfold checkCode at h
  rcases h with ⟨_, h⟩ | ⟨_, _, h⟩ | ⟨h1, h2, _⟩
  · cases h
  · cases h
  · exact ⟨h1, h2⟩

set_option maxRecDepth 100000 in
set_option maxHeartbeats 20000000 in
theorem termWell_walk {w : World} {b hk hi : Int} {cv mv xv zv tb tk ti ta : Value} {C M X Z : List Ty} {t : Tm} (hc : IsSl rpTy (fun _ => True) w cv C) (hm : IsSl rpTy (fun _ => True) w mv M) (hx : IsSl rpTy (fun _ => True) w xv X) (hzz : IsSl rpTy (fun _ => True) w zv Z) (hih : -9223372036854775808 ≤ hi ∧ hi ≤ 9223372036854775807) (ht : IsTm (fun _ => True) w tb tk ti ta t) (hfit : t.Fit) :
    Calls Try.prog 11 #[.agg #[.int .i64 b, cv, mv], xv, zv, .agg #[.int .i64 hk, .int .i64 hi], .agg #[tb, tk, ti, ta]] w fun e w' => e = .returned (.bool true) ∧ Below w.heap.size w w' := by
  obtain ⟨ca, cc, rfl⟩ := hc.shape
  obtain ⟨ma, mc, rfl⟩ := hm.shape
  obtain ⟨xa, xc, rfl⟩ := hx.shape
  obtain ⟨za, zc, rfl⟩ := hzz.shape
  obtain ⟨t_pa, t_pc, t_qa, t_qc, rfl, rfl, rfl, rfl⟩ := ht.shape
  obtain ⟨t_n, ht_n⟩ : ∃ x, t.binds.length = x := ⟨_, rfl⟩
  obtain ⟨t_m, ht_m⟩ : ∃ x, t.args.length = x := ⟨_, rfl⟩
  obtain ⟨t_k, ht_k⟩ : ∃ x, t.kind = x := ⟨_, rfl⟩
  obtain ⟨t_i, ht_i⟩ : ∃ x, t.index = x := ⟨_, rfl⟩
  rw [ht_n, ht_m, ht_k, ht_i] at ht ⊢
  have Et_n := Lib.hid ht_n
  have Et_m := Lib.hid ht_m
  have Et_k := Lib.hid ht_k
  have Et_i := Lib.hid ht_i
  clear ht_n ht_m ht_k ht_i
  have hti : t.index ≤ 9223372036854775807 := by cases t; exact (Tm.fit_iff.1 hfit).2.1
  have Hti := Lib.hid hti; have Hih := Lib.hid hih
  have Hfit := Lib.hid hfit
  have Ht := Lib.hid ht; have Hc := Lib.hid hc; have Hm := Lib.hid hm; have Hx := Lib.hid hx; have Hzz := Lib.hid hzz
  clear ht hc hm hx hfit hti hzz hih
  go_enter Try.func11, Try.ntmps11
  go_wp2_with fail
  obtain ⟨w4, hw4⟩ : ∃ w4, (((w.alloc (.cells #[.int .i64 b, .slice ca C.length cc, .slice ma M.length mc] 87)).alloc (.cells #[.int .i64 hk, .int .i64 hi] 23)).alloc (.cells #[.slice t_pa t_n t_pc, .int .i64 t_k, .int .i64 t_i, .slice t_qa t_m t_qc] 29)).alloc (.cells #[.slice t_pa t_n t_pc, .int .i64 t_k, .int .i64 t_i, .slice t_qa t_m t_qc] 29) = w4 := ⟨_, rfl⟩
  have B_w4 : Below w.heap.size w w4 := by rw [← hw4]; exact ((((Below.refl _ _).alloc (Nat.le_refl _) _).alloc (by simp) _).alloc (by simp; omega) _).alloc (by simp; omega) _
  have x0_w4 : Blk w4 w.heap.size #[.int .i64 b, .slice ca C.length cc, .slice ma M.length mc] 87 := by rw [← hw4]; exact (((Blk.new _ _ _ rfl).alloc _).alloc _).alloc _
  have x1_w4 : Blk w4 (w.heap.size + 1) #[.int .i64 hk, .int .i64 hi] 23 := by rw [← hw4]; exact ((Blk.new _ _ _ (by simp)).alloc _).alloc _
  have x2_w4 : Blk w4 (w.heap.size + 1 + 1) #[.slice t_pa t_n t_pc, .int .i64 t_k, .int .i64 t_i, .slice t_qa t_m t_qc] 29 := by rw [← hw4]; exact (Blk.new _ _ _ (by simp)).alloc _
  have xv : Blk w4 (w.heap.size + 1 + 1 + 1) #[.slice t_pa t_n t_pc, .int .i64 t_k, .int .i64 t_i, .slice t_qa t_m t_qc] 29 := by rw [← hw4]; exact Blk.new _ _ _ (by simp)
  try rw [hw4]
  clear hw4
  have T_w4 := Lib.hid (Ht.out.bel B_w4)
  have C_w4 := Lib.hid (Hc.out.bel B_w4)
  have M_w4 := Lib.hid (Hm.out.bel B_w4)
  have X_w4 := Lib.hid (Hx.out.bel B_w4)
  have Z_w4 := Lib.hid (Hzz.out.bel B_w4)
  clear Ht Hc Hm Hx Hzz
  refine (few06 (isSl_one6 xv T_w4.out) (by simp)).mono ?_
  intro e w5 h
  obtain ⟨r, Hr, rfl, hbx⟩ := h
  clear xv
  have x0_w5 := x0_w4.below hbx
  have x1_w5 := x1_w4.below hbx
  have x2_w5 := x2_w4.below hbx
  have T_w5 := Lib.hid (T_w4.out.bel hbx)
  have C_w5 := Lib.hid (C_w4.out.bel hbx)
  have M_w5 := Lib.hid (M_w4.out.bel hbx)
  have X_w5 := Lib.hid (X_w4.out.bel hbx)
  have Z_w5 := Lib.hid (Z_w4.out.bel hbx)
  have B_w5 := B_w4.trans (hbx.mono B_w4.size)
  clear x0_w4 x1_w4 x2_w4 T_w4 C_w4 M_w4 X_w4 Z_w4 B_w4 hbx
  cases r
  · clear Hr
    go_wp2_with fail
    refine (known06 w5).mono ?_
    rintro e wk ⟨rfl, hbk⟩
    go_wp2_with fail
    go_ret
    exact ⟨rfl, B_w5.trans (hbk.mono B_w5.size)⟩
  have Hf := Lib.hid ((Hr.out rfl) t (by simp))
  clear Hr
  have cx00 : w5.cell? ⟨w.heap.size, 0, none⟩ = some (.int .i64 b) := x0_w5.cell rfl
  have cx01 : w5.cell? ⟨w.heap.size, 1, none⟩ = some (.slice ca C.length cc) := x0_w5.cell rfl
  have cx02 : w5.cell? ⟨w.heap.size, 2, none⟩ = some (.slice ma M.length mc) := x0_w5.cell rfl
  have lx0 := x0_w5.lt
  have cx10 : w5.cell? ⟨w.heap.size + 1, 0, none⟩ = some (.int .i64 hk) := x1_w5.cell rfl
  have cx11 : w5.cell? ⟨w.heap.size + 1, 1, none⟩ = some (.int .i64 hi) := x1_w5.cell rfl
  have lx1 := x1_w5.lt
  have cx20 : w5.cell? ⟨w.heap.size + 1 + 1, 0, none⟩ = some (.slice t_pa t_n t_pc) := x2_w5.cell rfl
  have cx21 : w5.cell? ⟨w.heap.size + 1 + 1, 1, none⟩ = some (.int .i64 t_k) := x2_w5.cell rfl
  have cx22 : w5.cell? ⟨w.heap.size + 1 + 1, 2, none⟩ = some (.int .i64 t_i) := x2_w5.cell rfl
  have cx23 : w5.cell? ⟨w.heap.size + 1 + 1, 3, none⟩ = some (.slice t_qa t_m t_qc) := x2_w5.cell rfl
  have lx2 := x2_w5.lt
  go_wp2_with fail
  refine (small_any C_w5.out M_w5.out X_w5.out).mono ?_
  intro e w6 h
  obtain ⟨r, Hr, rfl, hbx⟩ := h
  clear cx00 cx01 cx02 lx0 cx10 cx11 lx1 cx20 cx21 cx22 cx23 lx2
  have x0_w6 := x0_w5.below hbx
  have x1_w6 := x1_w5.below hbx
  have x2_w6 := x2_w5.below hbx
  have T_w6 := Lib.hid (T_w5.out.bel hbx)
  have C_w6 := Lib.hid (C_w5.out.bel hbx)
  have M_w6 := Lib.hid (M_w5.out.bel hbx)
  have X_w6 := Lib.hid (X_w5.out.bel hbx)
  have Z_w6 := Lib.hid (Z_w5.out.bel hbx)
  have B_w6 := B_w5.trans (hbx.mono B_w5.size)
  clear x0_w5 x1_w5 x2_w5 T_w5 C_w5 M_w5 X_w5 Z_w5 B_w5 hbx
  cases r
  · clear Hr
    go_wp2_with fail
    refine (known06 w6).mono ?_
    rintro e wk ⟨rfl, hbk⟩
    go_wp2_with fail
    go_ret
    exact ⟨rfl, B_w6.trans (hbk.mono B_w6.size)⟩
  have Hs := Lib.hid (Hr.out rfl)
  clear Hr
  have cx00 : w6.cell? ⟨w.heap.size, 0, none⟩ = some (.int .i64 b) := x0_w6.cell rfl
  have cx01 : w6.cell? ⟨w.heap.size, 1, none⟩ = some (.slice ca C.length cc) := x0_w6.cell rfl
  have cx02 : w6.cell? ⟨w.heap.size, 2, none⟩ = some (.slice ma M.length mc) := x0_w6.cell rfl
  have lx0 := x0_w6.lt
  have cx10 : w6.cell? ⟨w.heap.size + 1, 0, none⟩ = some (.int .i64 hk) := x1_w6.cell rfl
  have cx11 : w6.cell? ⟨w.heap.size + 1, 1, none⟩ = some (.int .i64 hi) := x1_w6.cell rfl
  have lx1 := x1_w6.lt
  have cx20 : w6.cell? ⟨w.heap.size + 1 + 1, 0, none⟩ = some (.slice t_pa t_n t_pc) := x2_w6.cell rfl
  have cx21 : w6.cell? ⟨w.heap.size + 1 + 1, 1, none⟩ = some (.int .i64 t_k) := x2_w6.cell rfl
  have cx22 : w6.cell? ⟨w.heap.size + 1 + 1, 2, none⟩ = some (.int .i64 t_i) := x2_w6.cell rfl
  have cx23 : w6.cell? ⟨w.heap.size + 1 + 1, 3, none⟩ = some (.slice t_qa t_m t_qc) := x2_w6.cell rfl
  have lx2 := x2_w6.lt
  by_cases hzl : (10 : Int) < (Z.length : Int)
  · go_wp2_with fail
    refine (known06 w6).mono ?_
    rintro e wk ⟨rfl, hbk⟩
    go_wp2_with fail
    go_ret
    exact ⟨rfl, B_w6.trans (hbk.mono B_w6.size)⟩
  have Hzl : Hid (Z.length ≤ 10) := by show _ ≤ _; omega
  have hzl2 : decide ((10 : Int) < (Z.length : Int)) = false := by simpa using hzl
  clear hzl
  go_wp2_with fail
  refine (small_any C_w6.out M_w6.out Z_w6.out).mono ?_
  intro e w7 h
  obtain ⟨r, Hr, rfl, hbx⟩ := h
  clear cx00 cx01 cx02 cx10 cx11 cx20 cx21 cx22 cx23 lx0 lx1 lx2
  have x0_w7 := x0_w6.below hbx
  have x1_w7 := x1_w6.below hbx
  have x2_w7 := x2_w6.below hbx
  have T_w7 := Lib.hid (T_w6.out.bel hbx)
  have C_w7 := Lib.hid (C_w6.out.bel hbx)
  have M_w7 := Lib.hid (M_w6.out.bel hbx)
  have X_w7 := Lib.hid (X_w6.out.bel hbx)
  have Z_w7 := Lib.hid (Z_w6.out.bel hbx)
  have B_w7 := B_w6.trans (hbx.mono B_w6.size)
  clear x0_w6 x1_w6 x2_w6 T_w6 C_w6 M_w6 X_w6 Z_w6 B_w6 hbx
  cases r
  · clear Hr
    go_wp2_with fail
    refine (known06 w7).mono ?_
    rintro e wk ⟨rfl, hbk⟩
    go_wp2_with fail
    go_ret
    exact ⟨rfl, B_w7.trans (hbk.mono B_w7.size)⟩
  have HsZ := Lib.hid (Hr.out rfl)
  clear Hr
  have Hsz : Hid (∀ l : List Ty, (∀ t ∈ l, t.size ≤ 60) → l.length ≤ 30 → Ty.sizes l ≤ 1000000) := fun l h hl => by
    have := sizes_le_of (l := l) (n := 60) h
    have : l.length * 60 ≤ 30 * 60 := Nat.mul_le_mul_right _ hl
    omega
  have HsC := Lib.hid (Hsz.out C (fun t h => (Hs.out.2.2.2 t (by simp [h])).1) (by have := Hs.out.1; omega))
  have HsM := Lib.hid (Hsz.out M (fun t h => (Hs.out.2.2.2 t (by simp [h])).1) (by have := Hs.out.2.1; omega))
  have HsX := Lib.hid (Hsz.out X (fun t h => (Hs.out.2.2.2 t (by simp [h])).1) (by have := Hs.out.2.2.1; omega))
  have HsXZ := Lib.hid (Hsz.out (X ++ Z) (fun t h => by
    rcases List.mem_append.1 h with h | h
    · exact (Hs.out.2.2.2 t (by simp [h])).1
    · exact (HsZ.out.2.2.2 t (by simp [h])).1) (by have := Hs.out.2.2.1; have := Hzl.out; simp; omega))
  obtain ⟨Y, hY⟩ : ∃ Y, X ++ Z = Y := ⟨_, rfl⟩
  have HY := Lib.hid hY
  have Hyl : Hid (Y.length ≤ 30) := by show _ ≤ _; rw [← hY]; have := Hs.out.2.2.1; have := Hzl.out; simp; omega
  have Hlaw := Lib.hid fun (u : Ty) (h : (t.size ≤ 5000 ∧ t.depth ≤ 60) ∧ IsOf C M t X u) => well_shift (Z := Z) Hs.out.2.2.1 Hzl.out h.1 h.2
  have Hlaw1 := Lib.hid fun (a : Ty) (h : headTy C M X hk hi = some a) => well_eta Hs.out (Hs.out.2.2.2 a (headTy_mem h)) h
  rw [hY] at HsXZ Hlaw
  clear hY
  obtain ⟨o1, ho1⟩ : ∃ o, headTy C M X hk hi = o := ⟨_, rfl⟩
  obtain ⟨o2, ho2⟩ : ∃ o, (headTy C M (X ++ t.binds) t.kind t.index).map (fun h => Ty.mk t.binds h.base) = o := ⟨_, rfl⟩
  have Ho1 := Lib.hid ho1; have Ho2 := Lib.hid ho2
  clear ho1 ho2
  obtain ⟨k1, hk1⟩ : ∃ k, o1.isSome = k := ⟨_, rfl⟩
  obtain ⟨k2, hk2⟩ : ∃ k, o2.isSome = k := ⟨_, rfl⟩
  obtain ⟨z1, hz1⟩ : ∃ k, o1.getD tyZ = k := ⟨_, rfl⟩
  obtain ⟨z2, hz2⟩ : ∃ k, o2.getD tyZ = k := ⟨_, rfl⟩
  have Hk1 := Lib.hid hk1; have Hk2 := Lib.hid hk2; have Hz1 := Lib.hid hz1; have Hz2 := Lib.hid hz2
  have Hs1 : Hid (z1.size ≤ 60 ∧ (∀ t', o1 = some t' → t'.size ≤ 90000) ∧ (k1 = true → o1 = some z1)) := by
    have hall : ∀ t', o1 = some t' → t'.size ≤ 60 := fun t' h => (Hs.out.2.2.2 t' (headTy_mem (Ho1.out.trans h))).1
    refine ⟨?_, fun t' h => by have := hall t' h; omega, fun h => ?_⟩
    · rw [← hz1]
      cases o1 with
      | none => simp [tyZ, Ty.size, Ty.sizes]
      | some a => exact hall a rfl
    · rw [← hz1]
      cases o1 with
      | none => rw [← hk1] at h; cases h
      | some a => rfl
  clear hk1 hk2 hz1 hz2
  obtain ⟨c1, hc1⟩ : ∃ c : Int, c = if k1 = true then 0 else 10 := ⟨_, rfl⟩
  obtain ⟨c2, hc2⟩ : ∃ c : Int, c = if k2 = true then 0 else 10 := ⟨_, rfl⟩
  have Hc1 := Lib.hid hc1; have Hc2 := Lib.hid hc2
  clear hc1 hc2
  obtain ⟨z1_n, hn⟩ : ∃ x, z1.args.length = x := ⟨_, rfl⟩
  obtain ⟨z1_d, hd⟩ : ∃ x, z1.base = x := ⟨_, rfl⟩
  have Ez1_n := Lib.hid hn; have Ez1_d := Lib.hid hd
  clear hn hd
  have cx00 : w7.cell? ⟨w.heap.size, 0, none⟩ = some (.int .i64 b) := x0_w7.cell rfl
  have cx01 : w7.cell? ⟨w.heap.size, 1, none⟩ = some (.slice ca C.length cc) := x0_w7.cell rfl
  have cx02 : w7.cell? ⟨w.heap.size, 2, none⟩ = some (.slice ma M.length mc) := x0_w7.cell rfl
  have lx0 := x0_w7.lt
  have cx10 : w7.cell? ⟨w.heap.size + 1, 0, none⟩ = some (.int .i64 hk) := x1_w7.cell rfl
  have cx11 : w7.cell? ⟨w.heap.size + 1, 1, none⟩ = some (.int .i64 hi) := x1_w7.cell rfl
  have lx1 := x1_w7.lt
  have cx20 : w7.cell? ⟨w.heap.size + 1 + 1, 0, none⟩ = some (.slice t_pa t_n t_pc) := x2_w7.cell rfl
  have cx21 : w7.cell? ⟨w.heap.size + 1 + 1, 1, none⟩ = some (.int .i64 t_k) := x2_w7.cell rfl
  have cx22 : w7.cell? ⟨w.heap.size + 1 + 1, 2, none⟩ = some (.int .i64 t_i) := x2_w7.cell rfl
  have cx23 : w7.cell? ⟨w.heap.size + 1 + 1, 3, none⟩ = some (.slice t_qa t_m t_qc) := x2_w7.cell rfl
  have lx2 := x2_w7.lt
  go_wp2_with fail
  clear cx00 cx01 cx02 lx0 cx10 cx11 lx1 cx20 cx21 cx22 cx23 lx2
  clear hzl2
  refine (world_any C_w7.out M_w7.out ⟨HsC.out, HsM.out⟩).mono ?_
  rintro e v0 ⟨_, _, rfl, hT1, hT2, hbx0⟩
  have hbx : Below w7.heap.size w7 v0 := hbx0
  clear hbx0
  have x0_v0 := x0_w7.below hbx
  have x1_v0 := x1_w7.below hbx
  have x2_v0 := x2_w7.below hbx
  have T_v0 := Lib.hid (T_w7.out.bel hbx)
  have C_v0 := Lib.hid (C_w7.out.bel hbx)
  have M_v0 := Lib.hid (M_w7.out.bel hbx)
  have X_v0 := Lib.hid (X_w7.out.bel hbx)
  have Z_v0 := Lib.hid (Z_w7.out.bel hbx)
  have B_v0 := B_w7.trans (hbx.mono B_w7.size)
  clear x0_w7 x1_w7 x2_w7 T_w7 C_w7 M_w7 X_w7 Z_w7 B_w7 hbx
  obtain ⟨V_ca, V_cc, rfl⟩ := hT1.shape
  obtain ⟨V_ma, V_mc, rfl⟩ := hT2.shape
  have VC_v0 := Lib.hid (hT1.weaken (F' := fun _ => True) (by decide) fun _ _ _ => trivial)
  have VM_v0 := Lib.hid (hT2.weaken (F' := fun _ => True) (by decide) fun _ _ _ => trivial)
  clear hT1 hT2
  go_wp2_with fail
  refine (types_any X_v0.out v0 (Keep.refl _ _) HsX.out).mono ?_
  rintro e v1 ⟨c_a, c_c, rfl, hT, hbx0⟩
  have hbx : Below v0.heap.size v0 v1 := hbx0
  clear hbx0
  have x0_v1 := x0_v0.below hbx
  have x1_v1 := x1_v0.below hbx
  have x2_v1 := x2_v0.below hbx
  have T_v1 := Lib.hid (T_v0.out.bel hbx)
  have C_v1 := Lib.hid (C_v0.out.bel hbx)
  have M_v1 := Lib.hid (M_v0.out.bel hbx)
  have X_v1 := Lib.hid (X_v0.out.bel hbx)
  have Z_v1 := Lib.hid (Z_v0.out.bel hbx)
  have VC_v1 := Lib.hid (VC_v0.out.bel hbx)
  have VM_v1 := Lib.hid (VM_v0.out.bel hbx)
  have B_v1 := B_v0.trans (hbx.mono B_v0.size)
  clear x0_v0 x1_v0 x2_v0 T_v0 C_v0 M_v0 X_v0 Z_v0 VC_v0 VM_v0 B_v0 hbx
  have c_v1 := Lib.hid (hT.weaken (F' := fun _ => True) (by decide) fun _ _ _ => trivial)
  clear hT
  have cx10 : v1.cell? ⟨w.heap.size + 1, 0, none⟩ = some (.int .i64 hk) := x1_v1.cell rfl
  have cx11 : v1.cell? ⟨w.heap.size + 1, 1, none⟩ = some (.int .i64 hi) := x1_v1.cell rfl
  have lx1 := x1_v1.lt
  go_wp2_with fail
  clear cx10 cx11 lx1
  obtain ⟨v2, hv2⟩ : ∃ v2, (v1.alloc (.cells #[.int .i64 b, .slice V_ca C.length V_cc, .slice V_ma M.length V_mc] 90)).alloc (.cells #[.int .i64 hk, .int .i64 hi] 34) = v2 := ⟨_, rfl⟩
  obtain ⟨p, hp⟩ : ∃ p, v1.heap.size = p := ⟨_, rfl⟩
  have hbx : Below v1.heap.size v1 v2 := by rw [← hv2]; exact ((Below.refl _ _).alloc (Nat.le_refl _) _).alloc (by simp) _
  have yp_v2 : Blk v2 p #[.int .i64 b, .slice V_ca C.length V_cc, .slice V_ma M.length V_mc] 90 := by rw [← hv2]; exact (Blk.new _ _ _ hp.symm).alloc _
  have yg_v2 : Blk v2 (p + 1) #[.int .i64 hk, .int .i64 hi] 34 := by rw [← hv2]; exact Blk.new _ _ _ (by simp [hp])
  try rw [hv2]
  try rw [hp]
  clear hv2 hp
  have x0_v2 := x0_v1.below hbx
  have x1_v2 := x1_v1.below hbx
  have x2_v2 := x2_v1.below hbx
  have T_v2 := Lib.hid (T_v1.out.bel hbx)
  have C_v2 := Lib.hid (C_v1.out.bel hbx)
  have M_v2 := Lib.hid (M_v1.out.bel hbx)
  have X_v2 := Lib.hid (X_v1.out.bel hbx)
  have Z_v2 := Lib.hid (Z_v1.out.bel hbx)
  have VC_v2 := Lib.hid (VC_v1.out.bel hbx)
  have VM_v2 := Lib.hid (VM_v1.out.bel hbx)
  have c_v2 := Lib.hid (c_v1.out.bel hbx)
  have B_v2 := B_v1.trans (hbx.mono B_v1.size)
  clear x0_v1 x1_v1 x2_v1 T_v1 C_v1 M_v1 X_v1 Z_v1 VC_v1 VM_v1 c_v1 B_v1 hbx
  have H1k := Lib.hid ((HeadType_kT (b := b) VC_v2.out VM_v2.out c_v2.out hk hi Hih.out.2 (by rw [Ho1.out]; exact Hs1.out.2.1)).mono fun _ _ h => (TyPostE.to (c := c1) (z := z1) (by rw [Ho1.out]; exact Hk1.out) (by rw [Ho1.out]; exact Hz1.out) Hc1.out h))
  refine (H1k.out).mono ?_
  rintro e v3 ⟨s1, d1, rfl, hT, hbx0⟩
  have hbx : Below v2.heap.size v2 v3 := hbx0
  clear hbx0
  have x0_v3 := x0_v2.below hbx
  have x1_v3 := x1_v2.below hbx
  have x2_v3 := x2_v2.below hbx
  have yp_v3 := yp_v2.below hbx
  have yg_v3 := yg_v2.below hbx
  have T_v3 := Lib.hid (T_v2.out.bel hbx)
  have C_v3 := Lib.hid (C_v2.out.bel hbx)
  have M_v3 := Lib.hid (M_v2.out.bel hbx)
  have X_v3 := Lib.hid (X_v2.out.bel hbx)
  have Z_v3 := Lib.hid (Z_v2.out.bel hbx)
  have VC_v3 := Lib.hid (VC_v2.out.bel hbx)
  have VM_v3 := Lib.hid (VM_v2.out.bel hbx)
  have c_v3 := Lib.hid (c_v2.out.bel hbx)
  have B_v3 := B_v2.trans (hbx.mono B_v2.size)
  clear x0_v2 x1_v2 x2_v2 yp_v2 yg_v2 T_v2 C_v2 M_v2 X_v2 Z_v2 VC_v2 VM_v2 c_v2 B_v2 hbx
  clear H1k
  obtain ⟨e1_a, e1_c, rfl, rfl⟩ := hT.shape
  rw [Ez1_n.out, Ez1_d.out] at hT ⊢
  have e1_v3 := Lib.hid hT
  clear hT
  have cx10 : v3.cell? ⟨w.heap.size + 1, 0, none⟩ = some (.int .i64 hk) := x1_v3.cell rfl
  have cx11 : v3.cell? ⟨w.heap.size + 1, 1, none⟩ = some (.int .i64 hi) := x1_v3.cell rfl
  have lx1 := x1_v3.lt
  go_wp2_with fail
  clear cx10 cx11 lx1
  obtain ⟨v4, hv4⟩ : ∃ x, v3.alloc (.cells #[.slice e1_a z1_n e1_c, .int .i64 z1_d] 40) = x := ⟨_, rfl⟩
  obtain ⟨e1p, he1p⟩ : ∃ x, v3.heap.size = x := ⟨_, rfl⟩
  have hbx : Below v3.heap.size v3 v4 := by rw [← hv4]; exact (Below.refl _ _).alloc (Nat.le_refl _) _
  have ye1_v4 : Blk v4 e1p #[.slice e1_a z1_n e1_c, .int .i64 z1_d] 40 := by rw [← hv4]; exact Blk.new _ _ _ he1p.symm
  try rw [hv4]
  try rw [he1p]
  clear hv4 he1p
  have x0_v4 := x0_v3.below hbx
  have x1_v4 := x1_v3.below hbx
  have x2_v4 := x2_v3.below hbx
  have yp_v4 := yp_v3.below hbx
  have yg_v4 := yg_v3.below hbx
  have T_v4 := Lib.hid (T_v3.out.bel hbx)
  have C_v4 := Lib.hid (C_v3.out.bel hbx)
  have M_v4 := Lib.hid (M_v3.out.bel hbx)
  have X_v4 := Lib.hid (X_v3.out.bel hbx)
  have Z_v4 := Lib.hid (Z_v3.out.bel hbx)
  have VC_v4 := Lib.hid (VC_v3.out.bel hbx)
  have VM_v4 := Lib.hid (VM_v3.out.bel hbx)
  have c_v4 := Lib.hid (c_v3.out.bel hbx)
  have e1_v4 := Lib.hid (e1_v3.out.bel hbx)
  have B_v4 := B_v3.trans (hbx.mono B_v3.size)
  clear x0_v3 x1_v3 x2_v3 yp_v3 yg_v3 T_v3 C_v3 M_v3 X_v3 Z_v3 VC_v3 VM_v3 c_v3 e1_v3 B_v3 hbx
  have D1 : (k1 = false ∧ c1 = 10) ∨ (k1 = true ∧ c1 = 0) := by
    have h := Hc1.out
    rcases Bool.eq_false_or_eq_true k1 with hk | hk
    · exact .inr ⟨hk, by rw [h, hk]; rfl⟩
    · exact .inl ⟨hk, by rw [h, hk]; rfl⟩
  clear Hc1
  rcases D1 with ⟨rfl, rfl⟩ | ⟨rfl, rfl⟩
  · skip
    refine wp_region_noPanic (wp_region_need (S := fun w' => w'.cell? ⟨p, 0, none⟩ = some (.int .i64 b) ∧ w'.cell? ⟨p, 1, none⟩ = some (.slice V_ca C.length V_cc) ∧ w'.cell? ⟨p, 2, none⟩ = some (.slice V_ma M.length V_mc) ∧ w'.cell? ⟨p + 1, 0, none⟩ = some (.int .i64 hk) ∧ w'.cell? ⟨p + 1, 1, none⟩ = some (.int .i64 hi) ∧ w'.cell? ⟨e1p, 0, none⟩ = some (.slice e1_a z1_n e1_c) ∧ w'.cell? ⟨e1p, 1, none⟩ = some (.int .i64 z1_d)) (by kernel_rfl) ?_)
    have hS : (v4.drew).cell? ⟨p, 0, none⟩ = some (.int .i64 b) ∧ (v4.drew).cell? ⟨p, 1, none⟩ = some (.slice V_ca C.length V_cc) ∧ (v4.drew).cell? ⟨p, 2, none⟩ = some (.slice V_ma M.length V_mc) ∧ (v4.drew).cell? ⟨p + 1, 0, none⟩ = some (.int .i64 hk) ∧ (v4.drew).cell? ⟨p + 1, 1, none⟩ = some (.int .i64 hi) ∧ (v4.drew).cell? ⟨e1p, 0, none⟩ = some (.slice e1_a z1_n e1_c) ∧ (v4.drew).cell? ⟨e1p, 1, none⟩ = some (.int .i64 z1_d) := ⟨yp_v4.drew.cell rfl, yp_v4.drew.cell rfl, yp_v4.drew.cell rfl, yg_v4.drew.cell rfl, yg_v4.drew.cell rfl, ye1_v4.drew.cell rfl, ye1_v4.drew.cell rfl⟩
    refine wpN_take (i := 0) (v := ?v1) rfl (by kernel_rfl) (fun _ _ _ h => h) hS (Or.inl ⟨by rfl, ?hy1⟩) ?hr1
    case hy1 => (intro wS hSw; (try dsimp only at hSw); go_simp; (try with_reducible rfl))
    try simp only [Act.put, List.setIfInBounds_toArray, List.set_cons_zero, List.set_cons_succ, List.getElem_toArray, List.getElem_cons_zero, List.getElem_cons_succ]
    refine wpN_take (i := 1) (v := ?v2) rfl (by kernel_rfl) (fun _ _ _ h => h) hS (Or.inl ⟨by rfl, ?hy2⟩) ?hr2
    case hy2 => (intro wS hSw; (try dsimp only at hSw); go_simp; (try with_reducible rfl))
    try simp only [Act.put, List.setIfInBounds_toArray, List.set_cons_zero, List.set_cons_succ, List.getElem_toArray, List.getElem_cons_zero, List.getElem_cons_succ]
    refine wpN_take (i := 2) (v := ?v3) rfl (by kernel_rfl) (fun _ _ _ h => h) hS (Or.inl ⟨by rfl, ?hy3⟩) ?hr3
    case hy3 => (intro wS hSw; (try dsimp only at hSw); go_simp; (try with_reducible rfl))
    try simp only [Act.put, List.setIfInBounds_toArray, List.set_cons_zero, List.set_cons_succ, List.getElem_toArray, List.getElem_cons_zero, List.getElem_cons_succ]
    refine wpN_pure (i := 3) (v := undef) rfl (by kernel_rfl) (fun _ _ _ h => h) (Or.inr ⟨by rfl, rfl⟩) ?_
    try simp only [Act.put, List.setIfInBounds_toArray, List.set_cons_zero, List.set_cons_succ, List.getElem_toArray, List.getElem_cons_zero, List.getElem_cons_succ]
    refine wpN_pure (i := 4) (v := undef) rfl (by kernel_rfl) (fun _ _ _ h => h) (Or.inr ⟨by rfl, rfl⟩) ?_
    try simp only [Act.put, List.setIfInBounds_toArray, List.set_cons_zero, List.set_cons_succ, List.getElem_toArray, List.getElem_cons_zero, List.getElem_cons_succ]
    refine wpN_pure (i := 5) (v := undef) rfl (by kernel_rfl) (fun _ _ _ h => h) (Or.inr ⟨by rfl, rfl⟩) ?_
    try simp only [Act.put, List.setIfInBounds_toArray, List.set_cons_zero, List.set_cons_succ, List.getElem_toArray, List.getElem_cons_zero, List.getElem_cons_succ]
    refine wpN_pure (i := 6) (v := undef) rfl (by kernel_rfl) (fun _ _ _ h => h) (Or.inr ⟨by rfl, rfl⟩) ?_
    try simp only [Act.put, List.setIfInBounds_toArray, List.set_cons_zero, List.set_cons_succ, List.getElem_toArray, List.getElem_cons_zero, List.getElem_cons_succ]
    refine wpN_pure (i := 7) (v := undef) rfl (by kernel_rfl) (fun _ _ _ h => h) (Or.inr ⟨by rfl, rfl⟩) ?_
    try simp only [Act.put, List.setIfInBounds_toArray, List.set_cons_zero, List.set_cons_succ, List.getElem_toArray, List.getElem_cons_zero, List.getElem_cons_succ]
    refine wpN_take (i := 8) (v := ?v4) rfl (by kernel_rfl) (fun _ _ _ h => h) hS (Or.inl ⟨by rfl, ?hy4⟩) ?hr4
    case hy4 => (intro wS hSw; (try dsimp only at hSw); go_simp; (try with_reducible rfl))
    try simp only [Act.put, List.setIfInBounds_toArray, List.set_cons_zero, List.set_cons_succ, List.getElem_toArray, List.getElem_cons_zero, List.getElem_cons_succ]
    refine wpN_take (i := 9) (v := ?v5) rfl (by kernel_rfl) (fun _ _ _ h => h) hS (Or.inl ⟨by rfl, ?hy5⟩) ?hr5
    case hy5 => (intro wS hSw; (try dsimp only at hSw); go_simp; (try with_reducible rfl))
    try simp only [Act.put, List.setIfInBounds_toArray, List.set_cons_zero, List.set_cons_succ, List.getElem_toArray, List.getElem_cons_zero, List.getElem_cons_succ]
    refine wpN_pure (i := 10) (v := undef) rfl (by kernel_rfl) (fun _ _ _ h => h) (Or.inr ⟨by rfl, rfl⟩) ?_
    try simp only [Act.put, List.setIfInBounds_toArray, List.set_cons_zero, List.set_cons_succ, List.getElem_toArray, List.getElem_cons_zero, List.getElem_cons_succ]
    refine wpN_pure (i := 11) (v := undef) rfl (by kernel_rfl) (fun _ _ _ h => h) (Or.inr ⟨by rfl, rfl⟩) ?_
    try simp only [Act.put, List.setIfInBounds_toArray, List.set_cons_zero, List.set_cons_succ, List.getElem_toArray, List.getElem_cons_zero, List.getElem_cons_succ]
    refine wpN_pure (i := 12) (v := undef) rfl (by kernel_rfl) (fun _ _ _ h => h) (Or.inr ⟨by rfl, rfl⟩) ?_
    try simp only [Act.put, List.setIfInBounds_toArray, List.set_cons_zero, List.set_cons_succ, List.getElem_toArray, List.getElem_cons_zero, List.getElem_cons_succ]
    refine wpN_pure (i := 13) (v := undef) rfl (by kernel_rfl) (fun _ _ _ h => h) (Or.inr ⟨by rfl, rfl⟩) ?_
    try simp only [Act.put, List.setIfInBounds_toArray, List.set_cons_zero, List.set_cons_succ, List.getElem_toArray, List.getElem_cons_zero, List.getElem_cons_succ]
    refine wpN_pure (i := 14) (v := undef) rfl (by kernel_rfl) (fun _ _ _ h => h) (Or.inr ⟨by rfl, rfl⟩) ?_
    try simp only [Act.put, List.setIfInBounds_toArray, List.set_cons_zero, List.set_cons_succ, List.getElem_toArray, List.getElem_cons_zero, List.getElem_cons_succ]
    refine wpN_pure (i := 15) (v := undef) rfl (by kernel_rfl) (fun _ _ _ h => h) (Or.inr ⟨by rfl, rfl⟩) ?_
    try simp only [Act.put, List.setIfInBounds_toArray, List.set_cons_zero, List.set_cons_succ, List.getElem_toArray, List.getElem_cons_zero, List.getElem_cons_succ]
    refine wpN_pure (i := 16) (v := undef) rfl (by kernel_rfl) (fun _ _ _ h => h) (Or.inr ⟨by rfl, rfl⟩) ?_
    try simp only [Act.put, List.setIfInBounds_toArray, List.set_cons_zero, List.set_cons_succ, List.getElem_toArray, List.getElem_cons_zero, List.getElem_cons_succ]
    refine wpN_pure (i := 17) (v := undef) rfl (by kernel_rfl) (fun _ _ _ h => h) (Or.inr ⟨by rfl, rfl⟩) ?_
    try simp only [Act.put, List.setIfInBounds_toArray, List.set_cons_zero, List.set_cons_succ, List.getElem_toArray, List.getElem_cons_zero, List.getElem_cons_succ]
    refine wpN_take (i := 18) (v := ?v6) rfl (by kernel_rfl) (fun _ _ _ h => h) hS (Or.inl ⟨by rfl, ?hy6⟩) ?hr6
    case hy6 => (intro wS hSw; (try dsimp only at hSw); go_simp; (try with_reducible rfl))
    try simp only [Act.put, List.setIfInBounds_toArray, List.set_cons_zero, List.set_cons_succ, List.getElem_toArray, List.getElem_cons_zero, List.getElem_cons_succ]
    refine wpN_done (by kernel_rfl) ?_
    refine NoPanic.normal ?_
    clear hS
    have hbx : Below v4.heap.size v4 v4.drew := (Below.refl _ _).drew
    obtain ⟨g9, hg9⟩ : ∃ g9, v4.drew = g9 := ⟨_, rfl⟩
    rw [hg9] at hbx ⊢
    clear hg9
    have x0_g9 := x0_v4.below hbx
    have x1_g9 := x1_v4.below hbx
    have x2_g9 := x2_v4.below hbx
    have yp_g9 := yp_v4.below hbx
    have yg_g9 := yg_v4.below hbx
    have ye1_g9 := ye1_v4.below hbx
    have T_g9 := Lib.hid (T_v4.out.bel hbx)
    have e1_g9 := Lib.hid (e1_v4.out.bel hbx)
    have C_g9 := Lib.hid (C_v4.out.bel hbx)
    have M_g9 := Lib.hid (M_v4.out.bel hbx)
    have X_g9 := Lib.hid (X_v4.out.bel hbx)
    have Z_g9 := Lib.hid (Z_v4.out.bel hbx)
    have VC_g9 := Lib.hid (VC_v4.out.bel hbx)
    have VM_g9 := Lib.hid (VM_v4.out.bel hbx)
    have c_g9 := Lib.hid (c_v4.out.bel hbx)
    have B_g9 := B_v4.trans (hbx.mono B_v4.size)
    clear x0_v4 x1_v4 x2_v4 yp_v4 yg_v4 ye1_v4 T_v4 e1_v4 C_v4 M_v4 X_v4 Z_v4 VC_v4 VM_v4 c_v4 B_v4 hbx
    clear ye1_g9 e1_g9 x1_g9 yg_g9
    go_wp2_with fail
    have D2 : (k2 = false ∧ c2 = 10) ∨ (k2 = true ∧ c2 = 0) := by
      have h := Hc2.out
      rcases Bool.eq_false_or_eq_true k2 with hk | hk
      · exact .inr ⟨hk, by rw [h, hk]; rfl⟩
      · exact .inl ⟨hk, by rw [h, hk]; rfl⟩
    refine wp_region_noPanic (wp_region_need (S := fun w' => w'.cell? ⟨w.heap.size + 1 + 1, 0, none⟩ = some (.slice t_pa t_n t_pc) ∧ w'.cell? ⟨w.heap.size + 1 + 1, 1, none⟩ = some (.int .i64 t_k) ∧ w'.cell? ⟨w.heap.size + 1 + 1, 2, none⟩ = some (.int .i64 t_i) ∧ w'.cell? ⟨w.heap.size + 1 + 1, 3, none⟩ = some (.slice t_qa t_m t_qc) ∧ w'.cell? ⟨p, 0, none⟩ = some (.int .i64 b) ∧ w'.cell? ⟨p, 1, none⟩ = some (.slice V_ca C.length V_cc) ∧ w'.cell? ⟨p, 2, none⟩ = some (.slice V_ma M.length V_mc)) (by kernel_rfl) ?_)
    have hS : (g9.drew).cell? ⟨w.heap.size + 1 + 1, 0, none⟩ = some (.slice t_pa t_n t_pc) ∧ (g9.drew).cell? ⟨w.heap.size + 1 + 1, 1, none⟩ = some (.int .i64 t_k) ∧ (g9.drew).cell? ⟨w.heap.size + 1 + 1, 2, none⟩ = some (.int .i64 t_i) ∧ (g9.drew).cell? ⟨w.heap.size + 1 + 1, 3, none⟩ = some (.slice t_qa t_m t_qc) ∧ (g9.drew).cell? ⟨p, 0, none⟩ = some (.int .i64 b) ∧ (g9.drew).cell? ⟨p, 1, none⟩ = some (.slice V_ca C.length V_cc) ∧ (g9.drew).cell? ⟨p, 2, none⟩ = some (.slice V_ma M.length V_mc) := ⟨x2_g9.drew.cell rfl, x2_g9.drew.cell rfl, x2_g9.drew.cell rfl, x2_g9.drew.cell rfl, yp_g9.drew.cell rfl, yp_g9.drew.cell rfl, yp_g9.drew.cell rfl⟩
    refine wpN_take (i := 0) (v := ?v7) rfl (by kernel_rfl) (fun _ _ _ h => h) hS (Or.inl ⟨by rfl, ?hy7⟩) ?hr7
    case hy7 => (intro wS hSw; (try dsimp only at hSw); go_simp; (try with_reducible rfl))
    try simp only [Act.put, List.setIfInBounds_toArray, List.set_cons_zero, List.set_cons_succ, List.getElem_toArray, List.getElem_cons_zero, List.getElem_cons_succ]
    refine wpN_pure (i := 1) (v := ?v8) rfl (by kernel_rfl) (fun _ _ _ h => h) (Or.inl ⟨by rfl, ?hy8⟩) ?hr8
    case hy8 => (intro wS hSw; go_simp; (try with_reducible rfl))
    try simp only [Act.put, List.setIfInBounds_toArray, List.set_cons_zero, List.set_cons_succ, List.getElem_toArray, List.getElem_cons_zero, List.getElem_cons_succ]
    refine wpN_takeD [3, 4, 5, 6, 9, 10] (i := 2) (v := ?v9) rfl (by kernel_rfl) (fun _ _ _ h => h) hS (Or.inl ⟨by rfl, ?hy9⟩) ?hr9
    case hy9 => (intro wS hSw; (try dsimp only at hSw); go_simp; (try with_reducible rfl))
    try simp only [Act.put, List.setIfInBounds_toArray, List.set_cons_zero, List.set_cons_succ, List.getElem_toArray, List.getElem_cons_zero, List.getElem_cons_succ]
    refine wpN_gathersR [(3, 81), (4, 82), (8, 16), (5, 77), (6, 83), (7, 84)] [5, 6, 7] 2 (PhiL [(3, phiTm t), (4, phiTyc z2 c2), (8, phiBlk #[.slice none 0 0, .int .i64 0] 40), (5, phiTup), (6, phiAny), (7, phiAny)]) (fun j uP => match j with | 5 => uP 5 = uP 4 | 6 => ∃ a k, uP 5 = .tuple #[a, k] ∧ uP 6 = a | 7 => ∃ a k, uP 5 = .tuple #[a, k] ∧ uP 7 = k | _ => True) rfl rfl (by kernel_rfl) phiL_below ?gpsi hS ?gop (by kernel_rfl) (fun _ _ _ _ h => h) ?gpu ?gend
    case gpsi =>
      intro jG hj uG uG' hG
      simp only [List.map_cons, List.map_nil, List.mem_cons, List.not_mem_nil, or_false] at hj
      rcases hj with rfl | rfl | rfl | rfl | rfl | rfl
      · exact id
      · exact id
      · exact id
      · show (uG 5 = uG 4) → (uG' 5 = uG' 4)
        rw [hG 5 (.inl rfl), hG 4 (.inr (by kernel_rfl))]
        exact id
      · show (∃ a k, uG 5 = .tuple #[a, k] ∧ uG 6 = a) → (∃ a k, uG' 5 = .tuple #[a, k] ∧ uG' 6 = a)
        rw [hG 6 (.inl rfl), hG 5 (.inr (by kernel_rfl))]
        exact id
      · show (∃ a k, uG 5 = .tuple #[a, k] ∧ uG 7 = k) → (∃ a k, uG' 5 = .tuple #[a, k] ∧ uG' 7 = k)
        rw [hG 7 (.inl rfl), hG 5 (.inr (by kernel_rfl))]
        exact id
    case gop =>
      intro xG hx uG w' hdG hB' hS'
      obtain ⟨q1, q2, q3, q4, q5, q6, q7⟩ := hS'
      have hbw : Below g9.heap.size g9 w' := (Below.refl _ _).drew.trans hB'
      simp only [List.mem_cons, List.not_mem_nil, or_false] at hx
      rcases hx with rfl | rfl | rfl | rfl | rfl | rfl
      · skip
        clear hdG
        refine wpOp_step (i := 3) rfl (fun K hK => ?_)
        have hK := Lib.hid hK
        simp only [fills, List.foldl, Act.put, List.setIfInBounds_toArray, List.set_cons_zero, List.set_cons_succ, List.getElem_toArray, List.getElem_cons_zero, List.getElem_cons_succ]
        go_simp
        refine (to6_any (T_g9.out.bel hbw) w' (by have := Hf.out.1; omega) (Keep.refl _ _)).mono ?_
        intro e w6 h
        obtain ⟨_, _, _, _, rfl, hT, hb6⟩ := h
        have hKp : Keep (fun _ => True) w' w6 := (Keep.refl _ _).below hb6
        exact hK.out _ _ ⟨_, rfl, phiL_mk rfl ⟨_, _, _, _, rfl, hT.weaken fun _ h1 h2 => ⟨h2, h1⟩⟩, trivial, hb6, hKp _ _ _ trivial q1, hKp _ _ _ trivial q2, hKp _ _ _ trivial q3, hKp _ _ _ trivial q4, hKp _ _ _ trivial q5, hKp _ _ _ trivial q6, hKp _ _ _ trivial q7⟩
      · skip
        obtain ⟨_, x3, y3, g3⟩ := hdG 3 (by simp) (by kernel_rfl)
        obtain ⟨_, _, _, _, e3, V3⟩ := phiL_at rfl g3
        obtain ⟨m3_pa, m3_pc, m3_qa, m3_qc, rfl, rfl, rfl, rfl⟩ := V3.shape
        rw [Et_n.out, Et_m.out, Et_k.out, Et_i.out] at V3 e3
        obtain ⟨uH3, rfl⟩ := upd_self e3
        clear hdG
        refine wpOp_step (i := 4) rfl (fun K hK => ?_)
        have hK := Lib.hid hK
        simp only [fills, List.foldl, Act.put, List.setIfInBounds_toArray, List.set_cons_zero, List.set_cons_succ, List.getElem_toArray, List.getElem_cons_zero, List.getElem_cons_succ]
        simp only [e3]
        go_simp
        refine (TypeOf_kF Hk2.out Hz2.out Hc2.out (VC_g9.out.bel hbw) (VM_g9.out.bel hbw) (c_g9.out.bel hbw) (V3.weaken (F' := fun _ => True) fun _ _ _ => trivial) Hti.out (by have := Hs.out.2.2.1; omega) (by have := Hf.out.1; omega) Ho2.out).mono ?_
        intro e w6 h
        obtain ⟨_, _, rfl, hT, hb6⟩ := h
        have hKp : Keep (fun _ => True) w' w6 := (Keep.refl _ _).below hb6
        exact hK.out _ _ ⟨_, rfl, phiL_mk rfl ⟨_, _, rfl, hT.weaken fun _ h1 h2 => ⟨h2, h1⟩⟩, trivial, hb6, hKp _ _ _ trivial q1, hKp _ _ _ trivial q2, hKp _ _ _ trivial q3, hKp _ _ _ trivial q4, hKp _ _ _ trivial q5, hKp _ _ _ trivial q6, hKp _ _ _ trivial q7⟩
      · skip
        clear hdG
        refine wpOp_step (i := 8) rfl (fun K hK => ?_)
        have hK := Lib.hid hK
        simp only [fills, List.foldl, Act.put, List.setIfInBounds_toArray, List.set_cons_zero, List.set_cons_succ, List.getElem_toArray, List.getElem_cons_zero, List.getElem_cons_succ]
        go_simp
        have hb6 : Below w'.heap.size w' (w'.alloc (.cells #[.slice none 0 0, .int .i64 0] 40)) := (Below.refl _ _).alloc (Nat.le_refl _) _
        have hKp : Keep (fun _ => True) w' (w'.alloc (.cells #[.slice none 0 0, .int .i64 0] 40)) := (Keep.refl _ _).below hb6
        exact hK.out _ _ ⟨_, rfl, phiL_mk rfl ⟨rfl, by simp, Blk.new _ _ _ rfl⟩, trivial, hb6, hKp _ _ _ trivial q1, hKp _ _ _ trivial q2, hKp _ _ _ trivial q3, hKp _ _ _ trivial q4, hKp _ _ _ trivial q5, hKp _ _ _ trivial q6, hKp _ _ _ trivial q7⟩
      · skip
        obtain ⟨_, x4, y4, g4⟩ := hdG 4 (by simp) (by kernel_rfl)
        obtain ⟨_, _, e4, V4⟩ := phiL_at rfl g4
        obtain ⟨pp_a, pp_c, rfl, rfl⟩ := V4.shape
        obtain ⟨uH4, rfl⟩ := upd_self e4
        clear hdG
        refine wpOp_step (i := 5) rfl (fun K hK => ?_)
        have hK := Lib.hid hK
        simp only [fills, List.foldl, Act.put, List.setIfInBounds_toArray, List.set_cons_zero, List.set_cons_succ, List.getElem_toArray, List.getElem_cons_zero, List.getElem_cons_succ]
        simp only [e4]
        go_simp
        have hb6 : Below w'.heap.size w' w' := Below.refl _ _
        exact hK.out _ _ ⟨_, rfl, phiL_mk rfl ⟨_, _, rfl⟩, rfl, hb6, q1, q2, q3, q4, q5, q6, q7⟩
      · skip
        obtain ⟨_, x5, y5, g5⟩ := hdG 5 (by simp) (by kernel_rfl)
        obtain ⟨a5, k5, e5⟩ := phiL_at rfl g5
        obtain ⟨uH5, rfl⟩ := upd_self e5
        clear hdG
        refine wpOp_step (i := 6) rfl (fun K hK => ?_)
        have hK := Lib.hid hK
        simp only [fills, List.foldl, Act.put, List.setIfInBounds_toArray, List.set_cons_zero, List.set_cons_succ, List.getElem_toArray, List.getElem_cons_zero, List.getElem_cons_succ]
        simp only [e5]
        go_simp
        have hb6 : Below w'.heap.size w' w' := Below.refl _ _
        exact hK.out _ _ ⟨_, rfl, phiL_mk rfl trivial, ⟨_, _, rfl, rfl⟩, hb6, q1, q2, q3, q4, q5, q6, q7⟩
      · skip
        obtain ⟨_, x5, y5, g5⟩ := hdG 5 (by simp) (by kernel_rfl)
        obtain ⟨a5, k5, e5⟩ := phiL_at rfl g5
        obtain ⟨uH5, rfl⟩ := upd_self e5
        clear hdG
        refine wpOp_step (i := 7) rfl (fun K hK => ?_)
        have hK := Lib.hid hK
        simp only [fills, List.foldl, Act.put, List.setIfInBounds_toArray, List.set_cons_zero, List.set_cons_succ, List.getElem_toArray, List.getElem_cons_zero, List.getElem_cons_succ]
        simp only [e5]
        go_simp
        have hb6 : Below w'.heap.size w' w' := Below.refl _ _
        exact hK.out _ _ ⟨_, rfl, phiL_mk rfl trivial, ⟨_, _, rfl, rfl⟩, hb6, q1, q2, q3, q4, q5, q6, q7⟩
    case gpu =>
      intro jG hj uG w' hdG
      simp only [List.mem_cons, List.not_mem_nil, or_false] at hj
      rcases hj with rfl | rfl | rfl
      · skip
        obtain ⟨x4, y4, g4⟩ := hdG 4 (by simp) (by kernel_rfl)
        obtain ⟨_, _, e4, V4⟩ := phiL_at rfl g4
        obtain ⟨pp_a, pp_c, rfl, rfl⟩ := V4.shape
        obtain ⟨uH4, rfl⟩ := upd_self e4
        refine ⟨_, .tuple #[.agg #[.slice pp_a z2.args.length pp_c, .int .i64 z2.base], .int .i64 c2], rfl, Or.inl ⟨by rfl, fun wS _ => ?_⟩, fills_put _ _ (by simp) (by simp) (by simp), phiL_mk rfl ⟨_, _, rfl⟩, rfl⟩
        simp only [fills, List.foldl, Act.put, List.setIfInBounds_toArray, List.set_cons_zero, List.set_cons_succ, List.getElem_toArray, List.getElem_cons_zero, List.getElem_cons_succ]
        simp only [e4]
        go_simp
        try with_reducible rfl
      · skip
        obtain ⟨x5, y5, g5⟩ := hdG 5 (by simp) (by kernel_rfl)
        obtain ⟨a5, k5, e5⟩ := phiL_at rfl g5
        obtain ⟨uH5, rfl⟩ := upd_self e5
        refine ⟨_, a5, rfl, Or.inl ⟨by rfl, fun wS _ => ?_⟩, fills_put _ _ (by simp) (by simp) (by simp), phiL_mk rfl trivial, ⟨_, _, rfl, rfl⟩⟩
        simp only [fills, List.foldl, Act.put, List.setIfInBounds_toArray, List.set_cons_zero, List.set_cons_succ, List.getElem_toArray, List.getElem_cons_zero, List.getElem_cons_succ]
        simp only [e5]
        go_simp
        try with_reducible rfl
      · skip
        obtain ⟨x5, y5, g5⟩ := hdG 5 (by simp) (by kernel_rfl)
        obtain ⟨a5, k5, e5⟩ := phiL_at rfl g5
        obtain ⟨uH5, rfl⟩ := upd_self e5
        refine ⟨_, k5, rfl, Or.inl ⟨by rfl, fun wS _ => ?_⟩, fills_put _ _ (by simp) (by simp) (by simp), phiL_mk rfl trivial, ⟨_, _, rfl, rfl⟩⟩
        simp only [fills, List.foldl, Act.put, List.setIfInBounds_toArray, List.set_cons_zero, List.set_cons_succ, List.getElem_toArray, List.getElem_cons_zero, List.getElem_cons_succ]
        simp only [e5]
        go_simp
        try with_reducible rfl
    case gend =>
      intro uG loG hiG w' hΦ hΨ hB' hS'
      have hbw : Below g9.heap.size g9 w' := (Below.refl _ _).drew.trans hB'
      have hsz : g9.drew.heap.size = g9.heap.size := rfl
      have hsB := B_g9.size
      obtain ⟨g3, n3, m3, o3⟩ := hΦ.1 3 (by simp) rfl
      obtain ⟨_, _, _, _, e3, V3⟩ := phiL_at rfl g3
      obtain ⟨m3_pa, m3_pc, m3_qa, m3_qc, rfl, rfl, rfl, rfl⟩ := V3.shape
      rw [Et_n.out, Et_m.out, Et_k.out, Et_i.out] at V3 e3
      obtain ⟨g4, n4, m4, o4⟩ := hΦ.1 4 (by simp) rfl
      obtain ⟨_, _, e4, V4⟩ := phiL_at rfl g4
      obtain ⟨pp_a, pp_c, rfl, rfl⟩ := V4.shape
      obtain ⟨g8, n8, m8, o8⟩ := hΦ.1 8 (by simp) rfl
      obtain ⟨e8, r8, Z8⟩ := phiL_at rfl g8
      obtain ⟨g5, n5, m5, o5⟩ := hΦ.1 5 (by simp) rfl
      obtain ⟨g6, n6, m6, o6⟩ := hΦ.1 6 (by simp) rfl
      obtain ⟨g7, n7, m7, o7⟩ := hΦ.1 7 (by simp) rfl
      have k3_8 := hΦ.2 3 (by simp) 8 (by simp) rfl rfl (by decide)
      have k4_8 := hΦ.2 4 (by simp) 8 (by simp) rfl rfl (by decide)
      have k5_8 := hΦ.2 5 (by simp) 8 (by simp) rfl rfl (by decide)
      have k6_8 := hΦ.2 6 (by simp) 8 (by simp) rfl rfl (by decide)
      have k7_8 := hΦ.2 7 (by simp) 8 (by simp) rfl rfl (by decide)
      have e5 : uG 5 = uG 4 := hΨ 5 (by simp)
      rw [e4] at e5
      obtain ⟨_, _, h1, e6⟩ : ∃ a k, uG 5 = .tuple #[a, k] ∧ uG 6 = a := hΨ 6 (by simp)
      rw [e5] at h1
      cases h1
      obtain ⟨_, _, h1, e7⟩ : ∃ a k, uG 5 = .tuple #[a, k] ∧ uG 7 = k := hΨ 7 (by simp)
      rw [e5] at h1
      cases h1
      clear hΨ
      clear hΦ g3 g4 g8 g5 g6 g7
      simp only [fills, List.foldl, Act.put, List.setIfInBounds_toArray, List.set_cons_zero, List.set_cons_succ, List.getElem_toArray, List.getElem_cons_zero, List.getElem_cons_succ]
      rw [e3, e4, e8, e5, e6, e7]
      clear e3 e4 e8 e5 e6 e7
      rw [hsz] at n3 n4 n8 n5 n6 n7
      generalize loG 8 = q at *
      have U4 := Lib.hid (V4.weaken (F' := fun z => z ≠ q) fun z _ h => by omega)
      clear V3 V4 k3_8 k4_8 k5_8 k6_8 k7_8
      have rq_0 : w'.cell? ⟨q, 0, none⟩ = some (.slice none 0 0) := Z8.cell rfl
      have fq_0 := Z8.free 0
      have rq_1 : w'.cell? ⟨q, 1, none⟩ = some (.int .i64 0) := Z8.cell rfl
      have fq_1 := Z8.free 1
      refine wpN_step (i := 9) (by kernel_rfl) rfl (fun K hK => ?_)
      have hK := Lib.hid hK
      simp only [Act.put, List.setIfInBounds_toArray, List.set_cons_zero, List.set_cons_succ, List.getElem_toArray, List.getElem_cons_zero, List.getElem_cons_succ]
      go_simp
      refine hK.out.out _ _ (fun h => absurd h (by decide)) ?_
      refine wpN_step (i := 10) (by kernel_rfl) rfl (fun K hK => ?_)
      have hK := Lib.hid hK
      simp only [Act.put, List.setIfInBounds_toArray, List.set_cons_zero, List.set_cons_succ, List.getElem_toArray, List.getElem_cons_zero, List.getElem_cons_succ]
      go_simp
      refine hK.out.out _ _ (fun h => absurd h (by decide)) ?_
      refine wpN_done (by kernel_rfl) ?_
      refine NoPanic.normal ?_
      obtain ⟨j0, hj0⟩ : ∃ x, ((w'.setCell ⟨q, 0, none⟩ (.slice pp_a z2.args.length pp_c)).setCell ⟨q, 1, none⟩ (.int .i64 z2.base)) = x := ⟨_, rfl⟩
      rw [hj0]
      have Lx0 := x0_g9.lt
      have Lx2 := x2_g9.lt
      have Lyp := yp_g9.lt
      have B6 := B_g9.trans (hbw.mono B_g9.size)
      have x0_j0 : Blk j0 (w.heap.size) #[.int .i64 b, .slice ca C.length cc, .slice ma M.length mc] 87 := by rw [← hj0]; exact ((x0_g9.below hbw).far _ _ (by simp; omega)).far _ _ (by simp; omega)
      have x2_j0 : Blk j0 (w.heap.size + 1 + 1) #[.slice t_pa t_n t_pc, .int .i64 t_k, .int .i64 t_i, .slice t_qa t_m t_qc] 29 := by rw [← hj0]; exact ((x2_g9.below hbw).far _ _ (by simp; omega)).far _ _ (by simp; omega)
      have yp_j0 : Blk j0 (p) #[.int .i64 b, .slice V_ca C.length V_cc, .slice V_ma M.length V_mc] 90 := by rw [← hj0]; exact ((yp_g9.below hbw).far _ _ (by simp; omega)).far _ _ (by simp; omega)
      have yq_j0 : Blk j0 q #[.slice pp_a z2.args.length pp_c, .int .i64 z2.base] 40 := by rw [← hj0]; exact ((Z8).set 0 _).set 1 _
      have nq : g9.heap.size ≤ q := n8
      have KU : Keep (fun z => z ≠ q) w' j0 := by rw [← hj0]; exact ((Keep.refl _ _).setCell _ _ (by simp)).setCell _ _ (by simp)
      have KT : Keep (fun z => z < g9.heap.size) g9 j0 := by rw [← hj0]; exact (((Keep.refl _ _).below hbw).setCell _ _ (by simp; omega)).setCell _ _ (by simp; omega)
      have B_j0 : Below w.heap.size w j0 := by rw [← hj0]; exact ((B6).setCell (by simp; omega) _).setCell (by simp; omega) _
      have pp_j0 := Lib.hid ((U4.out.keep KU).weaken (F' := fun _ => True) fun _ _ _ => trivial)
      have T_j0 := Lib.hid (((T_g9.out.weaken (F' := fun z => z < g9.heap.size) fun z hz _ => hz).keep KT).weaken (F' := fun _ => True) fun _ _ _ => trivial)
      have C_j0 := Lib.hid (((C_g9.out.weaken (F' := fun z => z < g9.heap.size) (by decide) fun z hz _ => hz).keep KT).weaken (F' := fun _ => True) (by decide) fun _ _ _ => trivial)
      have M_j0 := Lib.hid (((M_g9.out.weaken (F' := fun z => z < g9.heap.size) (by decide) fun z hz _ => hz).keep KT).weaken (F' := fun _ => True) (by decide) fun _ _ _ => trivial)
      have X_j0 := Lib.hid (((X_g9.out.weaken (F' := fun z => z < g9.heap.size) (by decide) fun z hz _ => hz).keep KT).weaken (F' := fun _ => True) (by decide) fun _ _ _ => trivial)
      have Z_j0 := Lib.hid (((Z_g9.out.weaken (F' := fun z => z < g9.heap.size) (by decide) fun z hz _ => hz).keep KT).weaken (F' := fun _ => True) (by decide) fun _ _ _ => trivial)
      have VC_j0 := Lib.hid (((VC_g9.out.weaken (F' := fun z => z < g9.heap.size) (by decide) fun z hz _ => hz).keep KT).weaken (F' := fun _ => True) (by decide) fun _ _ _ => trivial)
      have VM_j0 := Lib.hid (((VM_g9.out.weaken (F' := fun z => z < g9.heap.size) (by decide) fun z hz _ => hz).keep KT).weaken (F' := fun _ => True) (by decide) fun _ _ _ => trivial)
      have c_j0 := Lib.hid (((c_g9.out.weaken (F' := fun z => z < g9.heap.size) (by decide) fun z hz _ => hz).keep KT).weaken (F' := fun _ => True) (by decide) fun _ _ _ => trivial)
      clear hj0 KU KT U4 x0_g9 x2_g9 yp_g9 T_g9 C_g9 M_g9 X_g9 Z_g9 VC_g9 VM_g9 c_g9 B_g9 Z8 rq_0 fq_0 rq_1 fq_1 Lx0 Lx2 Lyp hbw hB' B6 hS hS' hsz hsB n3 n4 n8 n5 n6 n7 m3 m4 m8 m5 m6 m7 o3 o4 o8 o5 o6 o7 r8
      go_wp2_with fail
      rcases D2 with ⟨rfl, rfl⟩ | ⟨rfl, rfl⟩
      · skip
        refine wp_region_noPanic (wp_region_need (S := fun w' => w'.cell? ⟨w.heap.size + 1 + 1, 0, none⟩ = some (.slice t_pa t_n t_pc) ∧ w'.cell? ⟨w.heap.size + 1 + 1, 1, none⟩ = some (.int .i64 t_k) ∧ w'.cell? ⟨w.heap.size + 1 + 1, 2, none⟩ = some (.int .i64 t_i) ∧ w'.cell? ⟨w.heap.size + 1 + 1, 3, none⟩ = some (.slice t_qa t_m t_qc) ∧ w'.cell? ⟨p, 0, none⟩ = some (.int .i64 b) ∧ w'.cell? ⟨p, 1, none⟩ = some (.slice V_ca C.length V_cc) ∧ w'.cell? ⟨p, 2, none⟩ = some (.slice V_ma M.length V_mc) ∧ w'.cell? ⟨q, 0, none⟩ = some (.slice pp_a z2.args.length pp_c) ∧ w'.cell? ⟨q, 1, none⟩ = some (.int .i64 z2.base)) (by kernel_rfl) ?_)
        have hS : (j0.drew).cell? ⟨w.heap.size + 1 + 1, 0, none⟩ = some (.slice t_pa t_n t_pc) ∧ (j0.drew).cell? ⟨w.heap.size + 1 + 1, 1, none⟩ = some (.int .i64 t_k) ∧ (j0.drew).cell? ⟨w.heap.size + 1 + 1, 2, none⟩ = some (.int .i64 t_i) ∧ (j0.drew).cell? ⟨w.heap.size + 1 + 1, 3, none⟩ = some (.slice t_qa t_m t_qc) ∧ (j0.drew).cell? ⟨p, 0, none⟩ = some (.int .i64 b) ∧ (j0.drew).cell? ⟨p, 1, none⟩ = some (.slice V_ca C.length V_cc) ∧ (j0.drew).cell? ⟨p, 2, none⟩ = some (.slice V_ma M.length V_mc) ∧ (j0.drew).cell? ⟨q, 0, none⟩ = some (.slice pp_a z2.args.length pp_c) ∧ (j0.drew).cell? ⟨q, 1, none⟩ = some (.int .i64 z2.base) := ⟨x2_j0.drew.cell rfl, x2_j0.drew.cell rfl, x2_j0.drew.cell rfl, x2_j0.drew.cell rfl, yp_j0.drew.cell rfl, yp_j0.drew.cell rfl, yp_j0.drew.cell rfl, yq_j0.drew.cell rfl, yq_j0.drew.cell rfl⟩
        refine wpN_take (i := 0) (v := ?v10) rfl (by kernel_rfl) (fun _ _ _ h => h) hS (Or.inl ⟨by rfl, ?hy10⟩) ?hr10
        case hy10 => (intro wS hSw; (try dsimp only at hSw); go_simp; (try with_reducible rfl))
        try simp only [Act.put, List.setIfInBounds_toArray, List.set_cons_zero, List.set_cons_succ, List.getElem_toArray, List.getElem_cons_zero, List.getElem_cons_succ]
        refine wpN_take (i := 1) (v := ?v11) rfl (by kernel_rfl) (fun _ _ _ h => h) hS (Or.inl ⟨by rfl, ?hy11⟩) ?hr11
        case hy11 => (intro wS hSw; (try dsimp only at hSw); go_simp; (try with_reducible rfl))
        try simp only [Act.put, List.setIfInBounds_toArray, List.set_cons_zero, List.set_cons_succ, List.getElem_toArray, List.getElem_cons_zero, List.getElem_cons_succ]
        refine wpN_take (i := 2) (v := ?v12) rfl (by kernel_rfl) (fun _ _ _ h => h) hS (Or.inl ⟨by rfl, ?hy12⟩) ?hr12
        case hy12 => (intro wS hSw; (try dsimp only at hSw); go_simp; (try with_reducible rfl))
        try simp only [Act.put, List.setIfInBounds_toArray, List.set_cons_zero, List.set_cons_succ, List.getElem_toArray, List.getElem_cons_zero, List.getElem_cons_succ]
        refine wpN_pure (i := 3) (v := undef) rfl (by kernel_rfl) (fun _ _ _ h => h) (Or.inr ⟨by rfl, rfl⟩) ?_
        try simp only [Act.put, List.setIfInBounds_toArray, List.set_cons_zero, List.set_cons_succ, List.getElem_toArray, List.getElem_cons_zero, List.getElem_cons_succ]
        refine wpN_pure (i := 4) (v := undef) rfl (by kernel_rfl) (fun _ _ _ h => h) (Or.inr ⟨by rfl, rfl⟩) ?_
        try simp only [Act.put, List.setIfInBounds_toArray, List.set_cons_zero, List.set_cons_succ, List.getElem_toArray, List.getElem_cons_zero, List.getElem_cons_succ]
        refine wpN_pure (i := 5) (v := undef) rfl (by kernel_rfl) (fun _ _ _ h => h) (Or.inr ⟨by rfl, rfl⟩) ?_
        try simp only [Act.put, List.setIfInBounds_toArray, List.set_cons_zero, List.set_cons_succ, List.getElem_toArray, List.getElem_cons_zero, List.getElem_cons_succ]
        refine wpN_pure (i := 6) (v := undef) rfl (by kernel_rfl) (fun _ _ _ h => h) (Or.inr ⟨by rfl, rfl⟩) ?_
        try simp only [Act.put, List.setIfInBounds_toArray, List.set_cons_zero, List.set_cons_succ, List.getElem_toArray, List.getElem_cons_zero, List.getElem_cons_succ]
        refine wpN_pure (i := 7) (v := undef) rfl (by kernel_rfl) (fun _ _ _ h => h) (Or.inr ⟨by rfl, rfl⟩) ?_
        try simp only [Act.put, List.setIfInBounds_toArray, List.set_cons_zero, List.set_cons_succ, List.getElem_toArray, List.getElem_cons_zero, List.getElem_cons_succ]
        refine wpN_pure (i := 8) (v := undef) rfl (by kernel_rfl) (fun _ _ _ h => h) (Or.inr ⟨by rfl, rfl⟩) ?_
        try simp only [Act.put, List.setIfInBounds_toArray, List.set_cons_zero, List.set_cons_succ, List.getElem_toArray, List.getElem_cons_zero, List.getElem_cons_succ]
        refine wpN_pure (i := 9) (v := undef) rfl (by kernel_rfl) (fun _ _ _ h => h) (Or.inr ⟨by rfl, rfl⟩) ?_
        try simp only [Act.put, List.setIfInBounds_toArray, List.set_cons_zero, List.set_cons_succ, List.getElem_toArray, List.getElem_cons_zero, List.getElem_cons_succ]
        refine wpN_take (i := 10) (v := ?v13) rfl (by kernel_rfl) (fun _ _ _ h => h) hS (Or.inl ⟨by rfl, ?hy13⟩) ?hr13
        case hy13 => (intro wS hSw; (try dsimp only at hSw); go_simp; (try with_reducible rfl))
        try simp only [Act.put, List.setIfInBounds_toArray, List.set_cons_zero, List.set_cons_succ, List.getElem_toArray, List.getElem_cons_zero, List.getElem_cons_succ]
        refine wpN_done (by kernel_rfl) ?_
        refine NoPanic.normal ?_
        clear hS
        go_wp2_with fail
        refine (known06 _).mono ?_
        rintro e wk ⟨rfl, hbk⟩
        go_wp2_with fail
        go_ret
        exact ⟨rfl, B_j0.drew.trans (hbk.mono B_j0.size)⟩
      refine wp_region_noPanic (wp_region_need (S := fun w' => w'.cell? ⟨w.heap.size + 1 + 1, 0, none⟩ = some (.slice t_pa t_n t_pc) ∧ w'.cell? ⟨w.heap.size + 1 + 1, 1, none⟩ = some (.int .i64 t_k) ∧ w'.cell? ⟨w.heap.size + 1 + 1, 2, none⟩ = some (.int .i64 t_i) ∧ w'.cell? ⟨w.heap.size + 1 + 1, 3, none⟩ = some (.slice t_qa t_m t_qc) ∧ w'.cell? ⟨p, 0, none⟩ = some (.int .i64 b) ∧ w'.cell? ⟨p, 1, none⟩ = some (.slice V_ca C.length V_cc) ∧ w'.cell? ⟨p, 2, none⟩ = some (.slice V_ma M.length V_mc) ∧ w'.cell? ⟨q, 0, none⟩ = some (.slice pp_a z2.args.length pp_c) ∧ w'.cell? ⟨q, 1, none⟩ = some (.int .i64 z2.base)) (by kernel_rfl) ?_)
      have hS : (j0.drew).cell? ⟨w.heap.size + 1 + 1, 0, none⟩ = some (.slice t_pa t_n t_pc) ∧ (j0.drew).cell? ⟨w.heap.size + 1 + 1, 1, none⟩ = some (.int .i64 t_k) ∧ (j0.drew).cell? ⟨w.heap.size + 1 + 1, 2, none⟩ = some (.int .i64 t_i) ∧ (j0.drew).cell? ⟨w.heap.size + 1 + 1, 3, none⟩ = some (.slice t_qa t_m t_qc) ∧ (j0.drew).cell? ⟨p, 0, none⟩ = some (.int .i64 b) ∧ (j0.drew).cell? ⟨p, 1, none⟩ = some (.slice V_ca C.length V_cc) ∧ (j0.drew).cell? ⟨p, 2, none⟩ = some (.slice V_ma M.length V_mc) ∧ (j0.drew).cell? ⟨q, 0, none⟩ = some (.slice pp_a z2.args.length pp_c) ∧ (j0.drew).cell? ⟨q, 1, none⟩ = some (.int .i64 z2.base) := ⟨x2_j0.drew.cell rfl, x2_j0.drew.cell rfl, x2_j0.drew.cell rfl, x2_j0.drew.cell rfl, yp_j0.drew.cell rfl, yp_j0.drew.cell rfl, yp_j0.drew.cell rfl, yq_j0.drew.cell rfl, yq_j0.drew.cell rfl⟩
      refine wpN_take (i := 0) (v := ?v14) rfl (by kernel_rfl) (fun _ _ _ h => h) hS (Or.inl ⟨by rfl, ?hy14⟩) ?hr14
      case hy14 => (intro wS hSw; (try dsimp only at hSw); go_simp; (try with_reducible rfl))
      try simp only [Act.put, List.setIfInBounds_toArray, List.set_cons_zero, List.set_cons_succ, List.getElem_toArray, List.getElem_cons_zero, List.getElem_cons_succ]
      refine wpN_take (i := 1) (v := ?v15) rfl (by kernel_rfl) (fun _ _ _ h => h) hS (Or.inl ⟨by rfl, ?hy15⟩) ?hr15
      case hy15 => (intro wS hSw; (try dsimp only at hSw); go_simp; (try with_reducible rfl))
      try simp only [Act.put, List.setIfInBounds_toArray, List.set_cons_zero, List.set_cons_succ, List.getElem_toArray, List.getElem_cons_zero, List.getElem_cons_succ]
      refine wpN_take (i := 2) (v := ?v16) rfl (by kernel_rfl) (fun _ _ _ h => h) hS (Or.inl ⟨by rfl, ?hy16⟩) ?hr16
      case hy16 => (intro wS hSw; (try dsimp only at hSw); go_simp; (try with_reducible rfl))
      try simp only [Act.put, List.setIfInBounds_toArray, List.set_cons_zero, List.set_cons_succ, List.getElem_toArray, List.getElem_cons_zero, List.getElem_cons_succ]
      refine wpN_take (i := 3) (v := ?v17) rfl (by kernel_rfl) (fun _ _ _ h => h) hS (Or.inl ⟨by rfl, ?hy17⟩) ?hr17
      case hy17 => (intro wS hSw; (try dsimp only at hSw); go_simp; (try with_reducible rfl))
      try simp only [Act.put, List.setIfInBounds_toArray, List.set_cons_zero, List.set_cons_succ, List.getElem_toArray, List.getElem_cons_zero, List.getElem_cons_succ]
      refine wpN_take (i := 4) (v := ?v18) rfl (by kernel_rfl) (fun _ _ _ h => h) hS (Or.inl ⟨by rfl, ?hy18⟩) ?hr18
      case hy18 => (intro wS hSw; (try dsimp only at hSw); go_simp; (try with_reducible rfl))
      try simp only [Act.put, List.setIfInBounds_toArray, List.set_cons_zero, List.set_cons_succ, List.getElem_toArray, List.getElem_cons_zero, List.getElem_cons_succ]
      refine wpN_take (i := 5) (v := ?v19) rfl (by kernel_rfl) (fun _ _ _ h => h) hS (Or.inl ⟨by rfl, ?hy19⟩) ?hr19
      case hy19 => (intro wS hSw; (try dsimp only at hSw); go_simp; (try with_reducible rfl))
      try simp only [Act.put, List.setIfInBounds_toArray, List.set_cons_zero, List.set_cons_succ, List.getElem_toArray, List.getElem_cons_zero, List.getElem_cons_succ]
      refine wpN_take (i := 7) (v := ?v20) rfl (by kernel_rfl) (fun _ _ _ h => h) hS (Or.inl ⟨by rfl, ?hy20⟩) ?hr20
      case hy20 => (intro wS hSw; (try dsimp only at hSw); go_simp; (try with_reducible rfl))
      try simp only [Act.put, List.setIfInBounds_toArray, List.set_cons_zero, List.set_cons_succ, List.getElem_toArray, List.getElem_cons_zero, List.getElem_cons_succ]
      refine wpN_step (i := 6) (by kernel_rfl) rfl (fun K hK => ?_)
      go_simp
      refine (to6_any T_j0.out j0.drew (by have := Hf.out.1; omega) (Keep.refl _ _).drew).mono ?_
      intro e m1 h
      obtain ⟨_, _, _, _, rfl, hT, hbx0⟩ := h
      have O_m1 := Lib.hid (hT.weaken (F' := fun _ => True) fun _ _ _ => trivial)
      clear hT
      obtain ⟨O_pa, O_pc, O_qa, O_qc, rfl, rfl, rfl, rfl⟩ := O_m1.out.shape
      rw [Et_n.out, Et_m.out, Et_k.out, Et_i.out] at O_m1 ⊢
      have hbx : Below j0.heap.size j0 m1 := (Below.refl _ _).drew.trans hbx0
      clear hbx0
      have x0_m1 := x0_j0.below hbx
      have x2_m1 := x2_j0.below hbx
      have yp_m1 := yp_j0.below hbx
      have yq_m1 := yq_j0.below hbx
      have T_m1 := Lib.hid (T_j0.out.bel hbx)
      have C_m1 := Lib.hid (C_j0.out.bel hbx)
      have M_m1 := Lib.hid (M_j0.out.bel hbx)
      have X_m1 := Lib.hid (X_j0.out.bel hbx)
      have Z_m1 := Lib.hid (Z_j0.out.bel hbx)
      have VC_m1 := Lib.hid (VC_j0.out.bel hbx)
      have VM_m1 := Lib.hid (VM_j0.out.bel hbx)
      have c_m1 := Lib.hid (c_j0.out.bel hbx)
      have pp_m1 := Lib.hid (pp_j0.out.bel hbx)
      have B_m1 := B_j0.trans (hbx.mono B_j0.size)
      clear x0_j0 x2_j0 yp_j0 yq_j0 T_j0 C_j0 M_j0 X_j0 Z_j0 VC_j0 VM_j0 c_j0 pp_j0 B_j0 hbx
      have hS : (m1).cell? ⟨w.heap.size + 1 + 1, 0, none⟩ = some (.slice t_pa t_n t_pc) ∧ (m1).cell? ⟨w.heap.size + 1 + 1, 1, none⟩ = some (.int .i64 t_k) ∧ (m1).cell? ⟨w.heap.size + 1 + 1, 2, none⟩ = some (.int .i64 t_i) ∧ (m1).cell? ⟨w.heap.size + 1 + 1, 3, none⟩ = some (.slice t_qa t_m t_qc) ∧ (m1).cell? ⟨p, 0, none⟩ = some (.int .i64 b) ∧ (m1).cell? ⟨p, 1, none⟩ = some (.slice V_ca C.length V_cc) ∧ (m1).cell? ⟨p, 2, none⟩ = some (.slice V_ma M.length V_mc) ∧ (m1).cell? ⟨q, 0, none⟩ = some (.slice pp_a z2.args.length pp_c) ∧ (m1).cell? ⟨q, 1, none⟩ = some (.int .i64 z2.base) := ⟨x2_m1.cell rfl, x2_m1.cell rfl, x2_m1.cell rfl, x2_m1.cell rfl, yp_m1.cell rfl, yp_m1.cell rfl, yp_m1.cell rfl, yq_m1.cell rfl, yq_m1.cell rfl⟩
      refine hK.out _ _ (fun _ => hS) ?_
      clear hK K
      try simp only [Act.put, List.setIfInBounds_toArray, List.set_cons_zero, List.set_cons_succ, List.getElem_toArray, List.getElem_cons_zero, List.getElem_cons_succ]
      refine wpN_step (i := 8) (by kernel_rfl) rfl (fun K hK => ?_)
      go_simp
      refine (Check_kT VC_m1.out VM_m1.out c_m1.out O_m1.out pp_m1.out (by have := Hf.out.1; have := Hs.out.2.2.1; omega) Hfit.out).mono ?_
      rintro e m2 ⟨cA, HcA, rfl, hbx0⟩
      have hbx : Below m1.heap.size m1 m2 := hbx0
      clear hbx0
      have x0_m2 := x0_m1.below hbx
      have x2_m2 := x2_m1.below hbx
      have yp_m2 := yp_m1.below hbx
      have yq_m2 := yq_m1.below hbx
      have T_m2 := Lib.hid (T_m1.out.bel hbx)
      have C_m2 := Lib.hid (C_m1.out.bel hbx)
      have M_m2 := Lib.hid (M_m1.out.bel hbx)
      have X_m2 := Lib.hid (X_m1.out.bel hbx)
      have Z_m2 := Lib.hid (Z_m1.out.bel hbx)
      have VC_m2 := Lib.hid (VC_m1.out.bel hbx)
      have VM_m2 := Lib.hid (VM_m1.out.bel hbx)
      have c_m2 := Lib.hid (c_m1.out.bel hbx)
      have pp_m2 := Lib.hid (pp_m1.out.bel hbx)
      have O_m2 := Lib.hid (O_m1.out.bel hbx)
      have B_m2 := B_m1.trans (hbx.mono B_m1.size)
      clear x0_m1 x2_m1 yp_m1 yq_m1 T_m1 C_m1 M_m1 X_m1 Z_m1 VC_m1 VM_m1 c_m1 pp_m1 O_m1 B_m1 hbx
      have hS : (m2).cell? ⟨w.heap.size + 1 + 1, 0, none⟩ = some (.slice t_pa t_n t_pc) ∧ (m2).cell? ⟨w.heap.size + 1 + 1, 1, none⟩ = some (.int .i64 t_k) ∧ (m2).cell? ⟨w.heap.size + 1 + 1, 2, none⟩ = some (.int .i64 t_i) ∧ (m2).cell? ⟨w.heap.size + 1 + 1, 3, none⟩ = some (.slice t_qa t_m t_qc) ∧ (m2).cell? ⟨p, 0, none⟩ = some (.int .i64 b) ∧ (m2).cell? ⟨p, 1, none⟩ = some (.slice V_ca C.length V_cc) ∧ (m2).cell? ⟨p, 2, none⟩ = some (.slice V_ma M.length V_mc) ∧ (m2).cell? ⟨q, 0, none⟩ = some (.slice pp_a z2.args.length pp_c) ∧ (m2).cell? ⟨q, 1, none⟩ = some (.int .i64 z2.base) := ⟨x2_m2.cell rfl, x2_m2.cell rfl, x2_m2.cell rfl, x2_m2.cell rfl, yp_m2.cell rfl, yp_m2.cell rfl, yp_m2.cell rfl, yq_m2.cell rfl, yq_m2.cell rfl⟩
      refine hK.out _ _ (fun _ => hS) ?_
      clear hK K
      try simp only [Act.put, List.setIfInBounds_toArray, List.set_cons_zero, List.set_cons_succ, List.getElem_toArray, List.getElem_cons_zero, List.getElem_cons_succ]
      clear O_m2
      by_cases hA : cA = 0
      rotate_left
      · have g1 : (cA == 0) = false := by simpa using hA
        have g2 : (cA != 0) = true := by simpa using hA
        refine wpN_take (i := 9) (v := ?v21) rfl (by kernel_rfl) (fun _ _ _ h => h) hS (Or.inl ⟨by rfl, ?hy21⟩) ?hr21
        case hy21 => (intro wS hSw; (try dsimp only at hSw); go_simp; (try with_reducible rfl))
        try simp only [Act.put, List.setIfInBounds_toArray, List.set_cons_zero, List.set_cons_succ, List.getElem_toArray, List.getElem_cons_zero, List.getElem_cons_succ]
        refine wpN_take (i := 10) (v := ?v22) rfl (by kernel_rfl) (fun _ _ _ h => h) hS (Or.inl ⟨by rfl, ?hy22⟩) ?hr22
        case hy22 => (intro wS hSw; (try dsimp only at hSw); go_simp; (try with_reducible rfl))
        try simp only [Act.put, List.setIfInBounds_toArray, List.set_cons_zero, List.set_cons_succ, List.getElem_toArray, List.getElem_cons_zero, List.getElem_cons_succ]
        refine wpN_done (by kernel_rfl) ?_
        refine NoPanic.normal ?_
        clear hS
        go_wp2_with fail
        refine (known06 _).mono ?_
        rintro e wk ⟨rfl, hbk⟩
        go_wp2_with fail
        go_ret
        exact ⟨rfl, B_m2.trans (hbk.mono B_m2.size)⟩
      subst hA
      have HL := Lib.hid (Hlaw.out z2 (checkCode_zero HcA.out))
      clear HcA
      refine wpN_take (i := 9) (v := ?v23) rfl (by kernel_rfl) (fun _ _ _ h => h) hS (Or.inl ⟨by rfl, ?hy23⟩) ?hr23
      case hy23 => (intro wS hSw; (try dsimp only at hSw); go_simp; (try with_reducible rfl))
      try simp only [Act.put, List.setIfInBounds_toArray, List.set_cons_zero, List.set_cons_succ, List.getElem_toArray, List.getElem_cons_zero, List.getElem_cons_succ]
      refine wpN_take (i := 10) (v := ?v24) rfl (by kernel_rfl) (fun _ _ _ h => h) hS (Or.inl ⟨by rfl, ?hy24⟩) ?hr24
      case hy24 => (intro wS hSw; (try dsimp only at hSw); go_simp; (try with_reducible rfl))
      try simp only [Act.put, List.setIfInBounds_toArray, List.set_cons_zero, List.set_cons_succ, List.getElem_toArray, List.getElem_cons_zero, List.getElem_cons_succ]
      refine wpN_done (by kernel_rfl) ?_
      refine NoPanic.normal ?_
      clear hS
      obtain ⟨S, hSS⟩ : ∃ S, t.mapl (grow Z.length 0) 0 = S := ⟨_, rfl⟩
      obtain ⟨L, hL⟩ : ∃ L, (t.looses 0).foldl looseL 0 = L := ⟨_, rfl⟩
      rw [hSS, hL] at HL
      have HlL := Lib.hid hL
      have hLe : L ≤ (X.length : Int) := HL.out.2.2
      have HSf := Lib.hid (Tm.shift_fit (b := (Z.length : Int)) (f := 0) Hfit.out (by have := Hf.out.1; omega))
      rw [HL.out.1] at HSf
      clear hSS hL
      obtain ⟨S_n, hn1⟩ : ∃ x, S.binds.length = x := ⟨_, rfl⟩
      obtain ⟨S_m, hn2⟩ : ∃ x, S.args.length = x := ⟨_, rfl⟩
      obtain ⟨S_k, hn3⟩ : ∃ x, S.kind = x := ⟨_, rfl⟩
      obtain ⟨S_i, hn4⟩ : ∃ x, S.index = x := ⟨_, rfl⟩
      have ES_n := Lib.hid hn1; have ES_m := Lib.hid hn2; have ES_k := Lib.hid hn3; have ES_i := Lib.hid hn4
      clear hn1 hn2 hn3 hn4
      have cx20 : m2.cell? ⟨w.heap.size + 1 + 1, 0, none⟩ = some (.slice t_pa t_n t_pc) := x2_m2.cell rfl
      have cx21 : m2.cell? ⟨w.heap.size + 1 + 1, 1, none⟩ = some (.int .i64 t_k) := x2_m2.cell rfl
      have cx22 : m2.cell? ⟨w.heap.size + 1 + 1, 2, none⟩ = some (.int .i64 t_i) := x2_m2.cell rfl
      have cx23 : m2.cell? ⟨w.heap.size + 1 + 1, 3, none⟩ = some (.slice t_qa t_m t_qc) := x2_m2.cell rfl
      have lx2 := x2_m2.lt
      go_wp2_with fail
      clear cx20 cx21 cx22 cx23 lx2
      refine (to6_any T_m2.out m2 (by have := Hf.out.1; omega) (Keep.refl _ _)).mono ?_
      intro e n0 h
      obtain ⟨_, _, _, _, rfl, hT, hbx0⟩ := h
      have O_n0 := Lib.hid (hT.weaken (F' := fun _ => True) fun _ _ _ => trivial)
      clear hT
      obtain ⟨O_pa, O_pc, O_qa, O_qc, rfl, rfl, rfl, rfl⟩ := O_n0.out.shape
      rw [Et_n.out, Et_m.out, Et_k.out, Et_i.out] at O_n0 ⊢
      have hbx : Below m2.heap.size m2 n0 := hbx0
      clear hbx0
      have x0_n0 := x0_m2.below hbx
      have x2_n0 := x2_m2.below hbx
      have yp_n0 := yp_m2.below hbx
      have yq_n0 := yq_m2.below hbx
      have T_n0 := Lib.hid (T_m2.out.bel hbx)
      have C_n0 := Lib.hid (C_m2.out.bel hbx)
      have M_n0 := Lib.hid (M_m2.out.bel hbx)
      have X_n0 := Lib.hid (X_m2.out.bel hbx)
      have Z_n0 := Lib.hid (Z_m2.out.bel hbx)
      have VC_n0 := Lib.hid (VC_m2.out.bel hbx)
      have VM_n0 := Lib.hid (VM_m2.out.bel hbx)
      have c_n0 := Lib.hid (c_m2.out.bel hbx)
      have pp_n0 := Lib.hid (pp_m2.out.bel hbx)
      have B_n0 := B_m2.trans (hbx.mono B_m2.size)
      clear x0_m2 x2_m2 yp_m2 yq_m2 T_m2 C_m2 M_m2 X_m2 Z_m2 VC_m2 VM_m2 c_m2 pp_m2 B_m2 hbx
      have Hsh := Lib.hid (shift_k O_n0.out (by have := Hf.out.1; omega) Hfit.out (Z.length : Int) 0 (by have := Hzl.out; omega) (by omega))
      rw [HL.out.1] at Hsh
      go_wp2_with fail
      refine (Hsh.out).mono ?_
      rintro e n1 ⟨_, _, _, _, rfl, hT, hbx0⟩
      have hbx : Below n0.heap.size n0 n1 := hbx0
      clear hbx0
      have x0_n1 := x0_n0.below hbx
      have x2_n1 := x2_n0.below hbx
      have yp_n1 := yp_n0.below hbx
      have yq_n1 := yq_n0.below hbx
      have T_n1 := Lib.hid (T_n0.out.bel hbx)
      have C_n1 := Lib.hid (C_n0.out.bel hbx)
      have M_n1 := Lib.hid (M_n0.out.bel hbx)
      have X_n1 := Lib.hid (X_n0.out.bel hbx)
      have Z_n1 := Lib.hid (Z_n0.out.bel hbx)
      have VC_n1 := Lib.hid (VC_n0.out.bel hbx)
      have VM_n1 := Lib.hid (VM_n0.out.bel hbx)
      have c_n1 := Lib.hid (c_n0.out.bel hbx)
      have pp_n1 := Lib.hid (pp_n0.out.bel hbx)
      have O_n1 := Lib.hid (O_n0.out.bel hbx)
      have B_n1 := B_n0.trans (hbx.mono B_n0.size)
      clear x0_n0 x2_n0 yp_n0 yq_n0 T_n0 C_n0 M_n0 X_n0 Z_n0 VC_n0 VM_n0 c_n0 pp_n0 O_n0 B_n0 hbx
      have S_n1 := Lib.hid (hT.weaken (F' := fun _ => True) fun _ _ _ => trivial)
      clear hT Hsh
      clear O_n1
      obtain ⟨sb, sc, sd, se, rfl, rfl, rfl, rfl⟩ := S_n1.out.shape
      rw [ES_n.out, ES_m.out, ES_k.out, ES_i.out] at S_n1 ⊢
      go_wp2_with fail
      obtain ⟨n2, hn2⟩ : ∃ n2, n1.alloc (.cells #[.slice sb S_n sc, .int .i64 S_k, .int .i64 S_i, .slice sd S_m se] 37) = n2 := ⟨_, rfl⟩
      obtain ⟨sp, hsp⟩ : ∃ x, n1.heap.size = x := ⟨_, rfl⟩
      have hbx : Below n1.heap.size n1 n2 := by rw [← hn2]; exact (Below.refl _ _).alloc (Nat.le_refl _) _
      have ys_n2 : Blk n2 sp #[.slice sb S_n sc, .int .i64 S_k, .int .i64 S_i, .slice sd S_m se] 37 := by rw [← hn2]; exact Blk.new _ _ _ hsp.symm
      try rw [hn2]
      try rw [hsp]
      clear hn2 hsp
      have x0_n2 := x0_n1.below hbx
      have x2_n2 := x2_n1.below hbx
      have yp_n2 := yp_n1.below hbx
      have yq_n2 := yq_n1.below hbx
      have T_n2 := Lib.hid (T_n1.out.bel hbx)
      have C_n2 := Lib.hid (C_n1.out.bel hbx)
      have M_n2 := Lib.hid (M_n1.out.bel hbx)
      have X_n2 := Lib.hid (X_n1.out.bel hbx)
      have Z_n2 := Lib.hid (Z_n1.out.bel hbx)
      have VC_n2 := Lib.hid (VC_n1.out.bel hbx)
      have VM_n2 := Lib.hid (VM_n1.out.bel hbx)
      have c_n2 := Lib.hid (c_n1.out.bel hbx)
      have pp_n2 := Lib.hid (pp_n1.out.bel hbx)
      have S_n2 := Lib.hid (S_n1.out.bel hbx)
      have B_n2 := B_n1.trans (hbx.mono B_n1.size)
      clear x0_n1 x2_n1 yp_n1 yq_n1 T_n1 C_n1 M_n1 X_n1 Z_n1 VC_n1 VM_n1 c_n1 pp_n1 S_n1 B_n1 hbx
      refine wp_region_noPanic (wp_region_need (S := fun w' => w'.cell? ⟨w.heap.size + 1 + 1, 0, none⟩ = some (.slice t_pa t_n t_pc) ∧ w'.cell? ⟨w.heap.size + 1 + 1, 1, none⟩ = some (.int .i64 t_k) ∧ w'.cell? ⟨w.heap.size + 1 + 1, 2, none⟩ = some (.int .i64 t_i) ∧ w'.cell? ⟨w.heap.size + 1 + 1, 3, none⟩ = some (.slice t_qa t_m t_qc) ∧ w'.cell? ⟨p, 0, none⟩ = some (.int .i64 b) ∧ w'.cell? ⟨p, 1, none⟩ = some (.slice V_ca C.length V_cc) ∧ w'.cell? ⟨p, 2, none⟩ = some (.slice V_ma M.length V_mc) ∧ w'.cell? ⟨q, 0, none⟩ = some (.slice pp_a z2.args.length pp_c) ∧ w'.cell? ⟨q, 1, none⟩ = some (.int .i64 z2.base) ∧ w'.cell? ⟨sp, 0, none⟩ = some (.slice sb S_n sc) ∧ w'.cell? ⟨sp, 1, none⟩ = some (.int .i64 S_k) ∧ w'.cell? ⟨sp, 2, none⟩ = some (.int .i64 S_i) ∧ w'.cell? ⟨sp, 3, none⟩ = some (.slice sd S_m se)) (by kernel_rfl) ?_)
      have hS : (n2.drew).cell? ⟨w.heap.size + 1 + 1, 0, none⟩ = some (.slice t_pa t_n t_pc) ∧ (n2.drew).cell? ⟨w.heap.size + 1 + 1, 1, none⟩ = some (.int .i64 t_k) ∧ (n2.drew).cell? ⟨w.heap.size + 1 + 1, 2, none⟩ = some (.int .i64 t_i) ∧ (n2.drew).cell? ⟨w.heap.size + 1 + 1, 3, none⟩ = some (.slice t_qa t_m t_qc) ∧ (n2.drew).cell? ⟨p, 0, none⟩ = some (.int .i64 b) ∧ (n2.drew).cell? ⟨p, 1, none⟩ = some (.slice V_ca C.length V_cc) ∧ (n2.drew).cell? ⟨p, 2, none⟩ = some (.slice V_ma M.length V_mc) ∧ (n2.drew).cell? ⟨q, 0, none⟩ = some (.slice pp_a z2.args.length pp_c) ∧ (n2.drew).cell? ⟨q, 1, none⟩ = some (.int .i64 z2.base) ∧ (n2.drew).cell? ⟨sp, 0, none⟩ = some (.slice sb S_n sc) ∧ (n2.drew).cell? ⟨sp, 1, none⟩ = some (.int .i64 S_k) ∧ (n2.drew).cell? ⟨sp, 2, none⟩ = some (.int .i64 S_i) ∧ (n2.drew).cell? ⟨sp, 3, none⟩ = some (.slice sd S_m se) := ⟨x2_n2.drew.cell rfl, x2_n2.drew.cell rfl, x2_n2.drew.cell rfl, x2_n2.drew.cell rfl, yp_n2.drew.cell rfl, yp_n2.drew.cell rfl, yp_n2.drew.cell rfl, yq_n2.drew.cell rfl, yq_n2.drew.cell rfl, ys_n2.drew.cell rfl, ys_n2.drew.cell rfl, ys_n2.drew.cell rfl, ys_n2.drew.cell rfl⟩
      refine wpN_step (i := 0) (by kernel_rfl) rfl (fun K hK => ?_)
      go_simp
      refine (known06 n2.drew).mono ?_
      rintro e q1 ⟨rfl, hbx0⟩
      have hbx : Below n2.heap.size n2 q1 := (Below.refl _ _).drew.trans hbx0
      clear hbx0
      have x0_q1 := x0_n2.below hbx
      have x2_q1 := x2_n2.below hbx
      have yp_q1 := yp_n2.below hbx
      have yq_q1 := yq_n2.below hbx
      have ys_q1 := ys_n2.below hbx
      have T_q1 := Lib.hid (T_n2.out.bel hbx)
      have C_q1 := Lib.hid (C_n2.out.bel hbx)
      have M_q1 := Lib.hid (M_n2.out.bel hbx)
      have X_q1 := Lib.hid (X_n2.out.bel hbx)
      have Z_q1 := Lib.hid (Z_n2.out.bel hbx)
      have VC_q1 := Lib.hid (VC_n2.out.bel hbx)
      have VM_q1 := Lib.hid (VM_n2.out.bel hbx)
      have c_q1 := Lib.hid (c_n2.out.bel hbx)
      have pp_q1 := Lib.hid (pp_n2.out.bel hbx)
      have S_q1 := Lib.hid (S_n2.out.bel hbx)
      have B_q1 := B_n2.trans (hbx.mono B_n2.size)
      clear x0_n2 x2_n2 yp_n2 yq_n2 ys_n2 T_n2 C_n2 M_n2 X_n2 Z_n2 VC_n2 VM_n2 c_n2 pp_n2 S_n2 B_n2 hbx
      have hS : (q1).cell? ⟨w.heap.size + 1 + 1, 0, none⟩ = some (.slice t_pa t_n t_pc) ∧ (q1).cell? ⟨w.heap.size + 1 + 1, 1, none⟩ = some (.int .i64 t_k) ∧ (q1).cell? ⟨w.heap.size + 1 + 1, 2, none⟩ = some (.int .i64 t_i) ∧ (q1).cell? ⟨w.heap.size + 1 + 1, 3, none⟩ = some (.slice t_qa t_m t_qc) ∧ (q1).cell? ⟨p, 0, none⟩ = some (.int .i64 b) ∧ (q1).cell? ⟨p, 1, none⟩ = some (.slice V_ca C.length V_cc) ∧ (q1).cell? ⟨p, 2, none⟩ = some (.slice V_ma M.length V_mc) ∧ (q1).cell? ⟨q, 0, none⟩ = some (.slice pp_a z2.args.length pp_c) ∧ (q1).cell? ⟨q, 1, none⟩ = some (.int .i64 z2.base) ∧ (q1).cell? ⟨sp, 0, none⟩ = some (.slice sb S_n sc) ∧ (q1).cell? ⟨sp, 1, none⟩ = some (.int .i64 S_k) ∧ (q1).cell? ⟨sp, 2, none⟩ = some (.int .i64 S_i) ∧ (q1).cell? ⟨sp, 3, none⟩ = some (.slice sd S_m se) := ⟨x2_q1.cell rfl, x2_q1.cell rfl, x2_q1.cell rfl, x2_q1.cell rfl, yp_q1.cell rfl, yp_q1.cell rfl, yp_q1.cell rfl, yq_q1.cell rfl, yq_q1.cell rfl, ys_q1.cell rfl, ys_q1.cell rfl, ys_q1.cell rfl, ys_q1.cell rfl⟩
      refine hK.out _ _ (fun _ => hS) ?_
      clear hK K
      try simp only [Act.put, List.setIfInBounds_toArray, List.set_cons_zero, List.set_cons_succ, List.getElem_toArray, List.getElem_cons_zero, List.getElem_cons_succ]
      refine wpN_take (i := 1) (v := ?v25) rfl (by kernel_rfl) (fun _ _ _ h => h) hS (Or.inl ⟨by rfl, ?hy25⟩) ?hr25
      case hy25 => (intro wS hSw; (try dsimp only at hSw); go_simp; (try with_reducible rfl))
      try simp only [Act.put, List.setIfInBounds_toArray, List.set_cons_zero, List.set_cons_succ, List.getElem_toArray, List.getElem_cons_zero, List.getElem_cons_succ]
      refine wpN_take (i := 2) (v := ?v26) rfl (by kernel_rfl) (fun _ _ _ h => h) hS (Or.inl ⟨by rfl, ?hy26⟩) ?hr26
      case hy26 => (intro wS hSw; (try dsimp only at hSw); go_simp; (try with_reducible rfl))
      try simp only [Act.put, List.setIfInBounds_toArray, List.set_cons_zero, List.set_cons_succ, List.getElem_toArray, List.getElem_cons_zero, List.getElem_cons_succ]
      refine wpN_take (i := 3) (v := ?v27) rfl (by kernel_rfl) (fun _ _ _ h => h) hS (Or.inl ⟨by rfl, ?hy27⟩) ?hr27
      case hy27 => (intro wS hSw; (try dsimp only at hSw); go_simp; (try with_reducible rfl))
      try simp only [Act.put, List.setIfInBounds_toArray, List.set_cons_zero, List.set_cons_succ, List.getElem_toArray, List.getElem_cons_zero, List.getElem_cons_succ]
      refine wpN_take (i := 4) (v := ?v28) rfl (by kernel_rfl) (fun _ _ _ h => h) hS (Or.inl ⟨by rfl, ?hy28⟩) ?hr28
      case hy28 => (intro wS hSw; (try dsimp only at hSw); go_simp; (try with_reducible rfl))
      try simp only [Act.put, List.setIfInBounds_toArray, List.set_cons_zero, List.set_cons_succ, List.getElem_toArray, List.getElem_cons_zero, List.getElem_cons_succ]
      refine wpN_take (i := 5) (v := ?v29) rfl (by kernel_rfl) (fun _ _ _ h => h) hS (Or.inl ⟨by rfl, ?hy29⟩) ?hr29
      case hy29 => (intro wS hSw; (try dsimp only at hSw); go_simp; (try with_reducible rfl))
      try simp only [Act.put, List.setIfInBounds_toArray, List.set_cons_zero, List.set_cons_succ, List.getElem_toArray, List.getElem_cons_zero, List.getElem_cons_succ]
      refine wpN_take (i := 6) (v := ?v30) rfl (by kernel_rfl) (fun _ _ _ h => h) hS (Or.inl ⟨by rfl, ?hy30⟩) ?hr30
      case hy30 => (intro wS hSw; (try dsimp only at hSw); go_simp; (try with_reducible rfl))
      try simp only [Act.put, List.setIfInBounds_toArray, List.set_cons_zero, List.set_cons_succ, List.getElem_toArray, List.getElem_cons_zero, List.getElem_cons_succ]
      refine wpN_take (i := 7) (v := ?v31) rfl (by kernel_rfl) (fun _ _ _ h => h) hS (Or.inl ⟨by rfl, ?hy31⟩) ?hr31
      case hy31 => (intro wS hSw; (try dsimp only at hSw); go_simp; (try with_reducible rfl))
      try simp only [Act.put, List.setIfInBounds_toArray, List.set_cons_zero, List.set_cons_succ, List.getElem_toArray, List.getElem_cons_zero, List.getElem_cons_succ]
      refine wpN_take (i := 8) (v := ?v32) rfl (by kernel_rfl) (fun _ _ _ h => h) hS (Or.inl ⟨by rfl, ?hy32⟩) ?hr32
      case hy32 => (intro wS hSw; (try dsimp only at hSw); go_simp; (try with_reducible rfl))
      try simp only [Act.put, List.setIfInBounds_toArray, List.set_cons_zero, List.set_cons_succ, List.getElem_toArray, List.getElem_cons_zero, List.getElem_cons_succ]
      refine wpN_take (i := 11) (v := ?v33) rfl (by kernel_rfl) (fun _ _ _ h => h) hS (Or.inl ⟨by rfl, ?hy33⟩) ?hr33
      case hy33 => (intro wS hSw; (try dsimp only at hSw); go_simp; (try with_reducible rfl))
      try simp only [Act.put, List.setIfInBounds_toArray, List.set_cons_zero, List.set_cons_succ, List.getElem_toArray, List.getElem_cons_zero, List.getElem_cons_succ]
      refine wpN_take (i := 12) (v := ?v34) rfl (by kernel_rfl) (fun _ _ _ h => h) hS (Or.inl ⟨by rfl, ?hy34⟩) ?hr34
      case hy34 => (intro wS hSw; (try dsimp only at hSw); go_simp; (try with_reducible rfl))
      try simp only [Act.put, List.setIfInBounds_toArray, List.set_cons_zero, List.set_cons_succ, List.getElem_toArray, List.getElem_cons_zero, List.getElem_cons_succ]
      have HB := Lib.hid (behind_r (IsSl2.of X_q1.out) (IsSl2.of Z_q1.out) (by have := Hs.out.2.2.1; have := Hzl.out; omega))
      rw [HY.out] at HB
      refine wpN_step (i := 9) (by kernel_rfl) rfl (fun K hK => ?_)
      go_simp
      refine (HB.out).mono ?_
      rintro e q2 ⟨y_a, y_c, rfl, hT, hbx0⟩
      have hbx : Below q1.heap.size q1 q2 := hbx0
      clear hbx0
      have x0_q2 := x0_q1.below hbx
      have x2_q2 := x2_q1.below hbx
      have yp_q2 := yp_q1.below hbx
      have yq_q2 := yq_q1.below hbx
      have ys_q2 := ys_q1.below hbx
      have T_q2 := Lib.hid (T_q1.out.bel hbx)
      have C_q2 := Lib.hid (C_q1.out.bel hbx)
      have M_q2 := Lib.hid (M_q1.out.bel hbx)
      have X_q2 := Lib.hid (X_q1.out.bel hbx)
      have Z_q2 := Lib.hid (Z_q1.out.bel hbx)
      have VC_q2 := Lib.hid (VC_q1.out.bel hbx)
      have VM_q2 := Lib.hid (VM_q1.out.bel hbx)
      have c_q2 := Lib.hid (c_q1.out.bel hbx)
      have pp_q2 := Lib.hid (pp_q1.out.bel hbx)
      have S_q2 := Lib.hid (S_q1.out.bel hbx)
      have B_q2 := B_q1.trans (hbx.mono B_q1.size)
      clear x0_q1 x2_q1 yp_q1 yq_q1 ys_q1 T_q1 C_q1 M_q1 X_q1 Z_q1 VC_q1 VM_q1 c_q1 pp_q1 S_q1 B_q1 hbx
      have hS : (q2).cell? ⟨w.heap.size + 1 + 1, 0, none⟩ = some (.slice t_pa t_n t_pc) ∧ (q2).cell? ⟨w.heap.size + 1 + 1, 1, none⟩ = some (.int .i64 t_k) ∧ (q2).cell? ⟨w.heap.size + 1 + 1, 2, none⟩ = some (.int .i64 t_i) ∧ (q2).cell? ⟨w.heap.size + 1 + 1, 3, none⟩ = some (.slice t_qa t_m t_qc) ∧ (q2).cell? ⟨p, 0, none⟩ = some (.int .i64 b) ∧ (q2).cell? ⟨p, 1, none⟩ = some (.slice V_ca C.length V_cc) ∧ (q2).cell? ⟨p, 2, none⟩ = some (.slice V_ma M.length V_mc) ∧ (q2).cell? ⟨q, 0, none⟩ = some (.slice pp_a z2.args.length pp_c) ∧ (q2).cell? ⟨q, 1, none⟩ = some (.int .i64 z2.base) ∧ (q2).cell? ⟨sp, 0, none⟩ = some (.slice sb S_n sc) ∧ (q2).cell? ⟨sp, 1, none⟩ = some (.int .i64 S_k) ∧ (q2).cell? ⟨sp, 2, none⟩ = some (.int .i64 S_i) ∧ (q2).cell? ⟨sp, 3, none⟩ = some (.slice sd S_m se) := ⟨x2_q2.cell rfl, x2_q2.cell rfl, x2_q2.cell rfl, x2_q2.cell rfl, yp_q2.cell rfl, yp_q2.cell rfl, yp_q2.cell rfl, yq_q2.cell rfl, yq_q2.cell rfl, ys_q2.cell rfl, ys_q2.cell rfl, ys_q2.cell rfl, ys_q2.cell rfl⟩
      refine hK.out _ _ (fun _ => hS) ?_
      clear hK K
      try simp only [Act.put, List.setIfInBounds_toArray, List.set_cons_zero, List.set_cons_succ, List.getElem_toArray, List.getElem_cons_zero, List.getElem_cons_succ]
      have Y_q2 := Lib.hid (hT.sl (F' := fun _ => True) (by decide) (fun _ _ _ => trivial) (fun _ _ _ => trivial))
      clear hT HB
      refine wpN_step (i := 10) (by kernel_rfl) rfl (fun K hK => ?_)
      go_simp
      refine (types_any Y_q2.out q2 (Keep.refl _ _) HsXZ.out).mono ?_
      rintro e q3 ⟨yy_a, yy_c, rfl, hT, hbx0⟩
      have hbx : Below q2.heap.size q2 q3 := hbx0
      clear hbx0
      have x0_q3 := x0_q2.below hbx
      have x2_q3 := x2_q2.below hbx
      have yp_q3 := yp_q2.below hbx
      have yq_q3 := yq_q2.below hbx
      have ys_q3 := ys_q2.below hbx
      have T_q3 := Lib.hid (T_q2.out.bel hbx)
      have C_q3 := Lib.hid (C_q2.out.bel hbx)
      have M_q3 := Lib.hid (M_q2.out.bel hbx)
      have X_q3 := Lib.hid (X_q2.out.bel hbx)
      have Z_q3 := Lib.hid (Z_q2.out.bel hbx)
      have VC_q3 := Lib.hid (VC_q2.out.bel hbx)
      have VM_q3 := Lib.hid (VM_q2.out.bel hbx)
      have c_q3 := Lib.hid (c_q2.out.bel hbx)
      have pp_q3 := Lib.hid (pp_q2.out.bel hbx)
      have S_q3 := Lib.hid (S_q2.out.bel hbx)
      have Y_q3 := Lib.hid (Y_q2.out.bel hbx)
      have B_q3 := B_q2.trans (hbx.mono B_q2.size)
      clear x0_q2 x2_q2 yp_q2 yq_q2 ys_q2 T_q2 C_q2 M_q2 X_q2 Z_q2 VC_q2 VM_q2 c_q2 pp_q2 S_q2 Y_q2 B_q2 hbx
      have hS : (q3).cell? ⟨w.heap.size + 1 + 1, 0, none⟩ = some (.slice t_pa t_n t_pc) ∧ (q3).cell? ⟨w.heap.size + 1 + 1, 1, none⟩ = some (.int .i64 t_k) ∧ (q3).cell? ⟨w.heap.size + 1 + 1, 2, none⟩ = some (.int .i64 t_i) ∧ (q3).cell? ⟨w.heap.size + 1 + 1, 3, none⟩ = some (.slice t_qa t_m t_qc) ∧ (q3).cell? ⟨p, 0, none⟩ = some (.int .i64 b) ∧ (q3).cell? ⟨p, 1, none⟩ = some (.slice V_ca C.length V_cc) ∧ (q3).cell? ⟨p, 2, none⟩ = some (.slice V_ma M.length V_mc) ∧ (q3).cell? ⟨q, 0, none⟩ = some (.slice pp_a z2.args.length pp_c) ∧ (q3).cell? ⟨q, 1, none⟩ = some (.int .i64 z2.base) ∧ (q3).cell? ⟨sp, 0, none⟩ = some (.slice sb S_n sc) ∧ (q3).cell? ⟨sp, 1, none⟩ = some (.int .i64 S_k) ∧ (q3).cell? ⟨sp, 2, none⟩ = some (.int .i64 S_i) ∧ (q3).cell? ⟨sp, 3, none⟩ = some (.slice sd S_m se) := ⟨x2_q3.cell rfl, x2_q3.cell rfl, x2_q3.cell rfl, x2_q3.cell rfl, yp_q3.cell rfl, yp_q3.cell rfl, yp_q3.cell rfl, yq_q3.cell rfl, yq_q3.cell rfl, ys_q3.cell rfl, ys_q3.cell rfl, ys_q3.cell rfl, ys_q3.cell rfl⟩
      refine hK.out _ _ (fun _ => hS) ?_
      clear hK K
      try simp only [Act.put, List.setIfInBounds_toArray, List.set_cons_zero, List.set_cons_succ, List.getElem_toArray, List.getElem_cons_zero, List.getElem_cons_succ]
      have YY_q3 := Lib.hid (hT.weaken (F' := fun _ => True) (by decide) fun _ _ _ => trivial)
      clear hT
      refine wpN_step (i := 13) (by kernel_rfl) rfl (fun K hK => ?_)
      go_simp
      refine (Check_kT VC_q3.out VM_q3.out YY_q3.out S_q3.out pp_q3.out (by have := HSf.out.2; have := Hf.out.1; have := Hyl.out; omega) HSf.out.1).mono ?_
      rintro e q4 ⟨cB, HcB, rfl, hbx0⟩
      have hbx : Below q3.heap.size q3 q4 := hbx0
      clear hbx0
      have x0_q4 := x0_q3.below hbx
      have x2_q4 := x2_q3.below hbx
      have yp_q4 := yp_q3.below hbx
      have yq_q4 := yq_q3.below hbx
      have ys_q4 := ys_q3.below hbx
      have T_q4 := Lib.hid (T_q3.out.bel hbx)
      have C_q4 := Lib.hid (C_q3.out.bel hbx)
      have M_q4 := Lib.hid (M_q3.out.bel hbx)
      have X_q4 := Lib.hid (X_q3.out.bel hbx)
      have Z_q4 := Lib.hid (Z_q3.out.bel hbx)
      have VC_q4 := Lib.hid (VC_q3.out.bel hbx)
      have VM_q4 := Lib.hid (VM_q3.out.bel hbx)
      have c_q4 := Lib.hid (c_q3.out.bel hbx)
      have pp_q4 := Lib.hid (pp_q3.out.bel hbx)
      have S_q4 := Lib.hid (S_q3.out.bel hbx)
      have Y_q4 := Lib.hid (Y_q3.out.bel hbx)
      have YY_q4 := Lib.hid (YY_q3.out.bel hbx)
      have B_q4 := B_q3.trans (hbx.mono B_q3.size)
      clear x0_q3 x2_q3 yp_q3 yq_q3 ys_q3 T_q3 C_q3 M_q3 X_q3 Z_q3 VC_q3 VM_q3 c_q3 pp_q3 S_q3 Y_q3 YY_q3 B_q3 hbx
      have hS : (q4).cell? ⟨w.heap.size + 1 + 1, 0, none⟩ = some (.slice t_pa t_n t_pc) ∧ (q4).cell? ⟨w.heap.size + 1 + 1, 1, none⟩ = some (.int .i64 t_k) ∧ (q4).cell? ⟨w.heap.size + 1 + 1, 2, none⟩ = some (.int .i64 t_i) ∧ (q4).cell? ⟨w.heap.size + 1 + 1, 3, none⟩ = some (.slice t_qa t_m t_qc) ∧ (q4).cell? ⟨p, 0, none⟩ = some (.int .i64 b) ∧ (q4).cell? ⟨p, 1, none⟩ = some (.slice V_ca C.length V_cc) ∧ (q4).cell? ⟨p, 2, none⟩ = some (.slice V_ma M.length V_mc) ∧ (q4).cell? ⟨q, 0, none⟩ = some (.slice pp_a z2.args.length pp_c) ∧ (q4).cell? ⟨q, 1, none⟩ = some (.int .i64 z2.base) ∧ (q4).cell? ⟨sp, 0, none⟩ = some (.slice sb S_n sc) ∧ (q4).cell? ⟨sp, 1, none⟩ = some (.int .i64 S_k) ∧ (q4).cell? ⟨sp, 2, none⟩ = some (.int .i64 S_i) ∧ (q4).cell? ⟨sp, 3, none⟩ = some (.slice sd S_m se) := ⟨x2_q4.cell rfl, x2_q4.cell rfl, x2_q4.cell rfl, x2_q4.cell rfl, yp_q4.cell rfl, yp_q4.cell rfl, yp_q4.cell rfl, yq_q4.cell rfl, yq_q4.cell rfl, ys_q4.cell rfl, ys_q4.cell rfl, ys_q4.cell rfl, ys_q4.cell rfl⟩
      refine hK.out _ _ (fun _ => hS) ?_
      clear hK K
      try simp only [Act.put, List.setIfInBounds_toArray, List.set_cons_zero, List.set_cons_succ, List.getElem_toArray, List.getElem_cons_zero, List.getElem_cons_succ]
      obtain rfl : cB = 0 := HL.out.2.1 cB HcB.out
      clear HcB
      refine wpN_take (i := 14) (v := ?v35) rfl (by kernel_rfl) (fun _ _ _ h => h) hS (Or.inl ⟨by rfl, ?hy35⟩) ?hr35
      case hy35 => (intro wS hSw; (try dsimp only at hSw); go_simp; (try with_reducible rfl))
      try simp only [Act.put, List.setIfInBounds_toArray, List.set_cons_zero, List.set_cons_succ, List.getElem_toArray, List.getElem_cons_zero, List.getElem_cons_succ]
      refine wpN_take (i := 15) (v := ?v36) rfl (by kernel_rfl) (fun _ _ _ h => h) hS (Or.inl ⟨by rfl, ?hy36⟩) ?hr36
      case hy36 => (intro wS hSw; (try dsimp only at hSw); go_simp; (try with_reducible rfl))
      try simp only [Act.put, List.setIfInBounds_toArray, List.set_cons_zero, List.set_cons_succ, List.getElem_toArray, List.getElem_cons_zero, List.getElem_cons_succ]
      refine wpN_take (i := 16) (v := ?v37) rfl (by kernel_rfl) (fun _ _ _ h => h) hS (Or.inl ⟨by rfl, ?hy37⟩) ?hr37
      case hy37 => (intro wS hSw; (try dsimp only at hSw); go_simp; (try with_reducible rfl))
      try simp only [Act.put, List.setIfInBounds_toArray, List.set_cons_zero, List.set_cons_succ, List.getElem_toArray, List.getElem_cons_zero, List.getElem_cons_succ]
      refine wpN_take (i := 17) (v := ?v38) rfl (by kernel_rfl) (fun _ _ _ h => h) hS (Or.inl ⟨by rfl, ?hy38⟩) ?hr38
      case hy38 => (intro wS hSw; (try dsimp only at hSw); go_simp; (try with_reducible rfl))
      try simp only [Act.put, List.setIfInBounds_toArray, List.set_cons_zero, List.set_cons_succ, List.getElem_toArray, List.getElem_cons_zero, List.getElem_cons_succ]
      refine wpN_take (i := 20) (v := ?v39) rfl (by kernel_rfl) (fun _ _ _ h => h) hS (Or.inl ⟨by rfl, ?hy39⟩) ?hr39
      case hy39 => (intro wS hSw; (try dsimp only at hSw); go_simp; (try with_reducible rfl))
      try simp only [Act.put, List.setIfInBounds_toArray, List.set_cons_zero, List.set_cons_succ, List.getElem_toArray, List.getElem_cons_zero, List.getElem_cons_succ]
      refine wpN_take (i := 21) (v := ?v40) rfl (by kernel_rfl) (fun _ _ _ h => h) hS (Or.inl ⟨by rfl, ?hy40⟩) ?hr40
      case hy40 => (intro wS hSw; (try dsimp only at hSw); go_simp; (try with_reducible rfl))
      try simp only [Act.put, List.setIfInBounds_toArray, List.set_cons_zero, List.set_cons_succ, List.getElem_toArray, List.getElem_cons_zero, List.getElem_cons_succ]
      refine wpN_step (i := 18) (by kernel_rfl) rfl (fun K hK => ?_)
      go_simp
      refine (to6_any T_q4.out q4 (by have := Hf.out.1; omega) (Keep.refl _ _)).mono ?_
      intro e q5 h
      obtain ⟨_, _, _, _, rfl, hT, hbx0⟩ := h
      have O_q5 := Lib.hid (hT.weaken (F' := fun _ => True) fun _ _ _ => trivial)
      clear hT
      obtain ⟨O_pa, O_pc, O_qa, O_qc, rfl, rfl, rfl, rfl⟩ := O_q5.out.shape
      rw [Et_n.out, Et_m.out, Et_k.out, Et_i.out] at O_q5 ⊢
      have hbx : Below q4.heap.size q4 q5 := hbx0
      clear hbx0
      have x0_q5 := x0_q4.below hbx
      have x2_q5 := x2_q4.below hbx
      have yp_q5 := yp_q4.below hbx
      have yq_q5 := yq_q4.below hbx
      have ys_q5 := ys_q4.below hbx
      have T_q5 := Lib.hid (T_q4.out.bel hbx)
      have C_q5 := Lib.hid (C_q4.out.bel hbx)
      have M_q5 := Lib.hid (M_q4.out.bel hbx)
      have X_q5 := Lib.hid (X_q4.out.bel hbx)
      have Z_q5 := Lib.hid (Z_q4.out.bel hbx)
      have VC_q5 := Lib.hid (VC_q4.out.bel hbx)
      have VM_q5 := Lib.hid (VM_q4.out.bel hbx)
      have c_q5 := Lib.hid (c_q4.out.bel hbx)
      have pp_q5 := Lib.hid (pp_q4.out.bel hbx)
      have S_q5 := Lib.hid (S_q4.out.bel hbx)
      have Y_q5 := Lib.hid (Y_q4.out.bel hbx)
      have YY_q5 := Lib.hid (YY_q4.out.bel hbx)
      have B_q5 := B_q4.trans (hbx.mono B_q4.size)
      clear x0_q4 x2_q4 yp_q4 yq_q4 ys_q4 T_q4 C_q4 M_q4 X_q4 Z_q4 VC_q4 VM_q4 c_q4 pp_q4 S_q4 Y_q4 YY_q4 B_q4 hbx
      have hS : (q5).cell? ⟨w.heap.size + 1 + 1, 0, none⟩ = some (.slice t_pa t_n t_pc) ∧ (q5).cell? ⟨w.heap.size + 1 + 1, 1, none⟩ = some (.int .i64 t_k) ∧ (q5).cell? ⟨w.heap.size + 1 + 1, 2, none⟩ = some (.int .i64 t_i) ∧ (q5).cell? ⟨w.heap.size + 1 + 1, 3, none⟩ = some (.slice t_qa t_m t_qc) ∧ (q5).cell? ⟨p, 0, none⟩ = some (.int .i64 b) ∧ (q5).cell? ⟨p, 1, none⟩ = some (.slice V_ca C.length V_cc) ∧ (q5).cell? ⟨p, 2, none⟩ = some (.slice V_ma M.length V_mc) ∧ (q5).cell? ⟨q, 0, none⟩ = some (.slice pp_a z2.args.length pp_c) ∧ (q5).cell? ⟨q, 1, none⟩ = some (.int .i64 z2.base) ∧ (q5).cell? ⟨sp, 0, none⟩ = some (.slice sb S_n sc) ∧ (q5).cell? ⟨sp, 1, none⟩ = some (.int .i64 S_k) ∧ (q5).cell? ⟨sp, 2, none⟩ = some (.int .i64 S_i) ∧ (q5).cell? ⟨sp, 3, none⟩ = some (.slice sd S_m se) := ⟨x2_q5.cell rfl, x2_q5.cell rfl, x2_q5.cell rfl, x2_q5.cell rfl, yp_q5.cell rfl, yp_q5.cell rfl, yp_q5.cell rfl, yq_q5.cell rfl, yq_q5.cell rfl, ys_q5.cell rfl, ys_q5.cell rfl, ys_q5.cell rfl, ys_q5.cell rfl⟩
      refine hK.out _ _ (fun _ => hS) ?_
      clear hK K
      try simp only [Act.put, List.setIfInBounds_toArray, List.set_cons_zero, List.set_cons_succ, List.getElem_toArray, List.getElem_cons_zero, List.getElem_cons_succ]
      have Hlo := Lib.hid (loose6_k O_q5.out (by have := Hf.out.1; omega) Hfit.out)
      rw [HlL.out] at Hlo
      refine wpN_step (i := 19) (by kernel_rfl) rfl (fun K hK => ?_)
      go_simp
      refine (Hlo.out).mono ?_
      rintro e q6 ⟨rfl, hbx0⟩
      have hbx : Below q5.heap.size q5 q6 := hbx0
      clear hbx0
      have x0_q6 := x0_q5.below hbx
      have x2_q6 := x2_q5.below hbx
      have yp_q6 := yp_q5.below hbx
      have yq_q6 := yq_q5.below hbx
      have ys_q6 := ys_q5.below hbx
      have T_q6 := Lib.hid (T_q5.out.bel hbx)
      have C_q6 := Lib.hid (C_q5.out.bel hbx)
      have M_q6 := Lib.hid (M_q5.out.bel hbx)
      have X_q6 := Lib.hid (X_q5.out.bel hbx)
      have Z_q6 := Lib.hid (Z_q5.out.bel hbx)
      have VC_q6 := Lib.hid (VC_q5.out.bel hbx)
      have VM_q6 := Lib.hid (VM_q5.out.bel hbx)
      have c_q6 := Lib.hid (c_q5.out.bel hbx)
      have pp_q6 := Lib.hid (pp_q5.out.bel hbx)
      have S_q6 := Lib.hid (S_q5.out.bel hbx)
      have Y_q6 := Lib.hid (Y_q5.out.bel hbx)
      have YY_q6 := Lib.hid (YY_q5.out.bel hbx)
      have O_q6 := Lib.hid (O_q5.out.bel hbx)
      have B_q6 := B_q5.trans (hbx.mono B_q5.size)
      clear x0_q5 x2_q5 yp_q5 yq_q5 ys_q5 T_q5 C_q5 M_q5 X_q5 Z_q5 VC_q5 VM_q5 c_q5 pp_q5 S_q5 Y_q5 YY_q5 O_q5 B_q5 hbx
      have hS : (q6).cell? ⟨w.heap.size + 1 + 1, 0, none⟩ = some (.slice t_pa t_n t_pc) ∧ (q6).cell? ⟨w.heap.size + 1 + 1, 1, none⟩ = some (.int .i64 t_k) ∧ (q6).cell? ⟨w.heap.size + 1 + 1, 2, none⟩ = some (.int .i64 t_i) ∧ (q6).cell? ⟨w.heap.size + 1 + 1, 3, none⟩ = some (.slice t_qa t_m t_qc) ∧ (q6).cell? ⟨p, 0, none⟩ = some (.int .i64 b) ∧ (q6).cell? ⟨p, 1, none⟩ = some (.slice V_ca C.length V_cc) ∧ (q6).cell? ⟨p, 2, none⟩ = some (.slice V_ma M.length V_mc) ∧ (q6).cell? ⟨q, 0, none⟩ = some (.slice pp_a z2.args.length pp_c) ∧ (q6).cell? ⟨q, 1, none⟩ = some (.int .i64 z2.base) ∧ (q6).cell? ⟨sp, 0, none⟩ = some (.slice sb S_n sc) ∧ (q6).cell? ⟨sp, 1, none⟩ = some (.int .i64 S_k) ∧ (q6).cell? ⟨sp, 2, none⟩ = some (.int .i64 S_i) ∧ (q6).cell? ⟨sp, 3, none⟩ = some (.slice sd S_m se) := ⟨x2_q6.cell rfl, x2_q6.cell rfl, x2_q6.cell rfl, x2_q6.cell rfl, yp_q6.cell rfl, yp_q6.cell rfl, yp_q6.cell rfl, yq_q6.cell rfl, yq_q6.cell rfl, ys_q6.cell rfl, ys_q6.cell rfl, ys_q6.cell rfl, ys_q6.cell rfl⟩
      refine hK.out _ _ (fun _ => hS) ?_
      clear hK K
      try simp only [Act.put, List.setIfInBounds_toArray, List.set_cons_zero, List.set_cons_succ, List.getElem_toArray, List.getElem_cons_zero, List.getElem_cons_succ]
      clear Hlo
      refine wpN_take (i := 22) (v := ?v41) rfl (by kernel_rfl) (fun _ _ _ h => h) hS (Or.inl ⟨by rfl, ?hy41⟩) ?hr41
      case hy41 => (intro wS hSw; (try dsimp only at hSw); go_simp; (try with_reducible rfl))
      try simp only [Act.put, List.setIfInBounds_toArray, List.set_cons_zero, List.set_cons_succ, List.getElem_toArray, List.getElem_cons_zero, List.getElem_cons_succ]
      refine wpN_take (i := 23) (v := ?v42) rfl (by kernel_rfl) (fun _ _ _ h => h) hS (Or.inl ⟨by rfl, ?hy42⟩) ?hr42
      case hy42 => (intro wS hSw; (try dsimp only at hSw); go_simp; (try with_reducible rfl))
      try simp only [Act.put, List.setIfInBounds_toArray, List.set_cons_zero, List.set_cons_succ, List.getElem_toArray, List.getElem_cons_zero, List.getElem_cons_succ]
      refine wpN_step (i := 24) (by kernel_rfl) rfl (fun K hK => ?_)
      go_simp
      refine hK.out _ _ (fun h => absurd h (by decide)) ?_
      clear hK K
      try simp only [Act.put, List.setIfInBounds_toArray, List.set_cons_zero, List.set_cons_succ, List.getElem_toArray, List.getElem_cons_zero, List.getElem_cons_succ]
      refine wpN_done (by kernel_rfl) ?_
      refine NoPanic.normal ?_
      go_wp2_with fail
      go_ret
      exact ⟨rfl, B_q6⟩
  · skip
    have HE := Lib.hid (Hlaw1.out z1 (by rw [Ho1.out]; exact Hs1.out.2.2 rfl))
    have HEf := Lib.hid (full_Eta z1 Hs1.out.1 hk hi)
    have HEt := Lib.hid (fit_Eta z1 Hs1.out.1 hk hi Hih.out)
    obtain ⟨E, hE⟩ : ∃ E, Ty.Eta z1 hk hi = E := ⟨_, rfl⟩
    have Heta := Lib.hid fun (W : World) (h : IsTy (fun _ => True) W (.slice e1_a z1_n e1_c) (.int .i64 z1_d) z1) => eta_k z1 _ _ _ _ h hk hi W (by have := Hs1.out.1; omega) (Keep.refl _ _)
    rw [hE] at HE HEf HEt Heta
    clear hE
    obtain ⟨E_n, hn1⟩ : ∃ x, E.binds.length = x := ⟨_, rfl⟩
    obtain ⟨E_m, hn2⟩ : ∃ x, E.args.length = x := ⟨_, rfl⟩
    obtain ⟨E_k, hn3⟩ : ∃ x, E.kind = x := ⟨_, rfl⟩
    obtain ⟨E_i, hn4⟩ : ∃ x, E.index = x := ⟨_, rfl⟩
    have EE_n := Lib.hid hn1; have EE_m := Lib.hid hn2; have EE_k := Lib.hid hn3; have EE_i := Lib.hid hn4
    clear hn1 hn2 hn3 hn4
    obtain ⟨esz, hesz⟩ : ∃ x, E.size = x := ⟨_, rfl⟩
    have Hesz : Hid (esz ≤ 60) := by show _ ≤ _; rw [← hesz]; exact HE.out.1
    have Ees := Lib.hid hesz
    clear hesz
    have hesz2 : (esz : Int) ≤ 5000 := by have := Hesz.out; omega
    refine wp_region_noPanic (wp_region_need (S := fun w' => w'.cell? ⟨p, 0, none⟩ = some (.int .i64 b) ∧ w'.cell? ⟨p, 1, none⟩ = some (.slice V_ca C.length V_cc) ∧ w'.cell? ⟨p, 2, none⟩ = some (.slice V_ma M.length V_mc) ∧ w'.cell? ⟨p + 1, 0, none⟩ = some (.int .i64 hk) ∧ w'.cell? ⟨p + 1, 1, none⟩ = some (.int .i64 hi) ∧ w'.cell? ⟨e1p, 0, none⟩ = some (.slice e1_a z1_n e1_c) ∧ w'.cell? ⟨e1p, 1, none⟩ = some (.int .i64 z1_d)) (by kernel_rfl) ?_)
    have hS : (v4.drew).cell? ⟨p, 0, none⟩ = some (.int .i64 b) ∧ (v4.drew).cell? ⟨p, 1, none⟩ = some (.slice V_ca C.length V_cc) ∧ (v4.drew).cell? ⟨p, 2, none⟩ = some (.slice V_ma M.length V_mc) ∧ (v4.drew).cell? ⟨p + 1, 0, none⟩ = some (.int .i64 hk) ∧ (v4.drew).cell? ⟨p + 1, 1, none⟩ = some (.int .i64 hi) ∧ (v4.drew).cell? ⟨e1p, 0, none⟩ = some (.slice e1_a z1_n e1_c) ∧ (v4.drew).cell? ⟨e1p, 1, none⟩ = some (.int .i64 z1_d) := ⟨yp_v4.drew.cell rfl, yp_v4.drew.cell rfl, yp_v4.drew.cell rfl, yg_v4.drew.cell rfl, yg_v4.drew.cell rfl, ye1_v4.drew.cell rfl, ye1_v4.drew.cell rfl⟩
    refine wpN_take (i := 0) (v := ?v43) rfl (by kernel_rfl) (fun _ _ _ h => h) hS (Or.inl ⟨by rfl, ?hy43⟩) ?hr43
    case hy43 => (intro wS hSw; (try dsimp only at hSw); go_simp; (try with_reducible rfl))
    try simp only [Act.put, List.setIfInBounds_toArray, List.set_cons_zero, List.set_cons_succ, List.getElem_toArray, List.getElem_cons_zero, List.getElem_cons_succ]
    refine wpN_take (i := 1) (v := ?v44) rfl (by kernel_rfl) (fun _ _ _ h => h) hS (Or.inl ⟨by rfl, ?hy44⟩) ?hr44
    case hy44 => (intro wS hSw; (try dsimp only at hSw); go_simp; (try with_reducible rfl))
    try simp only [Act.put, List.setIfInBounds_toArray, List.set_cons_zero, List.set_cons_succ, List.getElem_toArray, List.getElem_cons_zero, List.getElem_cons_succ]
    refine wpN_take (i := 2) (v := ?v45) rfl (by kernel_rfl) (fun _ _ _ h => h) hS (Or.inl ⟨by rfl, ?hy45⟩) ?hr45
    case hy45 => (intro wS hSw; (try dsimp only at hSw); go_simp; (try with_reducible rfl))
    try simp only [Act.put, List.setIfInBounds_toArray, List.set_cons_zero, List.set_cons_succ, List.getElem_toArray, List.getElem_cons_zero, List.getElem_cons_succ]
    refine wpN_take (i := 3) (v := ?v46) rfl (by kernel_rfl) (fun _ _ _ h => h) hS (Or.inl ⟨by rfl, ?hy46⟩) ?hr46
    case hy46 => (intro wS hSw; (try dsimp only at hSw); go_simp; (try with_reducible rfl))
    try simp only [Act.put, List.setIfInBounds_toArray, List.set_cons_zero, List.set_cons_succ, List.getElem_toArray, List.getElem_cons_zero, List.getElem_cons_succ]
    refine wpN_take (i := 4) (v := ?v47) rfl (by kernel_rfl) (fun _ _ _ h => h) hS (Or.inl ⟨by rfl, ?hy47⟩) ?hr47
    case hy47 => (intro wS hSw; (try dsimp only at hSw); go_simp; (try with_reducible rfl))
    try simp only [Act.put, List.setIfInBounds_toArray, List.set_cons_zero, List.set_cons_succ, List.getElem_toArray, List.getElem_cons_zero, List.getElem_cons_succ]
    refine wpN_step (i := 5) (by kernel_rfl) rfl (fun K hK => ?_)
    go_simp
    refine (Heta.out v4.drew (e1_v4.out.bel (by first | exact (Below.refl _ _).drew | exact Below.refl _ _))).mono ?_
    intro e g1 h
    obtain ⟨_, _, _, _, rfl, hT, hbx0⟩ := h
    have O_g1 := Lib.hid (hT.weaken (F' := fun _ => True) fun _ _ _ => trivial)
    clear hT
    obtain ⟨O_pa, O_pc, O_qa, O_qc, rfl, rfl, rfl, rfl⟩ := O_g1.out.shape
    rw [EE_n.out, EE_m.out, EE_k.out, EE_i.out] at O_g1 ⊢
    have hbx : Below v4.heap.size v4 g1 := (Below.refl _ _).drew.trans hbx0
    clear hbx0
    have x0_g1 := x0_v4.below hbx
    have x1_g1 := x1_v4.below hbx
    have x2_g1 := x2_v4.below hbx
    have yp_g1 := yp_v4.below hbx
    have yg_g1 := yg_v4.below hbx
    have ye1_g1 := ye1_v4.below hbx
    have T_g1 := Lib.hid (T_v4.out.bel hbx)
    have e1_g1 := Lib.hid (e1_v4.out.bel hbx)
    have C_g1 := Lib.hid (C_v4.out.bel hbx)
    have M_g1 := Lib.hid (M_v4.out.bel hbx)
    have X_g1 := Lib.hid (X_v4.out.bel hbx)
    have Z_g1 := Lib.hid (Z_v4.out.bel hbx)
    have VC_g1 := Lib.hid (VC_v4.out.bel hbx)
    have VM_g1 := Lib.hid (VM_v4.out.bel hbx)
    have c_g1 := Lib.hid (c_v4.out.bel hbx)
    have B_g1 := B_v4.trans (hbx.mono B_v4.size)
    clear x0_v4 x1_v4 x2_v4 yp_v4 yg_v4 ye1_v4 T_v4 e1_v4 C_v4 M_v4 X_v4 Z_v4 VC_v4 VM_v4 c_v4 B_v4 hbx
    have hS : (g1).cell? ⟨p, 0, none⟩ = some (.int .i64 b) ∧ (g1).cell? ⟨p, 1, none⟩ = some (.slice V_ca C.length V_cc) ∧ (g1).cell? ⟨p, 2, none⟩ = some (.slice V_ma M.length V_mc) ∧ (g1).cell? ⟨p + 1, 0, none⟩ = some (.int .i64 hk) ∧ (g1).cell? ⟨p + 1, 1, none⟩ = some (.int .i64 hi) ∧ (g1).cell? ⟨e1p, 0, none⟩ = some (.slice e1_a z1_n e1_c) ∧ (g1).cell? ⟨e1p, 1, none⟩ = some (.int .i64 z1_d) := ⟨yp_g1.cell rfl, yp_g1.cell rfl, yp_g1.cell rfl, yg_g1.cell rfl, yg_g1.cell rfl, ye1_g1.cell rfl, ye1_g1.cell rfl⟩
    refine hK.out _ _ (fun _ => hS) ?_
    clear hK K
    try simp only [Act.put, List.setIfInBounds_toArray, List.set_cons_zero, List.set_cons_succ, List.getElem_toArray, List.getElem_cons_zero, List.getElem_cons_succ]
    have Hsz6 := Lib.hid (size6_k O_g1.out (by have := HEf.out; omega))
    rw [Ees.out] at Hsz6
    refine wpN_step (i := 6) (by kernel_rfl) rfl (fun K hK => ?_)
    go_simp
    refine (Hsz6.out).mono ?_
    rintro e g2 ⟨rfl, hbx0⟩
    have hbx : Below g1.heap.size g1 g2 := hbx0
    clear hbx0
    have x0_g2 := x0_g1.below hbx
    have x1_g2 := x1_g1.below hbx
    have x2_g2 := x2_g1.below hbx
    have yp_g2 := yp_g1.below hbx
    have yg_g2 := yg_g1.below hbx
    have ye1_g2 := ye1_g1.below hbx
    have T_g2 := Lib.hid (T_g1.out.bel hbx)
    have e1_g2 := Lib.hid (e1_g1.out.bel hbx)
    have C_g2 := Lib.hid (C_g1.out.bel hbx)
    have M_g2 := Lib.hid (M_g1.out.bel hbx)
    have X_g2 := Lib.hid (X_g1.out.bel hbx)
    have Z_g2 := Lib.hid (Z_g1.out.bel hbx)
    have VC_g2 := Lib.hid (VC_g1.out.bel hbx)
    have VM_g2 := Lib.hid (VM_g1.out.bel hbx)
    have c_g2 := Lib.hid (c_g1.out.bel hbx)
    have O_g2 := Lib.hid (O_g1.out.bel hbx)
    have B_g2 := B_g1.trans (hbx.mono B_g1.size)
    clear x0_g1 x1_g1 x2_g1 yp_g1 yg_g1 ye1_g1 T_g1 e1_g1 C_g1 M_g1 X_g1 Z_g1 VC_g1 VM_g1 c_g1 O_g1 B_g1 hbx
    have hS : (g2).cell? ⟨p, 0, none⟩ = some (.int .i64 b) ∧ (g2).cell? ⟨p, 1, none⟩ = some (.slice V_ca C.length V_cc) ∧ (g2).cell? ⟨p, 2, none⟩ = some (.slice V_ma M.length V_mc) ∧ (g2).cell? ⟨p + 1, 0, none⟩ = some (.int .i64 hk) ∧ (g2).cell? ⟨p + 1, 1, none⟩ = some (.int .i64 hi) ∧ (g2).cell? ⟨e1p, 0, none⟩ = some (.slice e1_a z1_n e1_c) ∧ (g2).cell? ⟨e1p, 1, none⟩ = some (.int .i64 z1_d) := ⟨yp_g2.cell rfl, yp_g2.cell rfl, yp_g2.cell rfl, yg_g2.cell rfl, yg_g2.cell rfl, ye1_g2.cell rfl, ye1_g2.cell rfl⟩
    refine hK.out _ _ (fun _ => hS) ?_
    clear hK K
    try simp only [Act.put, List.setIfInBounds_toArray, List.set_cons_zero, List.set_cons_succ, List.getElem_toArray, List.getElem_cons_zero, List.getElem_cons_succ]
    clear Hsz6
    clear O_g2
    refine wpN_take (i := 7) (v := ?v48) rfl (by kernel_rfl) (fun _ _ _ h => h) hS (Or.inl ⟨by rfl, ?hy48⟩) ?hr48
    case hy48 => (intro wS hSw; (try dsimp only at hSw); go_simp; (try with_reducible rfl))
    try simp only [Act.put, List.setIfInBounds_toArray, List.set_cons_zero, List.set_cons_succ, List.getElem_toArray, List.getElem_cons_zero, List.getElem_cons_succ]
    refine wpN_take (i := 8) (v := ?v49) rfl (by kernel_rfl) (fun _ _ _ h => h) hS (Or.inl ⟨by rfl, ?hy49⟩) ?hr49
    case hy49 => (intro wS hSw; (try dsimp only at hSw); go_simp; (try with_reducible rfl))
    try simp only [Act.put, List.setIfInBounds_toArray, List.set_cons_zero, List.set_cons_succ, List.getElem_toArray, List.getElem_cons_zero, List.getElem_cons_succ]
    refine wpN_take (i := 9) (v := ?v50) rfl (by kernel_rfl) (fun _ _ _ h => h) hS (Or.inl ⟨by rfl, ?hy50⟩) ?hr50
    case hy50 => (intro wS hSw; (try dsimp only at hSw); go_simp; (try with_reducible rfl))
    try simp only [Act.put, List.setIfInBounds_toArray, List.set_cons_zero, List.set_cons_succ, List.getElem_toArray, List.getElem_cons_zero, List.getElem_cons_succ]
    refine wpN_take (i := 10) (v := ?v51) rfl (by kernel_rfl) (fun _ _ _ h => h) hS (Or.inl ⟨by rfl, ?hy51⟩) ?hr51
    case hy51 => (intro wS hSw; (try dsimp only at hSw); go_simp; (try with_reducible rfl))
    try simp only [Act.put, List.setIfInBounds_toArray, List.set_cons_zero, List.set_cons_succ, List.getElem_toArray, List.getElem_cons_zero, List.getElem_cons_succ]
    refine wpN_take (i := 11) (v := ?v52) rfl (by kernel_rfl) (fun _ _ _ h => h) hS (Or.inl ⟨by rfl, ?hy52⟩) ?hr52
    case hy52 => (intro wS hSw; (try dsimp only at hSw); go_simp; (try with_reducible rfl))
    try simp only [Act.put, List.setIfInBounds_toArray, List.set_cons_zero, List.set_cons_succ, List.getElem_toArray, List.getElem_cons_zero, List.getElem_cons_succ]
    refine wpN_take (i := 12) (v := ?v53) rfl (by kernel_rfl) (fun _ _ _ h => h) hS (Or.inl ⟨by rfl, ?hy53⟩) ?hr53
    case hy53 => (intro wS hSw; (try dsimp only at hSw); go_simp; (try with_reducible rfl))
    try simp only [Act.put, List.setIfInBounds_toArray, List.set_cons_zero, List.set_cons_succ, List.getElem_toArray, List.getElem_cons_zero, List.getElem_cons_succ]
    refine wpN_take (i := 13) (v := ?v54) rfl (by kernel_rfl) (fun _ _ _ h => h) hS (Or.inl ⟨by rfl, ?hy54⟩) ?hr54
    case hy54 => (intro wS hSw; (try dsimp only at hSw); go_simp; (try with_reducible rfl))
    try simp only [Act.put, List.setIfInBounds_toArray, List.set_cons_zero, List.set_cons_succ, List.getElem_toArray, List.getElem_cons_zero, List.getElem_cons_succ]
    refine wpN_take (i := 15) (v := ?v55) rfl (by kernel_rfl) (fun _ _ _ h => h) hS (Or.inl ⟨by rfl, ?hy55⟩) ?hr55
    case hy55 => (intro wS hSw; (try dsimp only at hSw); go_simp; (try with_reducible rfl))
    try simp only [Act.put, List.setIfInBounds_toArray, List.set_cons_zero, List.set_cons_succ, List.getElem_toArray, List.getElem_cons_zero, List.getElem_cons_succ]
    refine wpN_step (i := 14) (by kernel_rfl) rfl (fun K hK => ?_)
    go_simp
    refine (Heta.out g2 e1_g2.out).mono ?_
    intro e g3 h
    obtain ⟨_, _, _, _, rfl, hT, hbx0⟩ := h
    have O_g3 := Lib.hid (hT.weaken (F' := fun _ => True) fun _ _ _ => trivial)
    clear hT
    obtain ⟨O_pa, O_pc, O_qa, O_qc, rfl, rfl, rfl, rfl⟩ := O_g3.out.shape
    rw [EE_n.out, EE_m.out, EE_k.out, EE_i.out] at O_g3 ⊢
    have hbx : Below g2.heap.size g2 g3 := hbx0
    clear hbx0
    have x0_g3 := x0_g2.below hbx
    have x1_g3 := x1_g2.below hbx
    have x2_g3 := x2_g2.below hbx
    have yp_g3 := yp_g2.below hbx
    have yg_g3 := yg_g2.below hbx
    have ye1_g3 := ye1_g2.below hbx
    have T_g3 := Lib.hid (T_g2.out.bel hbx)
    have e1_g3 := Lib.hid (e1_g2.out.bel hbx)
    have C_g3 := Lib.hid (C_g2.out.bel hbx)
    have M_g3 := Lib.hid (M_g2.out.bel hbx)
    have X_g3 := Lib.hid (X_g2.out.bel hbx)
    have Z_g3 := Lib.hid (Z_g2.out.bel hbx)
    have VC_g3 := Lib.hid (VC_g2.out.bel hbx)
    have VM_g3 := Lib.hid (VM_g2.out.bel hbx)
    have c_g3 := Lib.hid (c_g2.out.bel hbx)
    have B_g3 := B_g2.trans (hbx.mono B_g2.size)
    clear x0_g2 x1_g2 x2_g2 yp_g2 yg_g2 ye1_g2 T_g2 e1_g2 C_g2 M_g2 X_g2 Z_g2 VC_g2 VM_g2 c_g2 B_g2 hbx
    have hS : (g3).cell? ⟨p, 0, none⟩ = some (.int .i64 b) ∧ (g3).cell? ⟨p, 1, none⟩ = some (.slice V_ca C.length V_cc) ∧ (g3).cell? ⟨p, 2, none⟩ = some (.slice V_ma M.length V_mc) ∧ (g3).cell? ⟨p + 1, 0, none⟩ = some (.int .i64 hk) ∧ (g3).cell? ⟨p + 1, 1, none⟩ = some (.int .i64 hi) ∧ (g3).cell? ⟨e1p, 0, none⟩ = some (.slice e1_a z1_n e1_c) ∧ (g3).cell? ⟨e1p, 1, none⟩ = some (.int .i64 z1_d) := ⟨yp_g3.cell rfl, yp_g3.cell rfl, yp_g3.cell rfl, yg_g3.cell rfl, yg_g3.cell rfl, ye1_g3.cell rfl, ye1_g3.cell rfl⟩
    refine hK.out _ _ (fun _ => hS) ?_
    clear hK K
    try simp only [Act.put, List.setIfInBounds_toArray, List.set_cons_zero, List.set_cons_succ, List.getElem_toArray, List.getElem_cons_zero, List.getElem_cons_succ]
    refine wpN_step (i := 16) (by kernel_rfl) rfl (fun K hK => ?_)
    go_simp
    refine (Check_kT VC_g3.out VM_g3.out c_g3.out O_g3.out e1_g3.out (by have := HEf.out; have := Hs.out.2.2.1; omega) HEt.out).mono ?_
    rintro e g4 ⟨cA, HcA, rfl, hbx0⟩
    have hbx : Below g3.heap.size g3 g4 := hbx0
    clear hbx0
    have x0_g4 := x0_g3.below hbx
    have x1_g4 := x1_g3.below hbx
    have x2_g4 := x2_g3.below hbx
    have yp_g4 := yp_g3.below hbx
    have yg_g4 := yg_g3.below hbx
    have ye1_g4 := ye1_g3.below hbx
    have T_g4 := Lib.hid (T_g3.out.bel hbx)
    have e1_g4 := Lib.hid (e1_g3.out.bel hbx)
    have C_g4 := Lib.hid (C_g3.out.bel hbx)
    have M_g4 := Lib.hid (M_g3.out.bel hbx)
    have X_g4 := Lib.hid (X_g3.out.bel hbx)
    have Z_g4 := Lib.hid (Z_g3.out.bel hbx)
    have VC_g4 := Lib.hid (VC_g3.out.bel hbx)
    have VM_g4 := Lib.hid (VM_g3.out.bel hbx)
    have c_g4 := Lib.hid (c_g3.out.bel hbx)
    have O_g4 := Lib.hid (O_g3.out.bel hbx)
    have B_g4 := B_g3.trans (hbx.mono B_g3.size)
    clear x0_g3 x1_g3 x2_g3 yp_g3 yg_g3 ye1_g3 T_g3 e1_g3 C_g3 M_g3 X_g3 Z_g3 VC_g3 VM_g3 c_g3 O_g3 B_g3 hbx
    have hS : (g4).cell? ⟨p, 0, none⟩ = some (.int .i64 b) ∧ (g4).cell? ⟨p, 1, none⟩ = some (.slice V_ca C.length V_cc) ∧ (g4).cell? ⟨p, 2, none⟩ = some (.slice V_ma M.length V_mc) ∧ (g4).cell? ⟨p + 1, 0, none⟩ = some (.int .i64 hk) ∧ (g4).cell? ⟨p + 1, 1, none⟩ = some (.int .i64 hi) ∧ (g4).cell? ⟨e1p, 0, none⟩ = some (.slice e1_a z1_n e1_c) ∧ (g4).cell? ⟨e1p, 1, none⟩ = some (.int .i64 z1_d) := ⟨yp_g4.cell rfl, yp_g4.cell rfl, yp_g4.cell rfl, yg_g4.cell rfl, yg_g4.cell rfl, ye1_g4.cell rfl, ye1_g4.cell rfl⟩
    refine hK.out _ _ (fun _ => hS) ?_
    clear hK K
    try simp only [Act.put, List.setIfInBounds_toArray, List.set_cons_zero, List.set_cons_succ, List.getElem_toArray, List.getElem_cons_zero, List.getElem_cons_succ]
    clear O_g4
    obtain rfl : cA = 0 := HE.out.2 cA HcA.out
    clear HcA hesz2
    refine wpN_take (i := 17) (v := ?v56) rfl (by kernel_rfl) (fun _ _ _ h => h) hS (Or.inl ⟨by rfl, ?hy56⟩) ?hr56
    case hy56 => (intro wS hSw; (try dsimp only at hSw); go_simp; (try with_reducible rfl))
    try simp only [Act.put, List.setIfInBounds_toArray, List.set_cons_zero, List.set_cons_succ, List.getElem_toArray, List.getElem_cons_zero, List.getElem_cons_succ]
    refine wpN_take (i := 18) (v := ?v57) rfl (by kernel_rfl) (fun _ _ _ h => h) hS (Or.inl ⟨by rfl, ?hy57⟩) ?hr57
    case hy57 => (intro wS hSw; (try dsimp only at hSw); go_simp; (try with_reducible rfl))
    try simp only [Act.put, List.setIfInBounds_toArray, List.set_cons_zero, List.set_cons_succ, List.getElem_toArray, List.getElem_cons_zero, List.getElem_cons_succ]
    refine wpN_done (by kernel_rfl) ?_
    refine NoPanic.normal ?_
    clear hS
    clear ye1_g4 e1_g4 x1_g4 yg_g4
    go_wp2_with fail
    have D2 : (k2 = false ∧ c2 = 10) ∨ (k2 = true ∧ c2 = 0) := by
      have h := Hc2.out
      rcases Bool.eq_false_or_eq_true k2 with hk | hk
      · exact .inr ⟨hk, by rw [h, hk]; rfl⟩
      · exact .inl ⟨hk, by rw [h, hk]; rfl⟩
    refine wp_region_noPanic (wp_region_need (S := fun w' => w'.cell? ⟨w.heap.size + 1 + 1, 0, none⟩ = some (.slice t_pa t_n t_pc) ∧ w'.cell? ⟨w.heap.size + 1 + 1, 1, none⟩ = some (.int .i64 t_k) ∧ w'.cell? ⟨w.heap.size + 1 + 1, 2, none⟩ = some (.int .i64 t_i) ∧ w'.cell? ⟨w.heap.size + 1 + 1, 3, none⟩ = some (.slice t_qa t_m t_qc) ∧ w'.cell? ⟨p, 0, none⟩ = some (.int .i64 b) ∧ w'.cell? ⟨p, 1, none⟩ = some (.slice V_ca C.length V_cc) ∧ w'.cell? ⟨p, 2, none⟩ = some (.slice V_ma M.length V_mc)) (by kernel_rfl) ?_)
    have hS : (g4.drew).cell? ⟨w.heap.size + 1 + 1, 0, none⟩ = some (.slice t_pa t_n t_pc) ∧ (g4.drew).cell? ⟨w.heap.size + 1 + 1, 1, none⟩ = some (.int .i64 t_k) ∧ (g4.drew).cell? ⟨w.heap.size + 1 + 1, 2, none⟩ = some (.int .i64 t_i) ∧ (g4.drew).cell? ⟨w.heap.size + 1 + 1, 3, none⟩ = some (.slice t_qa t_m t_qc) ∧ (g4.drew).cell? ⟨p, 0, none⟩ = some (.int .i64 b) ∧ (g4.drew).cell? ⟨p, 1, none⟩ = some (.slice V_ca C.length V_cc) ∧ (g4.drew).cell? ⟨p, 2, none⟩ = some (.slice V_ma M.length V_mc) := ⟨x2_g4.drew.cell rfl, x2_g4.drew.cell rfl, x2_g4.drew.cell rfl, x2_g4.drew.cell rfl, yp_g4.drew.cell rfl, yp_g4.drew.cell rfl, yp_g4.drew.cell rfl⟩
    refine wpN_take (i := 0) (v := ?v58) rfl (by kernel_rfl) (fun _ _ _ h => h) hS (Or.inl ⟨by rfl, ?hy58⟩) ?hr58
    case hy58 => (intro wS hSw; (try dsimp only at hSw); go_simp; (try with_reducible rfl))
    try simp only [Act.put, List.setIfInBounds_toArray, List.set_cons_zero, List.set_cons_succ, List.getElem_toArray, List.getElem_cons_zero, List.getElem_cons_succ]
    refine wpN_pure (i := 1) (v := ?v59) rfl (by kernel_rfl) (fun _ _ _ h => h) (Or.inl ⟨by rfl, ?hy59⟩) ?hr59
    case hy59 => (intro wS hSw; go_simp; (try with_reducible rfl))
    try simp only [Act.put, List.setIfInBounds_toArray, List.set_cons_zero, List.set_cons_succ, List.getElem_toArray, List.getElem_cons_zero, List.getElem_cons_succ]
    refine wpN_takeD [3, 4, 5, 6, 9, 10] (i := 2) (v := ?v60) rfl (by kernel_rfl) (fun _ _ _ h => h) hS (Or.inl ⟨by rfl, ?hy60⟩) ?hr60
    case hy60 => (intro wS hSw; (try dsimp only at hSw); go_simp; (try with_reducible rfl))
    try simp only [Act.put, List.setIfInBounds_toArray, List.set_cons_zero, List.set_cons_succ, List.getElem_toArray, List.getElem_cons_zero, List.getElem_cons_succ]
    refine wpN_gathersR [(3, 81), (4, 82), (8, 16), (5, 77), (6, 83), (7, 84)] [5, 6, 7] 2 (PhiL [(3, phiTm t), (4, phiTyc z2 c2), (8, phiBlk #[.slice none 0 0, .int .i64 0] 40), (5, phiTup), (6, phiAny), (7, phiAny)]) (fun j uP => match j with | 5 => uP 5 = uP 4 | 6 => ∃ a k, uP 5 = .tuple #[a, k] ∧ uP 6 = a | 7 => ∃ a k, uP 5 = .tuple #[a, k] ∧ uP 7 = k | _ => True) rfl rfl (by kernel_rfl) phiL_below ?gpsi hS ?gop (by kernel_rfl) (fun _ _ _ _ h => h) ?gpu ?gend
    case gpsi =>
      intro jG hj uG uG' hG
      simp only [List.map_cons, List.map_nil, List.mem_cons, List.not_mem_nil, or_false] at hj
      rcases hj with rfl | rfl | rfl | rfl | rfl | rfl
      · exact id
      · exact id
      · exact id
      · show (uG 5 = uG 4) → (uG' 5 = uG' 4)
        rw [hG 5 (.inl rfl), hG 4 (.inr (by kernel_rfl))]
        exact id
      · show (∃ a k, uG 5 = .tuple #[a, k] ∧ uG 6 = a) → (∃ a k, uG' 5 = .tuple #[a, k] ∧ uG' 6 = a)
        rw [hG 6 (.inl rfl), hG 5 (.inr (by kernel_rfl))]
        exact id
      · show (∃ a k, uG 5 = .tuple #[a, k] ∧ uG 7 = k) → (∃ a k, uG' 5 = .tuple #[a, k] ∧ uG' 7 = k)
        rw [hG 7 (.inl rfl), hG 5 (.inr (by kernel_rfl))]
        exact id
    case gop =>
      intro xG hx uG w' hdG hB' hS'
      obtain ⟨q1, q2, q3, q4, q5, q6, q7⟩ := hS'
      have hbw : Below g4.heap.size g4 w' := (Below.refl _ _).drew.trans hB'
      simp only [List.mem_cons, List.not_mem_nil, or_false] at hx
      rcases hx with rfl | rfl | rfl | rfl | rfl | rfl
      · skip
        clear hdG
        refine wpOp_step (i := 3) rfl (fun K hK => ?_)
        have hK := Lib.hid hK
        simp only [fills, List.foldl, Act.put, List.setIfInBounds_toArray, List.set_cons_zero, List.set_cons_succ, List.getElem_toArray, List.getElem_cons_zero, List.getElem_cons_succ]
        go_simp
        refine (to6_any (T_g4.out.bel hbw) w' (by have := Hf.out.1; omega) (Keep.refl _ _)).mono ?_
        intro e w6 h
        obtain ⟨_, _, _, _, rfl, hT, hb6⟩ := h
        have hKp : Keep (fun _ => True) w' w6 := (Keep.refl _ _).below hb6
        exact hK.out _ _ ⟨_, rfl, phiL_mk rfl ⟨_, _, _, _, rfl, hT.weaken fun _ h1 h2 => ⟨h2, h1⟩⟩, trivial, hb6, hKp _ _ _ trivial q1, hKp _ _ _ trivial q2, hKp _ _ _ trivial q3, hKp _ _ _ trivial q4, hKp _ _ _ trivial q5, hKp _ _ _ trivial q6, hKp _ _ _ trivial q7⟩
      · skip
        obtain ⟨_, x3, y3, g3⟩ := hdG 3 (by simp) (by kernel_rfl)
        obtain ⟨_, _, _, _, e3, V3⟩ := phiL_at rfl g3
        obtain ⟨m3_pa, m3_pc, m3_qa, m3_qc, rfl, rfl, rfl, rfl⟩ := V3.shape
        rw [Et_n.out, Et_m.out, Et_k.out, Et_i.out] at V3 e3
        obtain ⟨uH3, rfl⟩ := upd_self e3
        clear hdG
        refine wpOp_step (i := 4) rfl (fun K hK => ?_)
        have hK := Lib.hid hK
        simp only [fills, List.foldl, Act.put, List.setIfInBounds_toArray, List.set_cons_zero, List.set_cons_succ, List.getElem_toArray, List.getElem_cons_zero, List.getElem_cons_succ]
        simp only [e3]
        go_simp
        refine (TypeOf_kF Hk2.out Hz2.out Hc2.out (VC_g4.out.bel hbw) (VM_g4.out.bel hbw) (c_g4.out.bel hbw) (V3.weaken (F' := fun _ => True) fun _ _ _ => trivial) Hti.out (by have := Hs.out.2.2.1; omega) (by have := Hf.out.1; omega) Ho2.out).mono ?_
        intro e w6 h
        obtain ⟨_, _, rfl, hT, hb6⟩ := h
        have hKp : Keep (fun _ => True) w' w6 := (Keep.refl _ _).below hb6
        exact hK.out _ _ ⟨_, rfl, phiL_mk rfl ⟨_, _, rfl, hT.weaken fun _ h1 h2 => ⟨h2, h1⟩⟩, trivial, hb6, hKp _ _ _ trivial q1, hKp _ _ _ trivial q2, hKp _ _ _ trivial q3, hKp _ _ _ trivial q4, hKp _ _ _ trivial q5, hKp _ _ _ trivial q6, hKp _ _ _ trivial q7⟩
      · skip
        clear hdG
        refine wpOp_step (i := 8) rfl (fun K hK => ?_)
        have hK := Lib.hid hK
        simp only [fills, List.foldl, Act.put, List.setIfInBounds_toArray, List.set_cons_zero, List.set_cons_succ, List.getElem_toArray, List.getElem_cons_zero, List.getElem_cons_succ]
        go_simp
        have hb6 : Below w'.heap.size w' (w'.alloc (.cells #[.slice none 0 0, .int .i64 0] 40)) := (Below.refl _ _).alloc (Nat.le_refl _) _
        have hKp : Keep (fun _ => True) w' (w'.alloc (.cells #[.slice none 0 0, .int .i64 0] 40)) := (Keep.refl _ _).below hb6
        exact hK.out _ _ ⟨_, rfl, phiL_mk rfl ⟨rfl, by simp, Blk.new _ _ _ rfl⟩, trivial, hb6, hKp _ _ _ trivial q1, hKp _ _ _ trivial q2, hKp _ _ _ trivial q3, hKp _ _ _ trivial q4, hKp _ _ _ trivial q5, hKp _ _ _ trivial q6, hKp _ _ _ trivial q7⟩
      · skip
        obtain ⟨_, x4, y4, g4⟩ := hdG 4 (by simp) (by kernel_rfl)
        obtain ⟨_, _, e4, V4⟩ := phiL_at rfl g4
        obtain ⟨pp_a, pp_c, rfl, rfl⟩ := V4.shape
        obtain ⟨uH4, rfl⟩ := upd_self e4
        clear hdG
        refine wpOp_step (i := 5) rfl (fun K hK => ?_)
        have hK := Lib.hid hK
        simp only [fills, List.foldl, Act.put, List.setIfInBounds_toArray, List.set_cons_zero, List.set_cons_succ, List.getElem_toArray, List.getElem_cons_zero, List.getElem_cons_succ]
        simp only [e4]
        go_simp
        have hb6 : Below w'.heap.size w' w' := Below.refl _ _
        exact hK.out _ _ ⟨_, rfl, phiL_mk rfl ⟨_, _, rfl⟩, rfl, hb6, q1, q2, q3, q4, q5, q6, q7⟩
      · skip
        obtain ⟨_, x5, y5, g5⟩ := hdG 5 (by simp) (by kernel_rfl)
        obtain ⟨a5, k5, e5⟩ := phiL_at rfl g5
        obtain ⟨uH5, rfl⟩ := upd_self e5
        clear hdG
        refine wpOp_step (i := 6) rfl (fun K hK => ?_)
        have hK := Lib.hid hK
        simp only [fills, List.foldl, Act.put, List.setIfInBounds_toArray, List.set_cons_zero, List.set_cons_succ, List.getElem_toArray, List.getElem_cons_zero, List.getElem_cons_succ]
        simp only [e5]
        go_simp
        have hb6 : Below w'.heap.size w' w' := Below.refl _ _
        exact hK.out _ _ ⟨_, rfl, phiL_mk rfl trivial, ⟨_, _, rfl, rfl⟩, hb6, q1, q2, q3, q4, q5, q6, q7⟩
      · skip
        obtain ⟨_, x5, y5, g5⟩ := hdG 5 (by simp) (by kernel_rfl)
        obtain ⟨a5, k5, e5⟩ := phiL_at rfl g5
        obtain ⟨uH5, rfl⟩ := upd_self e5
        clear hdG
        refine wpOp_step (i := 7) rfl (fun K hK => ?_)
        have hK := Lib.hid hK
        simp only [fills, List.foldl, Act.put, List.setIfInBounds_toArray, List.set_cons_zero, List.set_cons_succ, List.getElem_toArray, List.getElem_cons_zero, List.getElem_cons_succ]
        simp only [e5]
        go_simp
        have hb6 : Below w'.heap.size w' w' := Below.refl _ _
        exact hK.out _ _ ⟨_, rfl, phiL_mk rfl trivial, ⟨_, _, rfl, rfl⟩, hb6, q1, q2, q3, q4, q5, q6, q7⟩
    case gpu =>
      intro jG hj uG w' hdG
      simp only [List.mem_cons, List.not_mem_nil, or_false] at hj
      rcases hj with rfl | rfl | rfl
      · skip
        obtain ⟨x4, y4, g4⟩ := hdG 4 (by simp) (by kernel_rfl)
        obtain ⟨_, _, e4, V4⟩ := phiL_at rfl g4
        obtain ⟨pp_a, pp_c, rfl, rfl⟩ := V4.shape
        obtain ⟨uH4, rfl⟩ := upd_self e4
        refine ⟨_, .tuple #[.agg #[.slice pp_a z2.args.length pp_c, .int .i64 z2.base], .int .i64 c2], rfl, Or.inl ⟨by rfl, fun wS _ => ?_⟩, fills_put _ _ (by simp) (by simp) (by simp), phiL_mk rfl ⟨_, _, rfl⟩, rfl⟩
        simp only [fills, List.foldl, Act.put, List.setIfInBounds_toArray, List.set_cons_zero, List.set_cons_succ, List.getElem_toArray, List.getElem_cons_zero, List.getElem_cons_succ]
        simp only [e4]
        go_simp
        try with_reducible rfl
      · skip
        obtain ⟨x5, y5, g5⟩ := hdG 5 (by simp) (by kernel_rfl)
        obtain ⟨a5, k5, e5⟩ := phiL_at rfl g5
        obtain ⟨uH5, rfl⟩ := upd_self e5
        refine ⟨_, a5, rfl, Or.inl ⟨by rfl, fun wS _ => ?_⟩, fills_put _ _ (by simp) (by simp) (by simp), phiL_mk rfl trivial, ⟨_, _, rfl, rfl⟩⟩
        simp only [fills, List.foldl, Act.put, List.setIfInBounds_toArray, List.set_cons_zero, List.set_cons_succ, List.getElem_toArray, List.getElem_cons_zero, List.getElem_cons_succ]
        simp only [e5]
        go_simp
        try with_reducible rfl
      · skip
        obtain ⟨x5, y5, g5⟩ := hdG 5 (by simp) (by kernel_rfl)
        obtain ⟨a5, k5, e5⟩ := phiL_at rfl g5
        obtain ⟨uH5, rfl⟩ := upd_self e5
        refine ⟨_, k5, rfl, Or.inl ⟨by rfl, fun wS _ => ?_⟩, fills_put _ _ (by simp) (by simp) (by simp), phiL_mk rfl trivial, ⟨_, _, rfl, rfl⟩⟩
        simp only [fills, List.foldl, Act.put, List.setIfInBounds_toArray, List.set_cons_zero, List.set_cons_succ, List.getElem_toArray, List.getElem_cons_zero, List.getElem_cons_succ]
        simp only [e5]
        go_simp
        try with_reducible rfl
    case gend =>
      intro uG loG hiG w' hΦ hΨ hB' hS'
      have hbw : Below g4.heap.size g4 w' := (Below.refl _ _).drew.trans hB'
      have hsz : g4.drew.heap.size = g4.heap.size := rfl
      have hsB := B_g4.size
      obtain ⟨g3, n3, m3, o3⟩ := hΦ.1 3 (by simp) rfl
      obtain ⟨_, _, _, _, e3, V3⟩ := phiL_at rfl g3
      obtain ⟨m3_pa, m3_pc, m3_qa, m3_qc, rfl, rfl, rfl, rfl⟩ := V3.shape
      rw [Et_n.out, Et_m.out, Et_k.out, Et_i.out] at V3 e3
      obtain ⟨g4, n4, m4, o4⟩ := hΦ.1 4 (by simp) rfl
      obtain ⟨_, _, e4, V4⟩ := phiL_at rfl g4
      obtain ⟨pp_a, pp_c, rfl, rfl⟩ := V4.shape
      obtain ⟨g8, n8, m8, o8⟩ := hΦ.1 8 (by simp) rfl
      obtain ⟨e8, r8, Z8⟩ := phiL_at rfl g8
      obtain ⟨g5, n5, m5, o5⟩ := hΦ.1 5 (by simp) rfl
      obtain ⟨g6, n6, m6, o6⟩ := hΦ.1 6 (by simp) rfl
      obtain ⟨g7, n7, m7, o7⟩ := hΦ.1 7 (by simp) rfl
      have k3_8 := hΦ.2 3 (by simp) 8 (by simp) rfl rfl (by decide)
      have k4_8 := hΦ.2 4 (by simp) 8 (by simp) rfl rfl (by decide)
      have k5_8 := hΦ.2 5 (by simp) 8 (by simp) rfl rfl (by decide)
      have k6_8 := hΦ.2 6 (by simp) 8 (by simp) rfl rfl (by decide)
      have k7_8 := hΦ.2 7 (by simp) 8 (by simp) rfl rfl (by decide)
      have e5 : uG 5 = uG 4 := hΨ 5 (by simp)
      rw [e4] at e5
      obtain ⟨_, _, h1, e6⟩ : ∃ a k, uG 5 = .tuple #[a, k] ∧ uG 6 = a := hΨ 6 (by simp)
      rw [e5] at h1
      cases h1
      obtain ⟨_, _, h1, e7⟩ : ∃ a k, uG 5 = .tuple #[a, k] ∧ uG 7 = k := hΨ 7 (by simp)
      rw [e5] at h1
      cases h1
      clear hΨ
      clear hΦ g3 g4 g8 g5 g6 g7
      simp only [fills, List.foldl, Act.put, List.setIfInBounds_toArray, List.set_cons_zero, List.set_cons_succ, List.getElem_toArray, List.getElem_cons_zero, List.getElem_cons_succ]
      rw [e3, e4, e8, e5, e6, e7]
      clear e3 e4 e8 e5 e6 e7
      rw [hsz] at n3 n4 n8 n5 n6 n7
      generalize loG 8 = q at *
      have U4 := Lib.hid (V4.weaken (F' := fun z => z ≠ q) fun z _ h => by omega)
      clear V3 V4 k3_8 k4_8 k5_8 k6_8 k7_8
      have rq_0 : w'.cell? ⟨q, 0, none⟩ = some (.slice none 0 0) := Z8.cell rfl
      have fq_0 := Z8.free 0
      have rq_1 : w'.cell? ⟨q, 1, none⟩ = some (.int .i64 0) := Z8.cell rfl
      have fq_1 := Z8.free 1
      refine wpN_step (i := 9) (by kernel_rfl) rfl (fun K hK => ?_)
      have hK := Lib.hid hK
      simp only [Act.put, List.setIfInBounds_toArray, List.set_cons_zero, List.set_cons_succ, List.getElem_toArray, List.getElem_cons_zero, List.getElem_cons_succ]
      go_simp
      refine hK.out.out _ _ (fun h => absurd h (by decide)) ?_
      refine wpN_step (i := 10) (by kernel_rfl) rfl (fun K hK => ?_)
      have hK := Lib.hid hK
      simp only [Act.put, List.setIfInBounds_toArray, List.set_cons_zero, List.set_cons_succ, List.getElem_toArray, List.getElem_cons_zero, List.getElem_cons_succ]
      go_simp
      refine hK.out.out _ _ (fun h => absurd h (by decide)) ?_
      refine wpN_done (by kernel_rfl) ?_
      refine NoPanic.normal ?_
      obtain ⟨j0, hj0⟩ : ∃ x, ((w'.setCell ⟨q, 0, none⟩ (.slice pp_a z2.args.length pp_c)).setCell ⟨q, 1, none⟩ (.int .i64 z2.base)) = x := ⟨_, rfl⟩
      rw [hj0]
      have Lx0 := x0_g4.lt
      have Lx2 := x2_g4.lt
      have Lyp := yp_g4.lt
      have B6 := B_g4.trans (hbw.mono B_g4.size)
      have x0_j0 : Blk j0 (w.heap.size) #[.int .i64 b, .slice ca C.length cc, .slice ma M.length mc] 87 := by rw [← hj0]; exact ((x0_g4.below hbw).far _ _ (by simp; omega)).far _ _ (by simp; omega)
      have x2_j0 : Blk j0 (w.heap.size + 1 + 1) #[.slice t_pa t_n t_pc, .int .i64 t_k, .int .i64 t_i, .slice t_qa t_m t_qc] 29 := by rw [← hj0]; exact ((x2_g4.below hbw).far _ _ (by simp; omega)).far _ _ (by simp; omega)
      have yp_j0 : Blk j0 (p) #[.int .i64 b, .slice V_ca C.length V_cc, .slice V_ma M.length V_mc] 90 := by rw [← hj0]; exact ((yp_g4.below hbw).far _ _ (by simp; omega)).far _ _ (by simp; omega)
      have yq_j0 : Blk j0 q #[.slice pp_a z2.args.length pp_c, .int .i64 z2.base] 40 := by rw [← hj0]; exact ((Z8).set 0 _).set 1 _
      have nq : g4.heap.size ≤ q := n8
      have KU : Keep (fun z => z ≠ q) w' j0 := by rw [← hj0]; exact ((Keep.refl _ _).setCell _ _ (by simp)).setCell _ _ (by simp)
      have KT : Keep (fun z => z < g4.heap.size) g4 j0 := by rw [← hj0]; exact (((Keep.refl _ _).below hbw).setCell _ _ (by simp; omega)).setCell _ _ (by simp; omega)
      have B_j0 : Below w.heap.size w j0 := by rw [← hj0]; exact ((B6).setCell (by simp; omega) _).setCell (by simp; omega) _
      have pp_j0 := Lib.hid ((U4.out.keep KU).weaken (F' := fun _ => True) fun _ _ _ => trivial)
      have T_j0 := Lib.hid (((T_g4.out.weaken (F' := fun z => z < g4.heap.size) fun z hz _ => hz).keep KT).weaken (F' := fun _ => True) fun _ _ _ => trivial)
      have C_j0 := Lib.hid (((C_g4.out.weaken (F' := fun z => z < g4.heap.size) (by decide) fun z hz _ => hz).keep KT).weaken (F' := fun _ => True) (by decide) fun _ _ _ => trivial)
      have M_j0 := Lib.hid (((M_g4.out.weaken (F' := fun z => z < g4.heap.size) (by decide) fun z hz _ => hz).keep KT).weaken (F' := fun _ => True) (by decide) fun _ _ _ => trivial)
      have X_j0 := Lib.hid (((X_g4.out.weaken (F' := fun z => z < g4.heap.size) (by decide) fun z hz _ => hz).keep KT).weaken (F' := fun _ => True) (by decide) fun _ _ _ => trivial)
      have Z_j0 := Lib.hid (((Z_g4.out.weaken (F' := fun z => z < g4.heap.size) (by decide) fun z hz _ => hz).keep KT).weaken (F' := fun _ => True) (by decide) fun _ _ _ => trivial)
      have VC_j0 := Lib.hid (((VC_g4.out.weaken (F' := fun z => z < g4.heap.size) (by decide) fun z hz _ => hz).keep KT).weaken (F' := fun _ => True) (by decide) fun _ _ _ => trivial)
      have VM_j0 := Lib.hid (((VM_g4.out.weaken (F' := fun z => z < g4.heap.size) (by decide) fun z hz _ => hz).keep KT).weaken (F' := fun _ => True) (by decide) fun _ _ _ => trivial)
      have c_j0 := Lib.hid (((c_g4.out.weaken (F' := fun z => z < g4.heap.size) (by decide) fun z hz _ => hz).keep KT).weaken (F' := fun _ => True) (by decide) fun _ _ _ => trivial)
      clear hj0 KU KT U4 x0_g4 x2_g4 yp_g4 T_g4 C_g4 M_g4 X_g4 Z_g4 VC_g4 VM_g4 c_g4 B_g4 Z8 rq_0 fq_0 rq_1 fq_1 Lx0 Lx2 Lyp hbw hB' B6 hS hS' hsz hsB n3 n4 n8 n5 n6 n7 m3 m4 m8 m5 m6 m7 o3 o4 o8 o5 o6 o7 r8
      go_wp2_with fail
      rcases D2 with ⟨rfl, rfl⟩ | ⟨rfl, rfl⟩
      · skip
        refine wp_region_noPanic (wp_region_need (S := fun w' => w'.cell? ⟨w.heap.size + 1 + 1, 0, none⟩ = some (.slice t_pa t_n t_pc) ∧ w'.cell? ⟨w.heap.size + 1 + 1, 1, none⟩ = some (.int .i64 t_k) ∧ w'.cell? ⟨w.heap.size + 1 + 1, 2, none⟩ = some (.int .i64 t_i) ∧ w'.cell? ⟨w.heap.size + 1 + 1, 3, none⟩ = some (.slice t_qa t_m t_qc) ∧ w'.cell? ⟨p, 0, none⟩ = some (.int .i64 b) ∧ w'.cell? ⟨p, 1, none⟩ = some (.slice V_ca C.length V_cc) ∧ w'.cell? ⟨p, 2, none⟩ = some (.slice V_ma M.length V_mc) ∧ w'.cell? ⟨q, 0, none⟩ = some (.slice pp_a z2.args.length pp_c) ∧ w'.cell? ⟨q, 1, none⟩ = some (.int .i64 z2.base)) (by kernel_rfl) ?_)
        have hS : (j0.drew).cell? ⟨w.heap.size + 1 + 1, 0, none⟩ = some (.slice t_pa t_n t_pc) ∧ (j0.drew).cell? ⟨w.heap.size + 1 + 1, 1, none⟩ = some (.int .i64 t_k) ∧ (j0.drew).cell? ⟨w.heap.size + 1 + 1, 2, none⟩ = some (.int .i64 t_i) ∧ (j0.drew).cell? ⟨w.heap.size + 1 + 1, 3, none⟩ = some (.slice t_qa t_m t_qc) ∧ (j0.drew).cell? ⟨p, 0, none⟩ = some (.int .i64 b) ∧ (j0.drew).cell? ⟨p, 1, none⟩ = some (.slice V_ca C.length V_cc) ∧ (j0.drew).cell? ⟨p, 2, none⟩ = some (.slice V_ma M.length V_mc) ∧ (j0.drew).cell? ⟨q, 0, none⟩ = some (.slice pp_a z2.args.length pp_c) ∧ (j0.drew).cell? ⟨q, 1, none⟩ = some (.int .i64 z2.base) := ⟨x2_j0.drew.cell rfl, x2_j0.drew.cell rfl, x2_j0.drew.cell rfl, x2_j0.drew.cell rfl, yp_j0.drew.cell rfl, yp_j0.drew.cell rfl, yp_j0.drew.cell rfl, yq_j0.drew.cell rfl, yq_j0.drew.cell rfl⟩
        refine wpN_take (i := 0) (v := ?v61) rfl (by kernel_rfl) (fun _ _ _ h => h) hS (Or.inl ⟨by rfl, ?hy61⟩) ?hr61
        case hy61 => (intro wS hSw; (try dsimp only at hSw); go_simp; (try with_reducible rfl))
        try simp only [Act.put, List.setIfInBounds_toArray, List.set_cons_zero, List.set_cons_succ, List.getElem_toArray, List.getElem_cons_zero, List.getElem_cons_succ]
        refine wpN_take (i := 1) (v := ?v62) rfl (by kernel_rfl) (fun _ _ _ h => h) hS (Or.inl ⟨by rfl, ?hy62⟩) ?hr62
        case hy62 => (intro wS hSw; (try dsimp only at hSw); go_simp; (try with_reducible rfl))
        try simp only [Act.put, List.setIfInBounds_toArray, List.set_cons_zero, List.set_cons_succ, List.getElem_toArray, List.getElem_cons_zero, List.getElem_cons_succ]
        refine wpN_take (i := 2) (v := ?v63) rfl (by kernel_rfl) (fun _ _ _ h => h) hS (Or.inl ⟨by rfl, ?hy63⟩) ?hr63
        case hy63 => (intro wS hSw; (try dsimp only at hSw); go_simp; (try with_reducible rfl))
        try simp only [Act.put, List.setIfInBounds_toArray, List.set_cons_zero, List.set_cons_succ, List.getElem_toArray, List.getElem_cons_zero, List.getElem_cons_succ]
        refine wpN_pure (i := 3) (v := undef) rfl (by kernel_rfl) (fun _ _ _ h => h) (Or.inr ⟨by rfl, rfl⟩) ?_
        try simp only [Act.put, List.setIfInBounds_toArray, List.set_cons_zero, List.set_cons_succ, List.getElem_toArray, List.getElem_cons_zero, List.getElem_cons_succ]
        refine wpN_pure (i := 4) (v := undef) rfl (by kernel_rfl) (fun _ _ _ h => h) (Or.inr ⟨by rfl, rfl⟩) ?_
        try simp only [Act.put, List.setIfInBounds_toArray, List.set_cons_zero, List.set_cons_succ, List.getElem_toArray, List.getElem_cons_zero, List.getElem_cons_succ]
        refine wpN_pure (i := 5) (v := undef) rfl (by kernel_rfl) (fun _ _ _ h => h) (Or.inr ⟨by rfl, rfl⟩) ?_
        try simp only [Act.put, List.setIfInBounds_toArray, List.set_cons_zero, List.set_cons_succ, List.getElem_toArray, List.getElem_cons_zero, List.getElem_cons_succ]
        refine wpN_pure (i := 6) (v := undef) rfl (by kernel_rfl) (fun _ _ _ h => h) (Or.inr ⟨by rfl, rfl⟩) ?_
        try simp only [Act.put, List.setIfInBounds_toArray, List.set_cons_zero, List.set_cons_succ, List.getElem_toArray, List.getElem_cons_zero, List.getElem_cons_succ]
        refine wpN_pure (i := 7) (v := undef) rfl (by kernel_rfl) (fun _ _ _ h => h) (Or.inr ⟨by rfl, rfl⟩) ?_
        try simp only [Act.put, List.setIfInBounds_toArray, List.set_cons_zero, List.set_cons_succ, List.getElem_toArray, List.getElem_cons_zero, List.getElem_cons_succ]
        refine wpN_pure (i := 8) (v := undef) rfl (by kernel_rfl) (fun _ _ _ h => h) (Or.inr ⟨by rfl, rfl⟩) ?_
        try simp only [Act.put, List.setIfInBounds_toArray, List.set_cons_zero, List.set_cons_succ, List.getElem_toArray, List.getElem_cons_zero, List.getElem_cons_succ]
        refine wpN_pure (i := 9) (v := undef) rfl (by kernel_rfl) (fun _ _ _ h => h) (Or.inr ⟨by rfl, rfl⟩) ?_
        try simp only [Act.put, List.setIfInBounds_toArray, List.set_cons_zero, List.set_cons_succ, List.getElem_toArray, List.getElem_cons_zero, List.getElem_cons_succ]
        refine wpN_take (i := 10) (v := ?v64) rfl (by kernel_rfl) (fun _ _ _ h => h) hS (Or.inl ⟨by rfl, ?hy64⟩) ?hr64
        case hy64 => (intro wS hSw; (try dsimp only at hSw); go_simp; (try with_reducible rfl))
        try simp only [Act.put, List.setIfInBounds_toArray, List.set_cons_zero, List.set_cons_succ, List.getElem_toArray, List.getElem_cons_zero, List.getElem_cons_succ]
        refine wpN_done (by kernel_rfl) ?_
        refine NoPanic.normal ?_
        clear hS
        go_wp2_with fail
        refine (known06 _).mono ?_
        rintro e wk ⟨rfl, hbk⟩
        go_wp2_with fail
        go_ret
        exact ⟨rfl, B_j0.drew.trans (hbk.mono B_j0.size)⟩
      refine wp_region_noPanic (wp_region_need (S := fun w' => w'.cell? ⟨w.heap.size + 1 + 1, 0, none⟩ = some (.slice t_pa t_n t_pc) ∧ w'.cell? ⟨w.heap.size + 1 + 1, 1, none⟩ = some (.int .i64 t_k) ∧ w'.cell? ⟨w.heap.size + 1 + 1, 2, none⟩ = some (.int .i64 t_i) ∧ w'.cell? ⟨w.heap.size + 1 + 1, 3, none⟩ = some (.slice t_qa t_m t_qc) ∧ w'.cell? ⟨p, 0, none⟩ = some (.int .i64 b) ∧ w'.cell? ⟨p, 1, none⟩ = some (.slice V_ca C.length V_cc) ∧ w'.cell? ⟨p, 2, none⟩ = some (.slice V_ma M.length V_mc) ∧ w'.cell? ⟨q, 0, none⟩ = some (.slice pp_a z2.args.length pp_c) ∧ w'.cell? ⟨q, 1, none⟩ = some (.int .i64 z2.base)) (by kernel_rfl) ?_)
      have hS : (j0.drew).cell? ⟨w.heap.size + 1 + 1, 0, none⟩ = some (.slice t_pa t_n t_pc) ∧ (j0.drew).cell? ⟨w.heap.size + 1 + 1, 1, none⟩ = some (.int .i64 t_k) ∧ (j0.drew).cell? ⟨w.heap.size + 1 + 1, 2, none⟩ = some (.int .i64 t_i) ∧ (j0.drew).cell? ⟨w.heap.size + 1 + 1, 3, none⟩ = some (.slice t_qa t_m t_qc) ∧ (j0.drew).cell? ⟨p, 0, none⟩ = some (.int .i64 b) ∧ (j0.drew).cell? ⟨p, 1, none⟩ = some (.slice V_ca C.length V_cc) ∧ (j0.drew).cell? ⟨p, 2, none⟩ = some (.slice V_ma M.length V_mc) ∧ (j0.drew).cell? ⟨q, 0, none⟩ = some (.slice pp_a z2.args.length pp_c) ∧ (j0.drew).cell? ⟨q, 1, none⟩ = some (.int .i64 z2.base) := ⟨x2_j0.drew.cell rfl, x2_j0.drew.cell rfl, x2_j0.drew.cell rfl, x2_j0.drew.cell rfl, yp_j0.drew.cell rfl, yp_j0.drew.cell rfl, yp_j0.drew.cell rfl, yq_j0.drew.cell rfl, yq_j0.drew.cell rfl⟩
      refine wpN_take (i := 0) (v := ?v65) rfl (by kernel_rfl) (fun _ _ _ h => h) hS (Or.inl ⟨by rfl, ?hy65⟩) ?hr65
      case hy65 => (intro wS hSw; (try dsimp only at hSw); go_simp; (try with_reducible rfl))
      try simp only [Act.put, List.setIfInBounds_toArray, List.set_cons_zero, List.set_cons_succ, List.getElem_toArray, List.getElem_cons_zero, List.getElem_cons_succ]
      refine wpN_take (i := 1) (v := ?v66) rfl (by kernel_rfl) (fun _ _ _ h => h) hS (Or.inl ⟨by rfl, ?hy66⟩) ?hr66
      case hy66 => (intro wS hSw; (try dsimp only at hSw); go_simp; (try with_reducible rfl))
      try simp only [Act.put, List.setIfInBounds_toArray, List.set_cons_zero, List.set_cons_succ, List.getElem_toArray, List.getElem_cons_zero, List.getElem_cons_succ]
      refine wpN_take (i := 2) (v := ?v67) rfl (by kernel_rfl) (fun _ _ _ h => h) hS (Or.inl ⟨by rfl, ?hy67⟩) ?hr67
      case hy67 => (intro wS hSw; (try dsimp only at hSw); go_simp; (try with_reducible rfl))
      try simp only [Act.put, List.setIfInBounds_toArray, List.set_cons_zero, List.set_cons_succ, List.getElem_toArray, List.getElem_cons_zero, List.getElem_cons_succ]
      refine wpN_take (i := 3) (v := ?v68) rfl (by kernel_rfl) (fun _ _ _ h => h) hS (Or.inl ⟨by rfl, ?hy68⟩) ?hr68
      case hy68 => (intro wS hSw; (try dsimp only at hSw); go_simp; (try with_reducible rfl))
      try simp only [Act.put, List.setIfInBounds_toArray, List.set_cons_zero, List.set_cons_succ, List.getElem_toArray, List.getElem_cons_zero, List.getElem_cons_succ]
      refine wpN_take (i := 4) (v := ?v69) rfl (by kernel_rfl) (fun _ _ _ h => h) hS (Or.inl ⟨by rfl, ?hy69⟩) ?hr69
      case hy69 => (intro wS hSw; (try dsimp only at hSw); go_simp; (try with_reducible rfl))
      try simp only [Act.put, List.setIfInBounds_toArray, List.set_cons_zero, List.set_cons_succ, List.getElem_toArray, List.getElem_cons_zero, List.getElem_cons_succ]
      refine wpN_take (i := 5) (v := ?v70) rfl (by kernel_rfl) (fun _ _ _ h => h) hS (Or.inl ⟨by rfl, ?hy70⟩) ?hr70
      case hy70 => (intro wS hSw; (try dsimp only at hSw); go_simp; (try with_reducible rfl))
      try simp only [Act.put, List.setIfInBounds_toArray, List.set_cons_zero, List.set_cons_succ, List.getElem_toArray, List.getElem_cons_zero, List.getElem_cons_succ]
      refine wpN_take (i := 7) (v := ?v71) rfl (by kernel_rfl) (fun _ _ _ h => h) hS (Or.inl ⟨by rfl, ?hy71⟩) ?hr71
      case hy71 => (intro wS hSw; (try dsimp only at hSw); go_simp; (try with_reducible rfl))
      try simp only [Act.put, List.setIfInBounds_toArray, List.set_cons_zero, List.set_cons_succ, List.getElem_toArray, List.getElem_cons_zero, List.getElem_cons_succ]
      refine wpN_step (i := 6) (by kernel_rfl) rfl (fun K hK => ?_)
      go_simp
      refine (to6_any T_j0.out j0.drew (by have := Hf.out.1; omega) (Keep.refl _ _).drew).mono ?_
      intro e m1 h
      obtain ⟨_, _, _, _, rfl, hT, hbx0⟩ := h
      have O_m1 := Lib.hid (hT.weaken (F' := fun _ => True) fun _ _ _ => trivial)
      clear hT
      obtain ⟨O_pa, O_pc, O_qa, O_qc, rfl, rfl, rfl, rfl⟩ := O_m1.out.shape
      rw [Et_n.out, Et_m.out, Et_k.out, Et_i.out] at O_m1 ⊢
      have hbx : Below j0.heap.size j0 m1 := (Below.refl _ _).drew.trans hbx0
      clear hbx0
      have x0_m1 := x0_j0.below hbx
      have x2_m1 := x2_j0.below hbx
      have yp_m1 := yp_j0.below hbx
      have yq_m1 := yq_j0.below hbx
      have T_m1 := Lib.hid (T_j0.out.bel hbx)
      have C_m1 := Lib.hid (C_j0.out.bel hbx)
      have M_m1 := Lib.hid (M_j0.out.bel hbx)
      have X_m1 := Lib.hid (X_j0.out.bel hbx)
      have Z_m1 := Lib.hid (Z_j0.out.bel hbx)
      have VC_m1 := Lib.hid (VC_j0.out.bel hbx)
      have VM_m1 := Lib.hid (VM_j0.out.bel hbx)
      have c_m1 := Lib.hid (c_j0.out.bel hbx)
      have pp_m1 := Lib.hid (pp_j0.out.bel hbx)
      have B_m1 := B_j0.trans (hbx.mono B_j0.size)
      clear x0_j0 x2_j0 yp_j0 yq_j0 T_j0 C_j0 M_j0 X_j0 Z_j0 VC_j0 VM_j0 c_j0 pp_j0 B_j0 hbx
      have hS : (m1).cell? ⟨w.heap.size + 1 + 1, 0, none⟩ = some (.slice t_pa t_n t_pc) ∧ (m1).cell? ⟨w.heap.size + 1 + 1, 1, none⟩ = some (.int .i64 t_k) ∧ (m1).cell? ⟨w.heap.size + 1 + 1, 2, none⟩ = some (.int .i64 t_i) ∧ (m1).cell? ⟨w.heap.size + 1 + 1, 3, none⟩ = some (.slice t_qa t_m t_qc) ∧ (m1).cell? ⟨p, 0, none⟩ = some (.int .i64 b) ∧ (m1).cell? ⟨p, 1, none⟩ = some (.slice V_ca C.length V_cc) ∧ (m1).cell? ⟨p, 2, none⟩ = some (.slice V_ma M.length V_mc) ∧ (m1).cell? ⟨q, 0, none⟩ = some (.slice pp_a z2.args.length pp_c) ∧ (m1).cell? ⟨q, 1, none⟩ = some (.int .i64 z2.base) := ⟨x2_m1.cell rfl, x2_m1.cell rfl, x2_m1.cell rfl, x2_m1.cell rfl, yp_m1.cell rfl, yp_m1.cell rfl, yp_m1.cell rfl, yq_m1.cell rfl, yq_m1.cell rfl⟩
      refine hK.out _ _ (fun _ => hS) ?_
      clear hK K
      try simp only [Act.put, List.setIfInBounds_toArray, List.set_cons_zero, List.set_cons_succ, List.getElem_toArray, List.getElem_cons_zero, List.getElem_cons_succ]
      refine wpN_step (i := 8) (by kernel_rfl) rfl (fun K hK => ?_)
      go_simp
      refine (Check_kT VC_m1.out VM_m1.out c_m1.out O_m1.out pp_m1.out (by have := Hf.out.1; have := Hs.out.2.2.1; omega) Hfit.out).mono ?_
      rintro e m2 ⟨cA, HcA, rfl, hbx0⟩
      have hbx : Below m1.heap.size m1 m2 := hbx0
      clear hbx0
      have x0_m2 := x0_m1.below hbx
      have x2_m2 := x2_m1.below hbx
      have yp_m2 := yp_m1.below hbx
      have yq_m2 := yq_m1.below hbx
      have T_m2 := Lib.hid (T_m1.out.bel hbx)
      have C_m2 := Lib.hid (C_m1.out.bel hbx)
      have M_m2 := Lib.hid (M_m1.out.bel hbx)
      have X_m2 := Lib.hid (X_m1.out.bel hbx)
      have Z_m2 := Lib.hid (Z_m1.out.bel hbx)
      have VC_m2 := Lib.hid (VC_m1.out.bel hbx)
      have VM_m2 := Lib.hid (VM_m1.out.bel hbx)
      have c_m2 := Lib.hid (c_m1.out.bel hbx)
      have pp_m2 := Lib.hid (pp_m1.out.bel hbx)
      have O_m2 := Lib.hid (O_m1.out.bel hbx)
      have B_m2 := B_m1.trans (hbx.mono B_m1.size)
      clear x0_m1 x2_m1 yp_m1 yq_m1 T_m1 C_m1 M_m1 X_m1 Z_m1 VC_m1 VM_m1 c_m1 pp_m1 O_m1 B_m1 hbx
      have hS : (m2).cell? ⟨w.heap.size + 1 + 1, 0, none⟩ = some (.slice t_pa t_n t_pc) ∧ (m2).cell? ⟨w.heap.size + 1 + 1, 1, none⟩ = some (.int .i64 t_k) ∧ (m2).cell? ⟨w.heap.size + 1 + 1, 2, none⟩ = some (.int .i64 t_i) ∧ (m2).cell? ⟨w.heap.size + 1 + 1, 3, none⟩ = some (.slice t_qa t_m t_qc) ∧ (m2).cell? ⟨p, 0, none⟩ = some (.int .i64 b) ∧ (m2).cell? ⟨p, 1, none⟩ = some (.slice V_ca C.length V_cc) ∧ (m2).cell? ⟨p, 2, none⟩ = some (.slice V_ma M.length V_mc) ∧ (m2).cell? ⟨q, 0, none⟩ = some (.slice pp_a z2.args.length pp_c) ∧ (m2).cell? ⟨q, 1, none⟩ = some (.int .i64 z2.base) := ⟨x2_m2.cell rfl, x2_m2.cell rfl, x2_m2.cell rfl, x2_m2.cell rfl, yp_m2.cell rfl, yp_m2.cell rfl, yp_m2.cell rfl, yq_m2.cell rfl, yq_m2.cell rfl⟩
      refine hK.out _ _ (fun _ => hS) ?_
      clear hK K
      try simp only [Act.put, List.setIfInBounds_toArray, List.set_cons_zero, List.set_cons_succ, List.getElem_toArray, List.getElem_cons_zero, List.getElem_cons_succ]
      clear O_m2
      by_cases hA : cA = 0
      rotate_left
      · have g1 : (cA == 0) = false := by simpa using hA
        have g2 : (cA != 0) = true := by simpa using hA
        refine wpN_take (i := 9) (v := ?v72) rfl (by kernel_rfl) (fun _ _ _ h => h) hS (Or.inl ⟨by rfl, ?hy72⟩) ?hr72
        case hy72 => (intro wS hSw; (try dsimp only at hSw); go_simp; (try with_reducible rfl))
        try simp only [Act.put, List.setIfInBounds_toArray, List.set_cons_zero, List.set_cons_succ, List.getElem_toArray, List.getElem_cons_zero, List.getElem_cons_succ]
        refine wpN_take (i := 10) (v := ?v73) rfl (by kernel_rfl) (fun _ _ _ h => h) hS (Or.inl ⟨by rfl, ?hy73⟩) ?hr73
        case hy73 => (intro wS hSw; (try dsimp only at hSw); go_simp; (try with_reducible rfl))
        try simp only [Act.put, List.setIfInBounds_toArray, List.set_cons_zero, List.set_cons_succ, List.getElem_toArray, List.getElem_cons_zero, List.getElem_cons_succ]
        refine wpN_done (by kernel_rfl) ?_
        refine NoPanic.normal ?_
        clear hS
        go_wp2_with fail
        refine (known06 _).mono ?_
        rintro e wk ⟨rfl, hbk⟩
        go_wp2_with fail
        go_ret
        exact ⟨rfl, B_m2.trans (hbk.mono B_m2.size)⟩
      subst hA
      have HL := Lib.hid (Hlaw.out z2 (checkCode_zero HcA.out))
      clear HcA
      refine wpN_take (i := 9) (v := ?v74) rfl (by kernel_rfl) (fun _ _ _ h => h) hS (Or.inl ⟨by rfl, ?hy74⟩) ?hr74
      case hy74 => (intro wS hSw; (try dsimp only at hSw); go_simp; (try with_reducible rfl))
      try simp only [Act.put, List.setIfInBounds_toArray, List.set_cons_zero, List.set_cons_succ, List.getElem_toArray, List.getElem_cons_zero, List.getElem_cons_succ]
      refine wpN_take (i := 10) (v := ?v75) rfl (by kernel_rfl) (fun _ _ _ h => h) hS (Or.inl ⟨by rfl, ?hy75⟩) ?hr75
      case hy75 => (intro wS hSw; (try dsimp only at hSw); go_simp; (try with_reducible rfl))
      try simp only [Act.put, List.setIfInBounds_toArray, List.set_cons_zero, List.set_cons_succ, List.getElem_toArray, List.getElem_cons_zero, List.getElem_cons_succ]
      refine wpN_done (by kernel_rfl) ?_
      refine NoPanic.normal ?_
      clear hS
      obtain ⟨S, hSS⟩ : ∃ S, t.mapl (grow Z.length 0) 0 = S := ⟨_, rfl⟩
      obtain ⟨L, hL⟩ : ∃ L, (t.looses 0).foldl looseL 0 = L := ⟨_, rfl⟩
      rw [hSS, hL] at HL
      have HlL := Lib.hid hL
      have hLe : L ≤ (X.length : Int) := HL.out.2.2
      have HSf := Lib.hid (Tm.shift_fit (b := (Z.length : Int)) (f := 0) Hfit.out (by have := Hf.out.1; omega))
      rw [HL.out.1] at HSf
      clear hSS hL
      obtain ⟨S_n, hn1⟩ : ∃ x, S.binds.length = x := ⟨_, rfl⟩
      obtain ⟨S_m, hn2⟩ : ∃ x, S.args.length = x := ⟨_, rfl⟩
      obtain ⟨S_k, hn3⟩ : ∃ x, S.kind = x := ⟨_, rfl⟩
      obtain ⟨S_i, hn4⟩ : ∃ x, S.index = x := ⟨_, rfl⟩
      have ES_n := Lib.hid hn1; have ES_m := Lib.hid hn2; have ES_k := Lib.hid hn3; have ES_i := Lib.hid hn4
      clear hn1 hn2 hn3 hn4
      have cx20 : m2.cell? ⟨w.heap.size + 1 + 1, 0, none⟩ = some (.slice t_pa t_n t_pc) := x2_m2.cell rfl
      have cx21 : m2.cell? ⟨w.heap.size + 1 + 1, 1, none⟩ = some (.int .i64 t_k) := x2_m2.cell rfl
      have cx22 : m2.cell? ⟨w.heap.size + 1 + 1, 2, none⟩ = some (.int .i64 t_i) := x2_m2.cell rfl
      have cx23 : m2.cell? ⟨w.heap.size + 1 + 1, 3, none⟩ = some (.slice t_qa t_m t_qc) := x2_m2.cell rfl
      have lx2 := x2_m2.lt
      go_wp2_with fail
      clear cx20 cx21 cx22 cx23 lx2
      refine (to6_any T_m2.out m2 (by have := Hf.out.1; omega) (Keep.refl _ _)).mono ?_
      intro e n0 h
      obtain ⟨_, _, _, _, rfl, hT, hbx0⟩ := h
      have O_n0 := Lib.hid (hT.weaken (F' := fun _ => True) fun _ _ _ => trivial)
      clear hT
      obtain ⟨O_pa, O_pc, O_qa, O_qc, rfl, rfl, rfl, rfl⟩ := O_n0.out.shape
      rw [Et_n.out, Et_m.out, Et_k.out, Et_i.out] at O_n0 ⊢
      have hbx : Below m2.heap.size m2 n0 := hbx0
      clear hbx0
      have x0_n0 := x0_m2.below hbx
      have x2_n0 := x2_m2.below hbx
      have yp_n0 := yp_m2.below hbx
      have yq_n0 := yq_m2.below hbx
      have T_n0 := Lib.hid (T_m2.out.bel hbx)
      have C_n0 := Lib.hid (C_m2.out.bel hbx)
      have M_n0 := Lib.hid (M_m2.out.bel hbx)
      have X_n0 := Lib.hid (X_m2.out.bel hbx)
      have Z_n0 := Lib.hid (Z_m2.out.bel hbx)
      have VC_n0 := Lib.hid (VC_m2.out.bel hbx)
      have VM_n0 := Lib.hid (VM_m2.out.bel hbx)
      have c_n0 := Lib.hid (c_m2.out.bel hbx)
      have pp_n0 := Lib.hid (pp_m2.out.bel hbx)
      have B_n0 := B_m2.trans (hbx.mono B_m2.size)
      clear x0_m2 x2_m2 yp_m2 yq_m2 T_m2 C_m2 M_m2 X_m2 Z_m2 VC_m2 VM_m2 c_m2 pp_m2 B_m2 hbx
      have Hsh := Lib.hid (shift_k O_n0.out (by have := Hf.out.1; omega) Hfit.out (Z.length : Int) 0 (by have := Hzl.out; omega) (by omega))
      rw [HL.out.1] at Hsh
      go_wp2_with fail
      refine (Hsh.out).mono ?_
      rintro e n1 ⟨_, _, _, _, rfl, hT, hbx0⟩
      have hbx : Below n0.heap.size n0 n1 := hbx0
      clear hbx0
      have x0_n1 := x0_n0.below hbx
      have x2_n1 := x2_n0.below hbx
      have yp_n1 := yp_n0.below hbx
      have yq_n1 := yq_n0.below hbx
      have T_n1 := Lib.hid (T_n0.out.bel hbx)
      have C_n1 := Lib.hid (C_n0.out.bel hbx)
      have M_n1 := Lib.hid (M_n0.out.bel hbx)
      have X_n1 := Lib.hid (X_n0.out.bel hbx)
      have Z_n1 := Lib.hid (Z_n0.out.bel hbx)
      have VC_n1 := Lib.hid (VC_n0.out.bel hbx)
      have VM_n1 := Lib.hid (VM_n0.out.bel hbx)
      have c_n1 := Lib.hid (c_n0.out.bel hbx)
      have pp_n1 := Lib.hid (pp_n0.out.bel hbx)
      have O_n1 := Lib.hid (O_n0.out.bel hbx)
      have B_n1 := B_n0.trans (hbx.mono B_n0.size)
      clear x0_n0 x2_n0 yp_n0 yq_n0 T_n0 C_n0 M_n0 X_n0 Z_n0 VC_n0 VM_n0 c_n0 pp_n0 O_n0 B_n0 hbx
      have S_n1 := Lib.hid (hT.weaken (F' := fun _ => True) fun _ _ _ => trivial)
      clear hT Hsh
      clear O_n1
      obtain ⟨sb, sc, sd, se, rfl, rfl, rfl, rfl⟩ := S_n1.out.shape
      rw [ES_n.out, ES_m.out, ES_k.out, ES_i.out] at S_n1 ⊢
      go_wp2_with fail
      obtain ⟨n2, hn2⟩ : ∃ n2, n1.alloc (.cells #[.slice sb S_n sc, .int .i64 S_k, .int .i64 S_i, .slice sd S_m se] 37) = n2 := ⟨_, rfl⟩
      obtain ⟨sp, hsp⟩ : ∃ x, n1.heap.size = x := ⟨_, rfl⟩
      have hbx : Below n1.heap.size n1 n2 := by rw [← hn2]; exact (Below.refl _ _).alloc (Nat.le_refl _) _
      have ys_n2 : Blk n2 sp #[.slice sb S_n sc, .int .i64 S_k, .int .i64 S_i, .slice sd S_m se] 37 := by rw [← hn2]; exact Blk.new _ _ _ hsp.symm
      try rw [hn2]
      try rw [hsp]
      clear hn2 hsp
      have x0_n2 := x0_n1.below hbx
      have x2_n2 := x2_n1.below hbx
      have yp_n2 := yp_n1.below hbx
      have yq_n2 := yq_n1.below hbx
      have T_n2 := Lib.hid (T_n1.out.bel hbx)
      have C_n2 := Lib.hid (C_n1.out.bel hbx)
      have M_n2 := Lib.hid (M_n1.out.bel hbx)
      have X_n2 := Lib.hid (X_n1.out.bel hbx)
      have Z_n2 := Lib.hid (Z_n1.out.bel hbx)
      have VC_n2 := Lib.hid (VC_n1.out.bel hbx)
      have VM_n2 := Lib.hid (VM_n1.out.bel hbx)
      have c_n2 := Lib.hid (c_n1.out.bel hbx)
      have pp_n2 := Lib.hid (pp_n1.out.bel hbx)
      have S_n2 := Lib.hid (S_n1.out.bel hbx)
      have B_n2 := B_n1.trans (hbx.mono B_n1.size)
      clear x0_n1 x2_n1 yp_n1 yq_n1 T_n1 C_n1 M_n1 X_n1 Z_n1 VC_n1 VM_n1 c_n1 pp_n1 S_n1 B_n1 hbx
      refine wp_region_noPanic (wp_region_need (S := fun w' => w'.cell? ⟨w.heap.size + 1 + 1, 0, none⟩ = some (.slice t_pa t_n t_pc) ∧ w'.cell? ⟨w.heap.size + 1 + 1, 1, none⟩ = some (.int .i64 t_k) ∧ w'.cell? ⟨w.heap.size + 1 + 1, 2, none⟩ = some (.int .i64 t_i) ∧ w'.cell? ⟨w.heap.size + 1 + 1, 3, none⟩ = some (.slice t_qa t_m t_qc) ∧ w'.cell? ⟨p, 0, none⟩ = some (.int .i64 b) ∧ w'.cell? ⟨p, 1, none⟩ = some (.slice V_ca C.length V_cc) ∧ w'.cell? ⟨p, 2, none⟩ = some (.slice V_ma M.length V_mc) ∧ w'.cell? ⟨q, 0, none⟩ = some (.slice pp_a z2.args.length pp_c) ∧ w'.cell? ⟨q, 1, none⟩ = some (.int .i64 z2.base) ∧ w'.cell? ⟨sp, 0, none⟩ = some (.slice sb S_n sc) ∧ w'.cell? ⟨sp, 1, none⟩ = some (.int .i64 S_k) ∧ w'.cell? ⟨sp, 2, none⟩ = some (.int .i64 S_i) ∧ w'.cell? ⟨sp, 3, none⟩ = some (.slice sd S_m se)) (by kernel_rfl) ?_)
      have hS : (n2.drew).cell? ⟨w.heap.size + 1 + 1, 0, none⟩ = some (.slice t_pa t_n t_pc) ∧ (n2.drew).cell? ⟨w.heap.size + 1 + 1, 1, none⟩ = some (.int .i64 t_k) ∧ (n2.drew).cell? ⟨w.heap.size + 1 + 1, 2, none⟩ = some (.int .i64 t_i) ∧ (n2.drew).cell? ⟨w.heap.size + 1 + 1, 3, none⟩ = some (.slice t_qa t_m t_qc) ∧ (n2.drew).cell? ⟨p, 0, none⟩ = some (.int .i64 b) ∧ (n2.drew).cell? ⟨p, 1, none⟩ = some (.slice V_ca C.length V_cc) ∧ (n2.drew).cell? ⟨p, 2, none⟩ = some (.slice V_ma M.length V_mc) ∧ (n2.drew).cell? ⟨q, 0, none⟩ = some (.slice pp_a z2.args.length pp_c) ∧ (n2.drew).cell? ⟨q, 1, none⟩ = some (.int .i64 z2.base) ∧ (n2.drew).cell? ⟨sp, 0, none⟩ = some (.slice sb S_n sc) ∧ (n2.drew).cell? ⟨sp, 1, none⟩ = some (.int .i64 S_k) ∧ (n2.drew).cell? ⟨sp, 2, none⟩ = some (.int .i64 S_i) ∧ (n2.drew).cell? ⟨sp, 3, none⟩ = some (.slice sd S_m se) := ⟨x2_n2.drew.cell rfl, x2_n2.drew.cell rfl, x2_n2.drew.cell rfl, x2_n2.drew.cell rfl, yp_n2.drew.cell rfl, yp_n2.drew.cell rfl, yp_n2.drew.cell rfl, yq_n2.drew.cell rfl, yq_n2.drew.cell rfl, ys_n2.drew.cell rfl, ys_n2.drew.cell rfl, ys_n2.drew.cell rfl, ys_n2.drew.cell rfl⟩
      refine wpN_step (i := 0) (by kernel_rfl) rfl (fun K hK => ?_)
      go_simp
      refine (known06 n2.drew).mono ?_
      rintro e q1 ⟨rfl, hbx0⟩
      have hbx : Below n2.heap.size n2 q1 := (Below.refl _ _).drew.trans hbx0
      clear hbx0
      have x0_q1 := x0_n2.below hbx
      have x2_q1 := x2_n2.below hbx
      have yp_q1 := yp_n2.below hbx
      have yq_q1 := yq_n2.below hbx
      have ys_q1 := ys_n2.below hbx
      have T_q1 := Lib.hid (T_n2.out.bel hbx)
      have C_q1 := Lib.hid (C_n2.out.bel hbx)
      have M_q1 := Lib.hid (M_n2.out.bel hbx)
      have X_q1 := Lib.hid (X_n2.out.bel hbx)
      have Z_q1 := Lib.hid (Z_n2.out.bel hbx)
      have VC_q1 := Lib.hid (VC_n2.out.bel hbx)
      have VM_q1 := Lib.hid (VM_n2.out.bel hbx)
      have c_q1 := Lib.hid (c_n2.out.bel hbx)
      have pp_q1 := Lib.hid (pp_n2.out.bel hbx)
      have S_q1 := Lib.hid (S_n2.out.bel hbx)
      have B_q1 := B_n2.trans (hbx.mono B_n2.size)
      clear x0_n2 x2_n2 yp_n2 yq_n2 ys_n2 T_n2 C_n2 M_n2 X_n2 Z_n2 VC_n2 VM_n2 c_n2 pp_n2 S_n2 B_n2 hbx
      have hS : (q1).cell? ⟨w.heap.size + 1 + 1, 0, none⟩ = some (.slice t_pa t_n t_pc) ∧ (q1).cell? ⟨w.heap.size + 1 + 1, 1, none⟩ = some (.int .i64 t_k) ∧ (q1).cell? ⟨w.heap.size + 1 + 1, 2, none⟩ = some (.int .i64 t_i) ∧ (q1).cell? ⟨w.heap.size + 1 + 1, 3, none⟩ = some (.slice t_qa t_m t_qc) ∧ (q1).cell? ⟨p, 0, none⟩ = some (.int .i64 b) ∧ (q1).cell? ⟨p, 1, none⟩ = some (.slice V_ca C.length V_cc) ∧ (q1).cell? ⟨p, 2, none⟩ = some (.slice V_ma M.length V_mc) ∧ (q1).cell? ⟨q, 0, none⟩ = some (.slice pp_a z2.args.length pp_c) ∧ (q1).cell? ⟨q, 1, none⟩ = some (.int .i64 z2.base) ∧ (q1).cell? ⟨sp, 0, none⟩ = some (.slice sb S_n sc) ∧ (q1).cell? ⟨sp, 1, none⟩ = some (.int .i64 S_k) ∧ (q1).cell? ⟨sp, 2, none⟩ = some (.int .i64 S_i) ∧ (q1).cell? ⟨sp, 3, none⟩ = some (.slice sd S_m se) := ⟨x2_q1.cell rfl, x2_q1.cell rfl, x2_q1.cell rfl, x2_q1.cell rfl, yp_q1.cell rfl, yp_q1.cell rfl, yp_q1.cell rfl, yq_q1.cell rfl, yq_q1.cell rfl, ys_q1.cell rfl, ys_q1.cell rfl, ys_q1.cell rfl, ys_q1.cell rfl⟩
      refine hK.out _ _ (fun _ => hS) ?_
      clear hK K
      try simp only [Act.put, List.setIfInBounds_toArray, List.set_cons_zero, List.set_cons_succ, List.getElem_toArray, List.getElem_cons_zero, List.getElem_cons_succ]
      refine wpN_take (i := 1) (v := ?v76) rfl (by kernel_rfl) (fun _ _ _ h => h) hS (Or.inl ⟨by rfl, ?hy76⟩) ?hr76
      case hy76 => (intro wS hSw; (try dsimp only at hSw); go_simp; (try with_reducible rfl))
      try simp only [Act.put, List.setIfInBounds_toArray, List.set_cons_zero, List.set_cons_succ, List.getElem_toArray, List.getElem_cons_zero, List.getElem_cons_succ]
      refine wpN_take (i := 2) (v := ?v77) rfl (by kernel_rfl) (fun _ _ _ h => h) hS (Or.inl ⟨by rfl, ?hy77⟩) ?hr77
      case hy77 => (intro wS hSw; (try dsimp only at hSw); go_simp; (try with_reducible rfl))
      try simp only [Act.put, List.setIfInBounds_toArray, List.set_cons_zero, List.set_cons_succ, List.getElem_toArray, List.getElem_cons_zero, List.getElem_cons_succ]
      refine wpN_take (i := 3) (v := ?v78) rfl (by kernel_rfl) (fun _ _ _ h => h) hS (Or.inl ⟨by rfl, ?hy78⟩) ?hr78
      case hy78 => (intro wS hSw; (try dsimp only at hSw); go_simp; (try with_reducible rfl))
      try simp only [Act.put, List.setIfInBounds_toArray, List.set_cons_zero, List.set_cons_succ, List.getElem_toArray, List.getElem_cons_zero, List.getElem_cons_succ]
      refine wpN_take (i := 4) (v := ?v79) rfl (by kernel_rfl) (fun _ _ _ h => h) hS (Or.inl ⟨by rfl, ?hy79⟩) ?hr79
      case hy79 => (intro wS hSw; (try dsimp only at hSw); go_simp; (try with_reducible rfl))
      try simp only [Act.put, List.setIfInBounds_toArray, List.set_cons_zero, List.set_cons_succ, List.getElem_toArray, List.getElem_cons_zero, List.getElem_cons_succ]
      refine wpN_take (i := 5) (v := ?v80) rfl (by kernel_rfl) (fun _ _ _ h => h) hS (Or.inl ⟨by rfl, ?hy80⟩) ?hr80
      case hy80 => (intro wS hSw; (try dsimp only at hSw); go_simp; (try with_reducible rfl))
      try simp only [Act.put, List.setIfInBounds_toArray, List.set_cons_zero, List.set_cons_succ, List.getElem_toArray, List.getElem_cons_zero, List.getElem_cons_succ]
      refine wpN_take (i := 6) (v := ?v81) rfl (by kernel_rfl) (fun _ _ _ h => h) hS (Or.inl ⟨by rfl, ?hy81⟩) ?hr81
      case hy81 => (intro wS hSw; (try dsimp only at hSw); go_simp; (try with_reducible rfl))
      try simp only [Act.put, List.setIfInBounds_toArray, List.set_cons_zero, List.set_cons_succ, List.getElem_toArray, List.getElem_cons_zero, List.getElem_cons_succ]
      refine wpN_take (i := 7) (v := ?v82) rfl (by kernel_rfl) (fun _ _ _ h => h) hS (Or.inl ⟨by rfl, ?hy82⟩) ?hr82
      case hy82 => (intro wS hSw; (try dsimp only at hSw); go_simp; (try with_reducible rfl))
      try simp only [Act.put, List.setIfInBounds_toArray, List.set_cons_zero, List.set_cons_succ, List.getElem_toArray, List.getElem_cons_zero, List.getElem_cons_succ]
      refine wpN_take (i := 8) (v := ?v83) rfl (by kernel_rfl) (fun _ _ _ h => h) hS (Or.inl ⟨by rfl, ?hy83⟩) ?hr83
      case hy83 => (intro wS hSw; (try dsimp only at hSw); go_simp; (try with_reducible rfl))
      try simp only [Act.put, List.setIfInBounds_toArray, List.set_cons_zero, List.set_cons_succ, List.getElem_toArray, List.getElem_cons_zero, List.getElem_cons_succ]
      refine wpN_take (i := 11) (v := ?v84) rfl (by kernel_rfl) (fun _ _ _ h => h) hS (Or.inl ⟨by rfl, ?hy84⟩) ?hr84
      case hy84 => (intro wS hSw; (try dsimp only at hSw); go_simp; (try with_reducible rfl))
      try simp only [Act.put, List.setIfInBounds_toArray, List.set_cons_zero, List.set_cons_succ, List.getElem_toArray, List.getElem_cons_zero, List.getElem_cons_succ]
      refine wpN_take (i := 12) (v := ?v85) rfl (by kernel_rfl) (fun _ _ _ h => h) hS (Or.inl ⟨by rfl, ?hy85⟩) ?hr85
      case hy85 => (intro wS hSw; (try dsimp only at hSw); go_simp; (try with_reducible rfl))
      try simp only [Act.put, List.setIfInBounds_toArray, List.set_cons_zero, List.set_cons_succ, List.getElem_toArray, List.getElem_cons_zero, List.getElem_cons_succ]
      have HB := Lib.hid (behind_r (IsSl2.of X_q1.out) (IsSl2.of Z_q1.out) (by have := Hs.out.2.2.1; have := Hzl.out; omega))
      rw [HY.out] at HB
      refine wpN_step (i := 9) (by kernel_rfl) rfl (fun K hK => ?_)
      go_simp
      refine (HB.out).mono ?_
      rintro e q2 ⟨y_a, y_c, rfl, hT, hbx0⟩
      have hbx : Below q1.heap.size q1 q2 := hbx0
      clear hbx0
      have x0_q2 := x0_q1.below hbx
      have x2_q2 := x2_q1.below hbx
      have yp_q2 := yp_q1.below hbx
      have yq_q2 := yq_q1.below hbx
      have ys_q2 := ys_q1.below hbx
      have T_q2 := Lib.hid (T_q1.out.bel hbx)
      have C_q2 := Lib.hid (C_q1.out.bel hbx)
      have M_q2 := Lib.hid (M_q1.out.bel hbx)
      have X_q2 := Lib.hid (X_q1.out.bel hbx)
      have Z_q2 := Lib.hid (Z_q1.out.bel hbx)
      have VC_q2 := Lib.hid (VC_q1.out.bel hbx)
      have VM_q2 := Lib.hid (VM_q1.out.bel hbx)
      have c_q2 := Lib.hid (c_q1.out.bel hbx)
      have pp_q2 := Lib.hid (pp_q1.out.bel hbx)
      have S_q2 := Lib.hid (S_q1.out.bel hbx)
      have B_q2 := B_q1.trans (hbx.mono B_q1.size)
      clear x0_q1 x2_q1 yp_q1 yq_q1 ys_q1 T_q1 C_q1 M_q1 X_q1 Z_q1 VC_q1 VM_q1 c_q1 pp_q1 S_q1 B_q1 hbx
      have hS : (q2).cell? ⟨w.heap.size + 1 + 1, 0, none⟩ = some (.slice t_pa t_n t_pc) ∧ (q2).cell? ⟨w.heap.size + 1 + 1, 1, none⟩ = some (.int .i64 t_k) ∧ (q2).cell? ⟨w.heap.size + 1 + 1, 2, none⟩ = some (.int .i64 t_i) ∧ (q2).cell? ⟨w.heap.size + 1 + 1, 3, none⟩ = some (.slice t_qa t_m t_qc) ∧ (q2).cell? ⟨p, 0, none⟩ = some (.int .i64 b) ∧ (q2).cell? ⟨p, 1, none⟩ = some (.slice V_ca C.length V_cc) ∧ (q2).cell? ⟨p, 2, none⟩ = some (.slice V_ma M.length V_mc) ∧ (q2).cell? ⟨q, 0, none⟩ = some (.slice pp_a z2.args.length pp_c) ∧ (q2).cell? ⟨q, 1, none⟩ = some (.int .i64 z2.base) ∧ (q2).cell? ⟨sp, 0, none⟩ = some (.slice sb S_n sc) ∧ (q2).cell? ⟨sp, 1, none⟩ = some (.int .i64 S_k) ∧ (q2).cell? ⟨sp, 2, none⟩ = some (.int .i64 S_i) ∧ (q2).cell? ⟨sp, 3, none⟩ = some (.slice sd S_m se) := ⟨x2_q2.cell rfl, x2_q2.cell rfl, x2_q2.cell rfl, x2_q2.cell rfl, yp_q2.cell rfl, yp_q2.cell rfl, yp_q2.cell rfl, yq_q2.cell rfl, yq_q2.cell rfl, ys_q2.cell rfl, ys_q2.cell rfl, ys_q2.cell rfl, ys_q2.cell rfl⟩
      refine hK.out _ _ (fun _ => hS) ?_
      clear hK K
      try simp only [Act.put, List.setIfInBounds_toArray, List.set_cons_zero, List.set_cons_succ, List.getElem_toArray, List.getElem_cons_zero, List.getElem_cons_succ]
      have Y_q2 := Lib.hid (hT.sl (F' := fun _ => True) (by decide) (fun _ _ _ => trivial) (fun _ _ _ => trivial))
      clear hT HB
      refine wpN_step (i := 10) (by kernel_rfl) rfl (fun K hK => ?_)
      go_simp
      refine (types_any Y_q2.out q2 (Keep.refl _ _) HsXZ.out).mono ?_
      rintro e q3 ⟨yy_a, yy_c, rfl, hT, hbx0⟩
      have hbx : Below q2.heap.size q2 q3 := hbx0
      clear hbx0
      have x0_q3 := x0_q2.below hbx
      have x2_q3 := x2_q2.below hbx
      have yp_q3 := yp_q2.below hbx
      have yq_q3 := yq_q2.below hbx
      have ys_q3 := ys_q2.below hbx
      have T_q3 := Lib.hid (T_q2.out.bel hbx)
      have C_q3 := Lib.hid (C_q2.out.bel hbx)
      have M_q3 := Lib.hid (M_q2.out.bel hbx)
      have X_q3 := Lib.hid (X_q2.out.bel hbx)
      have Z_q3 := Lib.hid (Z_q2.out.bel hbx)
      have VC_q3 := Lib.hid (VC_q2.out.bel hbx)
      have VM_q3 := Lib.hid (VM_q2.out.bel hbx)
      have c_q3 := Lib.hid (c_q2.out.bel hbx)
      have pp_q3 := Lib.hid (pp_q2.out.bel hbx)
      have S_q3 := Lib.hid (S_q2.out.bel hbx)
      have Y_q3 := Lib.hid (Y_q2.out.bel hbx)
      have B_q3 := B_q2.trans (hbx.mono B_q2.size)
      clear x0_q2 x2_q2 yp_q2 yq_q2 ys_q2 T_q2 C_q2 M_q2 X_q2 Z_q2 VC_q2 VM_q2 c_q2 pp_q2 S_q2 Y_q2 B_q2 hbx
      have hS : (q3).cell? ⟨w.heap.size + 1 + 1, 0, none⟩ = some (.slice t_pa t_n t_pc) ∧ (q3).cell? ⟨w.heap.size + 1 + 1, 1, none⟩ = some (.int .i64 t_k) ∧ (q3).cell? ⟨w.heap.size + 1 + 1, 2, none⟩ = some (.int .i64 t_i) ∧ (q3).cell? ⟨w.heap.size + 1 + 1, 3, none⟩ = some (.slice t_qa t_m t_qc) ∧ (q3).cell? ⟨p, 0, none⟩ = some (.int .i64 b) ∧ (q3).cell? ⟨p, 1, none⟩ = some (.slice V_ca C.length V_cc) ∧ (q3).cell? ⟨p, 2, none⟩ = some (.slice V_ma M.length V_mc) ∧ (q3).cell? ⟨q, 0, none⟩ = some (.slice pp_a z2.args.length pp_c) ∧ (q3).cell? ⟨q, 1, none⟩ = some (.int .i64 z2.base) ∧ (q3).cell? ⟨sp, 0, none⟩ = some (.slice sb S_n sc) ∧ (q3).cell? ⟨sp, 1, none⟩ = some (.int .i64 S_k) ∧ (q3).cell? ⟨sp, 2, none⟩ = some (.int .i64 S_i) ∧ (q3).cell? ⟨sp, 3, none⟩ = some (.slice sd S_m se) := ⟨x2_q3.cell rfl, x2_q3.cell rfl, x2_q3.cell rfl, x2_q3.cell rfl, yp_q3.cell rfl, yp_q3.cell rfl, yp_q3.cell rfl, yq_q3.cell rfl, yq_q3.cell rfl, ys_q3.cell rfl, ys_q3.cell rfl, ys_q3.cell rfl, ys_q3.cell rfl⟩
      refine hK.out _ _ (fun _ => hS) ?_
      clear hK K
      try simp only [Act.put, List.setIfInBounds_toArray, List.set_cons_zero, List.set_cons_succ, List.getElem_toArray, List.getElem_cons_zero, List.getElem_cons_succ]
      have YY_q3 := Lib.hid (hT.weaken (F' := fun _ => True) (by decide) fun _ _ _ => trivial)
      clear hT
      refine wpN_step (i := 13) (by kernel_rfl) rfl (fun K hK => ?_)
      go_simp
      refine (Check_kT VC_q3.out VM_q3.out YY_q3.out S_q3.out pp_q3.out (by have := HSf.out.2; have := Hf.out.1; have := Hyl.out; omega) HSf.out.1).mono ?_
      rintro e q4 ⟨cB, HcB, rfl, hbx0⟩
      have hbx : Below q3.heap.size q3 q4 := hbx0
      clear hbx0
      have x0_q4 := x0_q3.below hbx
      have x2_q4 := x2_q3.below hbx
      have yp_q4 := yp_q3.below hbx
      have yq_q4 := yq_q3.below hbx
      have ys_q4 := ys_q3.below hbx
      have T_q4 := Lib.hid (T_q3.out.bel hbx)
      have C_q4 := Lib.hid (C_q3.out.bel hbx)
      have M_q4 := Lib.hid (M_q3.out.bel hbx)
      have X_q4 := Lib.hid (X_q3.out.bel hbx)
      have Z_q4 := Lib.hid (Z_q3.out.bel hbx)
      have VC_q4 := Lib.hid (VC_q3.out.bel hbx)
      have VM_q4 := Lib.hid (VM_q3.out.bel hbx)
      have c_q4 := Lib.hid (c_q3.out.bel hbx)
      have pp_q4 := Lib.hid (pp_q3.out.bel hbx)
      have S_q4 := Lib.hid (S_q3.out.bel hbx)
      have Y_q4 := Lib.hid (Y_q3.out.bel hbx)
      have YY_q4 := Lib.hid (YY_q3.out.bel hbx)
      have B_q4 := B_q3.trans (hbx.mono B_q3.size)
      clear x0_q3 x2_q3 yp_q3 yq_q3 ys_q3 T_q3 C_q3 M_q3 X_q3 Z_q3 VC_q3 VM_q3 c_q3 pp_q3 S_q3 Y_q3 YY_q3 B_q3 hbx
      have hS : (q4).cell? ⟨w.heap.size + 1 + 1, 0, none⟩ = some (.slice t_pa t_n t_pc) ∧ (q4).cell? ⟨w.heap.size + 1 + 1, 1, none⟩ = some (.int .i64 t_k) ∧ (q4).cell? ⟨w.heap.size + 1 + 1, 2, none⟩ = some (.int .i64 t_i) ∧ (q4).cell? ⟨w.heap.size + 1 + 1, 3, none⟩ = some (.slice t_qa t_m t_qc) ∧ (q4).cell? ⟨p, 0, none⟩ = some (.int .i64 b) ∧ (q4).cell? ⟨p, 1, none⟩ = some (.slice V_ca C.length V_cc) ∧ (q4).cell? ⟨p, 2, none⟩ = some (.slice V_ma M.length V_mc) ∧ (q4).cell? ⟨q, 0, none⟩ = some (.slice pp_a z2.args.length pp_c) ∧ (q4).cell? ⟨q, 1, none⟩ = some (.int .i64 z2.base) ∧ (q4).cell? ⟨sp, 0, none⟩ = some (.slice sb S_n sc) ∧ (q4).cell? ⟨sp, 1, none⟩ = some (.int .i64 S_k) ∧ (q4).cell? ⟨sp, 2, none⟩ = some (.int .i64 S_i) ∧ (q4).cell? ⟨sp, 3, none⟩ = some (.slice sd S_m se) := ⟨x2_q4.cell rfl, x2_q4.cell rfl, x2_q4.cell rfl, x2_q4.cell rfl, yp_q4.cell rfl, yp_q4.cell rfl, yp_q4.cell rfl, yq_q4.cell rfl, yq_q4.cell rfl, ys_q4.cell rfl, ys_q4.cell rfl, ys_q4.cell rfl, ys_q4.cell rfl⟩
      refine hK.out _ _ (fun _ => hS) ?_
      clear hK K
      try simp only [Act.put, List.setIfInBounds_toArray, List.set_cons_zero, List.set_cons_succ, List.getElem_toArray, List.getElem_cons_zero, List.getElem_cons_succ]
      obtain rfl : cB = 0 := HL.out.2.1 cB HcB.out
      clear HcB
      refine wpN_take (i := 14) (v := ?v86) rfl (by kernel_rfl) (fun _ _ _ h => h) hS (Or.inl ⟨by rfl, ?hy86⟩) ?hr86
      case hy86 => (intro wS hSw; (try dsimp only at hSw); go_simp; (try with_reducible rfl))
      try simp only [Act.put, List.setIfInBounds_toArray, List.set_cons_zero, List.set_cons_succ, List.getElem_toArray, List.getElem_cons_zero, List.getElem_cons_succ]
      refine wpN_take (i := 15) (v := ?v87) rfl (by kernel_rfl) (fun _ _ _ h => h) hS (Or.inl ⟨by rfl, ?hy87⟩) ?hr87
      case hy87 => (intro wS hSw; (try dsimp only at hSw); go_simp; (try with_reducible rfl))
      try simp only [Act.put, List.setIfInBounds_toArray, List.set_cons_zero, List.set_cons_succ, List.getElem_toArray, List.getElem_cons_zero, List.getElem_cons_succ]
      refine wpN_take (i := 16) (v := ?v88) rfl (by kernel_rfl) (fun _ _ _ h => h) hS (Or.inl ⟨by rfl, ?hy88⟩) ?hr88
      case hy88 => (intro wS hSw; (try dsimp only at hSw); go_simp; (try with_reducible rfl))
      try simp only [Act.put, List.setIfInBounds_toArray, List.set_cons_zero, List.set_cons_succ, List.getElem_toArray, List.getElem_cons_zero, List.getElem_cons_succ]
      refine wpN_take (i := 17) (v := ?v89) rfl (by kernel_rfl) (fun _ _ _ h => h) hS (Or.inl ⟨by rfl, ?hy89⟩) ?hr89
      case hy89 => (intro wS hSw; (try dsimp only at hSw); go_simp; (try with_reducible rfl))
      try simp only [Act.put, List.setIfInBounds_toArray, List.set_cons_zero, List.set_cons_succ, List.getElem_toArray, List.getElem_cons_zero, List.getElem_cons_succ]
      refine wpN_take (i := 20) (v := ?v90) rfl (by kernel_rfl) (fun _ _ _ h => h) hS (Or.inl ⟨by rfl, ?hy90⟩) ?hr90
      case hy90 => (intro wS hSw; (try dsimp only at hSw); go_simp; (try with_reducible rfl))
      try simp only [Act.put, List.setIfInBounds_toArray, List.set_cons_zero, List.set_cons_succ, List.getElem_toArray, List.getElem_cons_zero, List.getElem_cons_succ]
      refine wpN_take (i := 21) (v := ?v91) rfl (by kernel_rfl) (fun _ _ _ h => h) hS (Or.inl ⟨by rfl, ?hy91⟩) ?hr91
      case hy91 => (intro wS hSw; (try dsimp only at hSw); go_simp; (try with_reducible rfl))
      try simp only [Act.put, List.setIfInBounds_toArray, List.set_cons_zero, List.set_cons_succ, List.getElem_toArray, List.getElem_cons_zero, List.getElem_cons_succ]
      refine wpN_step (i := 18) (by kernel_rfl) rfl (fun K hK => ?_)
      go_simp
      refine (to6_any T_q4.out q4 (by have := Hf.out.1; omega) (Keep.refl _ _)).mono ?_
      intro e q5 h
      obtain ⟨_, _, _, _, rfl, hT, hbx0⟩ := h
      have O_q5 := Lib.hid (hT.weaken (F' := fun _ => True) fun _ _ _ => trivial)
      clear hT
      obtain ⟨O_pa, O_pc, O_qa, O_qc, rfl, rfl, rfl, rfl⟩ := O_q5.out.shape
      rw [Et_n.out, Et_m.out, Et_k.out, Et_i.out] at O_q5 ⊢
      have hbx : Below q4.heap.size q4 q5 := hbx0
      clear hbx0
      have x0_q5 := x0_q4.below hbx
      have x2_q5 := x2_q4.below hbx
      have yp_q5 := yp_q4.below hbx
      have yq_q5 := yq_q4.below hbx
      have ys_q5 := ys_q4.below hbx
      have T_q5 := Lib.hid (T_q4.out.bel hbx)
      have C_q5 := Lib.hid (C_q4.out.bel hbx)
      have M_q5 := Lib.hid (M_q4.out.bel hbx)
      have X_q5 := Lib.hid (X_q4.out.bel hbx)
      have Z_q5 := Lib.hid (Z_q4.out.bel hbx)
      have VC_q5 := Lib.hid (VC_q4.out.bel hbx)
      have VM_q5 := Lib.hid (VM_q4.out.bel hbx)
      have c_q5 := Lib.hid (c_q4.out.bel hbx)
      have pp_q5 := Lib.hid (pp_q4.out.bel hbx)
      have S_q5 := Lib.hid (S_q4.out.bel hbx)
      have Y_q5 := Lib.hid (Y_q4.out.bel hbx)
      have YY_q5 := Lib.hid (YY_q4.out.bel hbx)
      have B_q5 := B_q4.trans (hbx.mono B_q4.size)
      clear x0_q4 x2_q4 yp_q4 yq_q4 ys_q4 T_q4 C_q4 M_q4 X_q4 Z_q4 VC_q4 VM_q4 c_q4 pp_q4 S_q4 Y_q4 YY_q4 B_q4 hbx
      have hS : (q5).cell? ⟨w.heap.size + 1 + 1, 0, none⟩ = some (.slice t_pa t_n t_pc) ∧ (q5).cell? ⟨w.heap.size + 1 + 1, 1, none⟩ = some (.int .i64 t_k) ∧ (q5).cell? ⟨w.heap.size + 1 + 1, 2, none⟩ = some (.int .i64 t_i) ∧ (q5).cell? ⟨w.heap.size + 1 + 1, 3, none⟩ = some (.slice t_qa t_m t_qc) ∧ (q5).cell? ⟨p, 0, none⟩ = some (.int .i64 b) ∧ (q5).cell? ⟨p, 1, none⟩ = some (.slice V_ca C.length V_cc) ∧ (q5).cell? ⟨p, 2, none⟩ = some (.slice V_ma M.length V_mc) ∧ (q5).cell? ⟨q, 0, none⟩ = some (.slice pp_a z2.args.length pp_c) ∧ (q5).cell? ⟨q, 1, none⟩ = some (.int .i64 z2.base) ∧ (q5).cell? ⟨sp, 0, none⟩ = some (.slice sb S_n sc) ∧ (q5).cell? ⟨sp, 1, none⟩ = some (.int .i64 S_k) ∧ (q5).cell? ⟨sp, 2, none⟩ = some (.int .i64 S_i) ∧ (q5).cell? ⟨sp, 3, none⟩ = some (.slice sd S_m se) := ⟨x2_q5.cell rfl, x2_q5.cell rfl, x2_q5.cell rfl, x2_q5.cell rfl, yp_q5.cell rfl, yp_q5.cell rfl, yp_q5.cell rfl, yq_q5.cell rfl, yq_q5.cell rfl, ys_q5.cell rfl, ys_q5.cell rfl, ys_q5.cell rfl, ys_q5.cell rfl⟩
      refine hK.out _ _ (fun _ => hS) ?_
      clear hK K
      try simp only [Act.put, List.setIfInBounds_toArray, List.set_cons_zero, List.set_cons_succ, List.getElem_toArray, List.getElem_cons_zero, List.getElem_cons_succ]
      have Hlo := Lib.hid (loose6_k O_q5.out (by have := Hf.out.1; omega) Hfit.out)
      rw [HlL.out] at Hlo
      refine wpN_step (i := 19) (by kernel_rfl) rfl (fun K hK => ?_)
      go_simp
      refine (Hlo.out).mono ?_
      rintro e q6 ⟨rfl, hbx0⟩
      have hbx : Below q5.heap.size q5 q6 := hbx0
      clear hbx0
      have x0_q6 := x0_q5.below hbx
      have x2_q6 := x2_q5.below hbx
      have yp_q6 := yp_q5.below hbx
      have yq_q6 := yq_q5.below hbx
      have ys_q6 := ys_q5.below hbx
      have T_q6 := Lib.hid (T_q5.out.bel hbx)
      have C_q6 := Lib.hid (C_q5.out.bel hbx)
      have M_q6 := Lib.hid (M_q5.out.bel hbx)
      have X_q6 := Lib.hid (X_q5.out.bel hbx)
      have Z_q6 := Lib.hid (Z_q5.out.bel hbx)
      have VC_q6 := Lib.hid (VC_q5.out.bel hbx)
      have VM_q6 := Lib.hid (VM_q5.out.bel hbx)
      have c_q6 := Lib.hid (c_q5.out.bel hbx)
      have pp_q6 := Lib.hid (pp_q5.out.bel hbx)
      have S_q6 := Lib.hid (S_q5.out.bel hbx)
      have Y_q6 := Lib.hid (Y_q5.out.bel hbx)
      have YY_q6 := Lib.hid (YY_q5.out.bel hbx)
      have O_q6 := Lib.hid (O_q5.out.bel hbx)
      have B_q6 := B_q5.trans (hbx.mono B_q5.size)
      clear x0_q5 x2_q5 yp_q5 yq_q5 ys_q5 T_q5 C_q5 M_q5 X_q5 Z_q5 VC_q5 VM_q5 c_q5 pp_q5 S_q5 Y_q5 YY_q5 O_q5 B_q5 hbx
      have hS : (q6).cell? ⟨w.heap.size + 1 + 1, 0, none⟩ = some (.slice t_pa t_n t_pc) ∧ (q6).cell? ⟨w.heap.size + 1 + 1, 1, none⟩ = some (.int .i64 t_k) ∧ (q6).cell? ⟨w.heap.size + 1 + 1, 2, none⟩ = some (.int .i64 t_i) ∧ (q6).cell? ⟨w.heap.size + 1 + 1, 3, none⟩ = some (.slice t_qa t_m t_qc) ∧ (q6).cell? ⟨p, 0, none⟩ = some (.int .i64 b) ∧ (q6).cell? ⟨p, 1, none⟩ = some (.slice V_ca C.length V_cc) ∧ (q6).cell? ⟨p, 2, none⟩ = some (.slice V_ma M.length V_mc) ∧ (q6).cell? ⟨q, 0, none⟩ = some (.slice pp_a z2.args.length pp_c) ∧ (q6).cell? ⟨q, 1, none⟩ = some (.int .i64 z2.base) ∧ (q6).cell? ⟨sp, 0, none⟩ = some (.slice sb S_n sc) ∧ (q6).cell? ⟨sp, 1, none⟩ = some (.int .i64 S_k) ∧ (q6).cell? ⟨sp, 2, none⟩ = some (.int .i64 S_i) ∧ (q6).cell? ⟨sp, 3, none⟩ = some (.slice sd S_m se) := ⟨x2_q6.cell rfl, x2_q6.cell rfl, x2_q6.cell rfl, x2_q6.cell rfl, yp_q6.cell rfl, yp_q6.cell rfl, yp_q6.cell rfl, yq_q6.cell rfl, yq_q6.cell rfl, ys_q6.cell rfl, ys_q6.cell rfl, ys_q6.cell rfl, ys_q6.cell rfl⟩
      refine hK.out _ _ (fun _ => hS) ?_
      clear hK K
      try simp only [Act.put, List.setIfInBounds_toArray, List.set_cons_zero, List.set_cons_succ, List.getElem_toArray, List.getElem_cons_zero, List.getElem_cons_succ]
      clear Hlo
      refine wpN_take (i := 22) (v := ?v92) rfl (by kernel_rfl) (fun _ _ _ h => h) hS (Or.inl ⟨by rfl, ?hy92⟩) ?hr92
      case hy92 => (intro wS hSw; (try dsimp only at hSw); go_simp; (try with_reducible rfl))
      try simp only [Act.put, List.setIfInBounds_toArray, List.set_cons_zero, List.set_cons_succ, List.getElem_toArray, List.getElem_cons_zero, List.getElem_cons_succ]
      refine wpN_take (i := 23) (v := ?v93) rfl (by kernel_rfl) (fun _ _ _ h => h) hS (Or.inl ⟨by rfl, ?hy93⟩) ?hr93
      case hy93 => (intro wS hSw; (try dsimp only at hSw); go_simp; (try with_reducible rfl))
      try simp only [Act.put, List.setIfInBounds_toArray, List.set_cons_zero, List.set_cons_succ, List.getElem_toArray, List.getElem_cons_zero, List.getElem_cons_succ]
      refine wpN_step (i := 24) (by kernel_rfl) rfl (fun K hK => ?_)
      go_simp
      refine hK.out _ _ (fun h => absurd h (by decide)) ?_
      clear hK K
      try simp only [Act.put, List.setIfInBounds_toArray, List.set_cons_zero, List.set_cons_succ, List.getElem_toArray, List.getElem_cons_zero, List.getElem_cons_succ]
      refine wpN_done (by kernel_rfl) ?_
      refine NoPanic.normal ?_
      go_wp2_with fail
      go_ret
      exact ⟨rfl, B_q6⟩
end Go.Proofs.Ytejpgifofkiofaa

