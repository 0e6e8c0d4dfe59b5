/-
  term.HeadType, term.TypeOf.
-/
import Derived.Test.YtejpgifofkiofaaRowWell6p21
set_option linter.unusedVariables false
set_option linter.unusedSimpArgs false
namespace Go.Proofs.Ytejpgifofkiofaa
open Go.RowKit

def TyPostE (F : Nat → Prop) (o : Option Ty) (w : World) (e : Ending) (w' : World) : Prop := ∃ s b, e = .returned (.tuple #[.agg #[s, b], .int .i64 (if o.isSome then 0 else 10)]) ∧ IsTy F w' s b (o.getD tyZ) ∧ Below w.heap.size w w'

theorem IsTy.trueb {F : Nat → Prop} {w : World} {s b : Value} {t : Ty} (h : IsTy F w s b t) : IsTy (fun _ => True) w s b t := h.weaken fun _ _ _ => trivial
theorem IsTy.set2 {w : World} {s b u v : Value} {t : Ty} {p : Nat} (h : IsTy (fun q => q ≠ p) w s b t) : IsTy (fun _ => True) ((w.setCell ⟨p, 0, none⟩ u).setCell ⟨p, 1, none⟩ v) s b t :=
  (h.keep (((Keep.refl _ _).setCell _ _ (by simp)).setCell _ _ (by simp))).trueb

set_option maxRecDepth 100000 in
set_option maxHeartbeats 4000000 in
theorem HeadType_k {F : Nat → Prop} {w : World} {b : Int} {cv mv xv : Value} {C M X : List Ty} (hF : ∀ q, F q → q < w.heap.size) (hc : IsSl rpTy F w cv C) (hm : IsSl rpTy F w mv M) (hx : IsSl2 rpTy (fun _ => True) F w xv X) (k i : Int) (hi : i ≤ 9223372036854775807)
    (hsz : ∀ t, headTy C M X k i = some t → t.size ≤ 90000) :
    Calls Try.prog 59 #[.agg #[.int .i64 b, cv, mv], xv, .agg #[.int .i64 k, .int .i64 i]] w (TyPostE (fun q => w.heap.size ≤ q) (headTy C M X k i) w) := by
  have Hcall := Lib.hid fun (w' : World) (hb : Below w.heap.size w w') => headType_k (b := b) (fun q h => Nat.lt_of_lt_of_le (hF q h) hb.size) (hc.bel hb) (hm.bel hb) (hx.bel hb) k i hi
  obtain ⟨ca, cc, rfl⟩ := hc.shape
  obtain ⟨ma, mc, rfl⟩ := hm.shape
  obtain ⟨xa, xc, rfl⟩ := hx.shape
  clear hc hm hx
  obtain ⟨o, ho⟩ : ∃ o, headTy C M X k i = o := ⟨_, rfl⟩
  rw [ho] at Hcall hsz ⊢
  have Hsz := Lib.hid hsz
  clear ho hsz
  go_enter Try.func59, Try.ntmps59
  go_wp2_with fail
  obtain ⟨w3, hw3⟩ : ∃ w3, ((w.alloc (.cells #[.int .i64 b, .slice ca C.length cc, .slice ma M.length mc] 90)).alloc (.cells #[.int .i64 k, .int .i64 i] 34)).alloc (.cells #[.slice none 0 0, .int .i64 0] 40) = w3 := ⟨_, rfl⟩
  have B_w3 : Below w.heap.size w w3 := by rw [← hw3]; exact (((Below.refl _ _).alloc (Nat.le_refl _) _).alloc (by simp) _).alloc (by simp; omega) _
  have x2_w3 : Blk w3 (w.heap.size + 1 + 1) #[.slice none 0 0, .int .i64 0] 40 := by rw [← hw3]; exact Blk.new _ _ _ (by simp)
  rw [hw3]
  clear hw3
  refine (Hcall.out w3 B_w3).mono ?_
  rintro e w4 ⟨s, b', rfl, hT, hbx0⟩
  have hbx : Below w3.heap.size w3 w4 := hbx0
  clear hbx0
  have x2_w4 := x2_w3.below hbx
  have B_w4 := B_w3.trans (hbx.mono B_w3.size)
  clear x2_w3 B_w3 hbx
  obtain ⟨sa, sc, rfl, rfl⟩ := hT.shape
  cases hs : o.isSome
  · have ho : o = none := by simpa using hs
    subst ho
    simp only [Option.getD_none, tyZ, Ty.args, Ty.base, List.length_nil] at hT ⊢
    clear hT
    have cx20 : w4.cell? ⟨w.heap.size + 1 + 1, 0, none⟩ = some (.slice none 0 0) := x2_w4.cell rfl
    have cx21 : w4.cell? ⟨w.heap.size + 1 + 1, 1, none⟩ = some (.int .i64 0) := x2_w4.cell rfl
    have lx2 := x2_w4.lt
    have f0 := x2_w4.free 0
    have f1 := x2_w4.free 1
    go_wp2_with fail
    have y0 := ((((x2_w4).set 0 (.slice none 0 0)).set 1 (.int .i64 0)).alloc (.cells #[.slice sa 0 sc, .int .i64 0] 40)).cell (i := 0) (v := .slice none 0 0) rfl
    have y1 := ((((x2_w4).set 0 (.slice none 0 0)).set 1 (.int .i64 0)).alloc (.cells #[.slice sa 0 sc, .int .i64 0] 40)).cell (i := 1) (v := .int .i64 0) rfl
    have z0_0 := ((x2_w4).set 0 (.slice none 0 0)).cell (i := 0) (v := .slice none 0 0) rfl
    have z0_1 := (((x2_w4).set 0 (.slice none 0 0)).set 1 (.int .i64 0)).cell (i := 0) (v := .slice none 0 0) rfl
    have z1_1 := (((x2_w4).set 0 (.slice none 0 0)).set 1 (.int .i64 0)).cell (i := 1) (v := .int .i64 0) rfl
    refine bodyPost_ret (v := .tuple #[.agg #[.slice none 0 0, .int .i64 0], .int .i64 10]) (by simp [results, Try.results59, go_sem, y0, y1, z0_0, z0_1, z1_1]) rfl ?_
    clear y0 y1 z0_0 z0_1 z1_1
    exact ⟨_, _, rfl, isTy_zero _ _, ((B_w4.setCell (by simp; omega) _).setCell (by simp; omega) _).alloc (by have := B_w4.size; simp; omega) _⟩
  · obtain ⟨t, rfl⟩ := Option.isSome_iff_exists.1 hs
    have hz := Hsz.out t rfl
    simp only [Option.getD_some] at hT ⊢
    obtain ⟨n, hn⟩ : ∃ n, t.args.length = n := ⟨_, rfl⟩
    obtain ⟨d, hd⟩ : ∃ d, t.base = d := ⟨_, rfl⟩
    rw [hn, hd] at hT ⊢
    have T_w4 := Lib.hid hT
    clear hT
    have lx := x2_w4.lt
    go_wp2_with fail
    obtain ⟨w5, hw5⟩ : ∃ w5, w4.alloc (.cells #[.slice sa n sc, .int .i64 d] 40) = w5 := ⟨_, rfl⟩
    have hbx : Below w4.heap.size w4 w5 := by rw [← hw5]; exact (Below.refl _ _).alloc (Nat.le_refl _) _
    try rw [hw5]
    clear hw5
    have hs5 := hbx.size
    have hs4 : w.heap.size + 3 ≤ w4.heap.size := lx
    have x2_w5 := x2_w4.below hbx
    have T_w5 := Lib.hid (T_w4.out.bel hbx)
    have B_w5 := B_w4.trans (hbx.mono B_w4.size)
    clear x2_w4 T_w4 B_w4 hbx
    refine (arrow_k T_w5.out (isSl_nil rpTy F _) (by simp [Ty.sizes]; omega)).mono ?_
    rintro e w6 ⟨s6, b6, rfl, hT, hbx0⟩
    have hbx : Below w5.heap.size w5 w6 := hbx0
    clear hbx0
    have x2_w6 := x2_w5.below hbx
    have T_w6 := Lib.hid (T_w5.out.bel hbx)
    have B_w6 := B_w5.trans (hbx.mono B_w5.size)
    clear x2_w5 T_w5 B_w5 hbx
    have ht : Ty.mk ([] ++ t.args) t.base = t := by cases t; rfl
    rw [ht] at hT
    clear ht
    obtain ⟨a6, c6, rfl, rfl⟩ := hT.shape
    rw [hn, hd] at hT ⊢
    have hs6 := B_w6.size
    have T6 := Lib.hid (hT.weaken (F' := fun q => w.heap.size + 3 ≤ q) fun q _ h => by omega)
    clear hT
    have cx20 : w6.cell? ⟨w.heap.size + 1 + 1, 0, none⟩ = some (.slice none 0 0) := x2_w6.cell rfl
    have cx21 : w6.cell? ⟨w.heap.size + 1 + 1, 1, none⟩ = some (.int .i64 0) := x2_w6.cell rfl
    have lx2 := x2_w6.lt
    have f0 := x2_w6.free 0
    have f1 := x2_w6.free 1
    go_wp2_with fail
    have z0_0 := ((x2_w6).set 0 (.slice a6 n c6)).cell (i := 0) (v := .slice a6 n c6) rfl
    have z0_1 := (((x2_w6).set 0 (.slice a6 n c6)).set 1 (.int .i64 d)).cell (i := 0) (v := .slice a6 n c6) rfl
    have z1_1 := (((x2_w6).set 0 (.slice a6 n c6)).set 1 (.int .i64 d)).cell (i := 1) (v := .int .i64 d) rfl
    refine bodyPost_ret (v := .tuple #[.agg #[.slice a6 n c6, .int .i64 d], .int .i64 0]) (by simp [results, Try.results59, go_sem, z0_0, z0_1, z1_1]) rfl ?_
    clear z0_0 z0_1 z1_1
    exact ⟨_, _, rfl, (T6.out.keep (((Keep.refl _ _).setCell _ _ (by simp)).setCell _ _ (by simp))).weaken fun q _ h => by omega, (B_w6.setCell (by simp; omega) _).setCell (by simp; omega) _⟩

set_option maxRecDepth 100000 in
set_option maxHeartbeats 4000000 in
theorem TypeOf_k {F : Nat → Prop} {w : World} {b : Int} {cv mv xv tb tk ti ta : Value} {C M X : List Ty} {t : Tm} (hF : ∀ q, F q → q < w.heap.size) (hc : IsSl rpTy F w cv C) (hm : IsSl rpTy F w mv M) (hx : IsSl2 rpTy (fun _ => True) F w xv X) (ht : IsTm F w tb tk ti ta t) (hi : t.index ≤ 9223372036854775807)
    (hl : X.length ≤ 50000) (hz : t.full ≤ 40000) :
    Calls Try.prog 61 #[.agg #[.int .i64 b, cv, mv], xv, .agg #[tb, tk, ti, ta]] w (TyPostE (fun q => w.heap.size ≤ q) ((headTy C M (X ++ t.binds) t.kind t.index).map fun h => .mk t.binds h.base) w) := by
  obtain ⟨ca, cc, rfl⟩ := hc.shape
  obtain ⟨ma, mc, rfl⟩ := hm.shape
  obtain ⟨xa, xc, rfl⟩ := hx.shape
  have Hc := Lib.hid hc; have Hm := Lib.hid hm; have Hx := Lib.hid hx; have hF := Lib.hid hF
  clear hc hm hx
  obtain ⟨_, _, hbi, _⟩ := ht.inv
  have hbz : Ty.sizes t.binds ≤ 40000 := by cases t; rw [Tm.full_eq] at hz; simp only [Tm.binds]; omega
  obtain ⟨t_pa, t_pc, t_qa, t_qc, rfl, rfl, rfl, rfl⟩ := ht.shape
  obtain ⟨t_n, ht_n⟩ : ∃ x, t.binds.length = x := ⟨_, rfl⟩
  obtain ⟨t_m, ht_m⟩ : ∃ x, t.args.length = x := ⟨_, rfl⟩
  obtain ⟨t_k, ht_k⟩ : ∃ x, t.kind = x := ⟨_, rfl⟩
  obtain ⟨t_i, ht_i⟩ : ∃ x, t.index = x := ⟨_, rfl⟩
  rw [ht_n, ht_m, ht_k, ht_i] at ht ⊢
  have Et_n := Lib.hid ht_n
  have Et_m := Lib.hid ht_m
  have Et_k := Lib.hid ht_k
  have Et_i := Lib.hid ht_i
  clear ht_n ht_m ht_k ht_i
  have Hbi := Lib.hid hbi
  have hlb : X.length + t.binds.length ≤ 100000 := by have := Ty.le_sizes t.binds; omega
  have Hlb := Lib.hid hlb; have Hbz := Lib.hid hbz
  clear hbi hz hbz ht hlb
  have hi : t_i ≤ 9223372036854775807 := by rw [← Et_i.out]; exact hi
  obtain ⟨o, ho⟩ : ∃ o, headTy C M (X ++ t.binds) t_k t_i = o := ⟨_, rfl⟩
  have Ho := Lib.hid ho
  rw [ho]
  clear ho
  rw [← Et_n.out]
  obtain ⟨Y, hY⟩ : ∃ Y, X ++ t.binds = Y := ⟨_, rfl⟩
  have Hw := Lib.hid fun (w' : World) (hb : Below w.heap.size w w') => within_k (Hx.out.bel hb) (IsSl2.of (Hbi.out.bel hb)) Hlb.out
  rw [hY] at Ho Hw
  clear hY
  have Hh := Lib.hid fun (w' : World) (yv : Value) (hb : Below w.heap.size w w') (hy : IsSl2 rpTy (fun _ => True) F w' yv Y) => headType_k (b := b) (fun q hq => Nat.lt_of_lt_of_le (hF.out q hq) hb.size) (Hc.out.bel hb) (Hm.out.bel hb) hy t_k t_i hi
  rw [Ho.out] at Hh
  go_enter Try.func61, Try.ntmps61
  go_wp2_with fail
  obtain ⟨w3, hw3⟩ : ∃ w3, ((w.alloc (.cells #[.int .i64 b, .slice ca C.length cc, .slice ma M.length mc] 90)).alloc (.cells #[.slice t_pa t.binds.length t_pc, .int .i64 t_k, .int .i64 t_i, .slice t_qa t_m t_qc] 37)).alloc (.cells #[.slice none 0 0, .int .i64 0] 40) = w3 := ⟨_, rfl⟩
  have B_w3 : Below w.heap.size w w3 := by rw [← hw3]; exact (((Below.refl _ _).alloc (Nat.le_refl _) _).alloc (by simp) _).alloc (by simp; omega) _
  have x0_w3 : Blk w3 w.heap.size #[.int .i64 b, .slice ca C.length cc, .slice ma M.length mc] 90 := by rw [← hw3]; exact ((Blk.new _ _ _ rfl).alloc _).alloc _
  have x1_w3 : Blk w3 (w.heap.size + 1) #[.slice t_pa t.binds.length t_pc, .int .i64 t_k, .int .i64 t_i, .slice t_qa t_m t_qc] 37 := by rw [← hw3]; exact (Blk.new _ _ _ (by simp)).alloc _
  have x2_w3 : Blk w3 (w.heap.size + 1 + 1) #[.slice none 0 0, .int .i64 0] 40 := by rw [← hw3]; exact Blk.new _ _ _ (by simp)
  rw [hw3]
  clear hw3
  have hs3 : w.heap.size + 3 ≤ w3.heap.size := x2_w3.lt
  refine wp_region_noPanic (wp_region_need (S := fun w' => w'.cell? ⟨w.heap.size, 0, none⟩ = some (.int .i64 b) ∧ w'.cell? ⟨w.heap.size, 1, none⟩ = some (.slice ca C.length cc) ∧ w'.cell? ⟨w.heap.size, 2, none⟩ = some (.slice ma M.length mc) ∧ w'.cell? ⟨w.heap.size + 1, 0, none⟩ = some (.slice t_pa t.binds.length t_pc) ∧ w'.cell? ⟨w.heap.size + 1, 1, none⟩ = some (.int .i64 t_k) ∧ w'.cell? ⟨w.heap.size + 1, 2, none⟩ = some (.int .i64 t_i) ∧ w'.cell? ⟨w.heap.size + 1, 3, none⟩ = some (.slice t_qa t_m t_qc) ∧ w'.cell? ⟨w.heap.size + 1 + 1, 0, none⟩ = some (.slice none 0 0) ∧ w'.cell? ⟨w.heap.size + 1 + 1, 1, none⟩ = some (.int .i64 0)) (by kernel_rfl) ?_)
  have hS : (w3.drew).cell? ⟨w.heap.size, 0, none⟩ = some (.int .i64 b) ∧ (w3.drew).cell? ⟨w.heap.size, 1, none⟩ = some (.slice ca C.length cc) ∧ (w3.drew).cell? ⟨w.heap.size, 2, none⟩ = some (.slice ma M.length mc) ∧ (w3.drew).cell? ⟨w.heap.size + 1, 0, none⟩ = some (.slice t_pa t.binds.length t_pc) ∧ (w3.drew).cell? ⟨w.heap.size + 1, 1, none⟩ = some (.int .i64 t_k) ∧ (w3.drew).cell? ⟨w.heap.size + 1, 2, none⟩ = some (.int .i64 t_i) ∧ (w3.drew).cell? ⟨w.heap.size + 1, 3, none⟩ = some (.slice t_qa t_m t_qc) ∧ (w3.drew).cell? ⟨w.heap.size + 1 + 1, 0, none⟩ = some (.slice none 0 0) ∧ (w3.drew).cell? ⟨w.heap.size + 1 + 1, 1, none⟩ = some (.int .i64 0) := ⟨x0_w3.drew.cell rfl, x0_w3.drew.cell rfl, x0_w3.drew.cell rfl, x1_w3.drew.cell rfl, x1_w3.drew.cell rfl, x1_w3.drew.cell rfl, x1_w3.drew.cell rfl, x2_w3.drew.cell rfl, x2_w3.drew.cell rfl⟩
  refine wpN_take (i := 0) (v := ?v1) rfl (by kernel_rfl) (fun _ _ _ h => h) hS (Or.inl ⟨by rfl, ?hy1⟩) ?hr1
  case hy1 => (intro wS hSw; (try dsimp only at hSw); go_simp; (try with_reducible rfl))
  try simp only [Act.put, List.setIfInBounds_toArray, List.set_cons_zero, List.set_cons_succ, List.getElem_toArray, List.getElem_cons_zero, List.getElem_cons_succ]
  refine wpN_take (i := 1) (v := ?v2) rfl (by kernel_rfl) (fun _ _ _ h => h) hS (Or.inl ⟨by rfl, ?hy2⟩) ?hr2
  case hy2 => (intro wS hSw; (try dsimp only at hSw); go_simp; (try with_reducible rfl))
  try simp only [Act.put, List.setIfInBounds_toArray, List.set_cons_zero, List.set_cons_succ, List.getElem_toArray, List.getElem_cons_zero, List.getElem_cons_succ]
  refine wpN_take (i := 2) (v := ?v3) rfl (by kernel_rfl) (fun _ _ _ h => h) hS (Or.inl ⟨by rfl, ?hy3⟩) ?hr3
  case hy3 => (intro wS hSw; (try dsimp only at hSw); go_simp; (try with_reducible rfl))
  try simp only [Act.put, List.setIfInBounds_toArray, List.set_cons_zero, List.set_cons_succ, List.getElem_toArray, List.getElem_cons_zero, List.getElem_cons_succ]
  refine wpN_take (i := 3) (v := ?v4) rfl (by kernel_rfl) (fun _ _ _ h => h) hS (Or.inl ⟨by rfl, ?hy4⟩) ?hr4
  case hy4 => (intro wS hSw; (try dsimp only at hSw); go_simp; (try with_reducible rfl))
  try simp only [Act.put, List.setIfInBounds_toArray, List.set_cons_zero, List.set_cons_succ, List.getElem_toArray, List.getElem_cons_zero, List.getElem_cons_succ]
  refine wpN_take (i := 5) (v := ?v5) rfl (by kernel_rfl) (fun _ _ _ h => h) hS (Or.inl ⟨by rfl, ?hy5⟩) ?hr5
  case hy5 => (intro wS hSw; (try dsimp only at hSw); go_simp; (try with_reducible rfl))
  try simp only [Act.put, List.setIfInBounds_toArray, List.set_cons_zero, List.set_cons_succ, List.getElem_toArray, List.getElem_cons_zero, List.getElem_cons_succ]
  refine wpN_take (i := 6) (v := ?v6) rfl (by kernel_rfl) (fun _ _ _ h => h) hS (Or.inl ⟨by rfl, ?hy6⟩) ?hr6
  case hy6 => (intro wS hSw; (try dsimp only at hSw); go_simp; (try with_reducible rfl))
  try simp only [Act.put, List.setIfInBounds_toArray, List.set_cons_zero, List.set_cons_succ, List.getElem_toArray, List.getElem_cons_zero, List.getElem_cons_succ]
  refine wpN_gathersQ [(4, 15), (7, 18), (11, 8), (8, 10), (9, 19), (10, 20)] [8, 9, 10] 2 (PhiL [(4, phiSl2 rpTy F Y), (7, phiHead F o), (11, phiBlk #[.slice none 0 0, .int .i64 0] 40), (8, phiHead F o), (9, phiTyF F (o.getD tyZ)), (10, phiV (.bool o.isSome))]) rfl rfl (by kernel_rfl) phiL_below hS ?gop (by kernel_rfl) (fun _ _ _ _ h => h) ?gpu ?gend
  case gop =>
    intro xG hx uG w' hdG hB' hS'
    obtain ⟨q1, q2, q3, q4, q5, q6, q7, q8, q9⟩ := hS'
    have hbw : Below w3.heap.size w3 w' := (Below.refl _ _).drew.trans hB'
    simp only [List.mem_cons, List.not_mem_nil, or_false] at hx
    rcases hx with rfl | rfl | rfl | rfl | rfl | rfl
    · skip
      clear hdG
      refine wpOp_step (i := 4) rfl (fun K hK => ?_)
      have hK := Lib.hid hK
      simp only [fills, List.foldl, Act.put, List.setIfInBounds_toArray, List.set_cons_zero, List.set_cons_succ, List.getElem_toArray, List.getElem_cons_zero, List.getElem_cons_succ]
      go_simp
      refine (Hw.out _ (B_w3.trans (hbw.mono B_w3.size))).mono ?_
      intro e w6 h
      obtain ⟨_, _, rfl, hT, hb6⟩ := h
      have hKp : Keep (fun _ => True) w' w6 := (Keep.refl _ _).below hb6
      exact hK.out _ _ ⟨_, rfl, phiL_mk rfl ⟨_, _, rfl, hT.weaken (by decide) (fun _ h1 h2 => ⟨h2, h1⟩) fun _ _ h => h⟩, hb6, hKp _ _ _ trivial q1, hKp _ _ _ trivial q2, hKp _ _ _ trivial q3, hKp _ _ _ trivial q4, hKp _ _ _ trivial q5, hKp _ _ _ trivial q6, hKp _ _ _ trivial q7, hKp _ _ _ trivial q8, hKp _ _ _ trivial q9⟩
    · skip
      obtain ⟨x4, y4, g4⟩ := hdG 4 (by simp) (by kernel_rfl)
      obtain ⟨m4_a, m4_c, e4, V4⟩ := phiL_at rfl g4
      obtain ⟨uH4, rfl⟩ := upd_self e4
      clear hdG
      refine wpOp_step (i := 7) rfl (fun K hK => ?_)
      have hK := Lib.hid hK
      simp only [fills, List.foldl, Act.put, List.setIfInBounds_toArray, List.set_cons_zero, List.set_cons_succ, List.getElem_toArray, List.getElem_cons_zero, List.getElem_cons_succ]
      simp only [e4]
      go_simp
      refine (Hh.out _ _ (B_w3.trans (hbw.mono B_w3.size)) (V4.anyRow (by decide))).mono ?_
      intro e w6 h
      obtain ⟨_, _, rfl, hT, hb6⟩ := h
      have hKp : Keep (fun _ => True) w' w6 := (Keep.refl _ _).below hb6
      exact hK.out _ _ ⟨_, rfl, phiL_mk rfl ⟨_, _, rfl, hT⟩, hb6, hKp _ _ _ trivial q1, hKp _ _ _ trivial q2, hKp _ _ _ trivial q3, hKp _ _ _ trivial q4, hKp _ _ _ trivial q5, hKp _ _ _ trivial q6, hKp _ _ _ trivial q7, hKp _ _ _ trivial q8, hKp _ _ _ trivial q9⟩
    · skip
      clear hdG
      refine wpOp_step (i := 11) rfl (fun K hK => ?_)
      have hK := Lib.hid hK
      simp only [fills, List.foldl, Act.put, List.setIfInBounds_toArray, List.set_cons_zero, List.set_cons_succ, List.getElem_toArray, List.getElem_cons_zero, List.getElem_cons_succ]
      go_simp
      have hb6 : Below w'.heap.size w' (w'.alloc (.cells #[.slice none 0 0, .int .i64 0] 40)) := (Below.refl _ _).alloc (Nat.le_refl _) _
      have hKp : Keep (fun _ => True) w' (w'.alloc (.cells #[.slice none 0 0, .int .i64 0] 40)) := (Keep.refl _ _).below hb6
      exact hK.out _ _ ⟨_, rfl, phiL_mk rfl ⟨rfl, by simp, Blk.new _ _ _ rfl⟩, hb6, hKp _ _ _ trivial q1, hKp _ _ _ trivial q2, hKp _ _ _ trivial q3, hKp _ _ _ trivial q4, hKp _ _ _ trivial q5, hKp _ _ _ trivial q6, hKp _ _ _ trivial q7, hKp _ _ _ trivial q8, hKp _ _ _ trivial q9⟩
    · skip
      obtain ⟨x7, y7, g7⟩ := hdG 7 (by simp) (by kernel_rfl)
      obtain ⟨_, _, e7, V7⟩ := phiL_at rfl g7
      obtain ⟨m7_a, m7_c, rfl, rfl⟩ := V7.shape
      obtain ⟨uH7, rfl⟩ := upd_self e7
      clear hdG
      refine wpOp_step (i := 8) rfl (fun K hK => ?_)
      have hK := Lib.hid hK
      simp only [fills, List.foldl, Act.put, List.setIfInBounds_toArray, List.set_cons_zero, List.set_cons_succ, List.getElem_toArray, List.getElem_cons_zero, List.getElem_cons_succ]
      simp only [e7]
      go_simp
      have hb6 : Below w'.heap.size w' w' := Below.refl _ _
      exact hK.out _ _ ⟨_, rfl, phiL_mk rfl ⟨_, _, rfl, V7⟩, hb6, q1, q2, q3, q4, q5, q6, q7, q8, q9⟩
    · skip
      obtain ⟨x8, y8, g8⟩ := hdG 8 (by simp) (by kernel_rfl)
      obtain ⟨_, _, e8, V8⟩ := phiL_at rfl g8
      obtain ⟨m8_a, m8_c, rfl, rfl⟩ := V8.shape
      obtain ⟨uH8, rfl⟩ := upd_self e8
      clear hdG
      refine wpOp_step (i := 9) rfl (fun K hK => ?_)
      have hK := Lib.hid hK
      simp only [fills, List.foldl, Act.put, List.setIfInBounds_toArray, List.set_cons_zero, List.set_cons_succ, List.getElem_toArray, List.getElem_cons_zero, List.getElem_cons_succ]
      simp only [e8]
      go_simp
      have hb6 : Below w'.heap.size w' w' := Below.refl _ _
      exact hK.out _ _ ⟨_, rfl, phiL_mk rfl ⟨_, _, rfl, V8⟩, hb6, q1, q2, q3, q4, q5, q6, q7, q8, q9⟩
    · skip
      obtain ⟨x8, y8, g8⟩ := hdG 8 (by simp) (by kernel_rfl)
      obtain ⟨_, _, e8, V8⟩ := phiL_at rfl g8
      obtain ⟨m8_a, m8_c, rfl, rfl⟩ := V8.shape
      obtain ⟨uH8, rfl⟩ := upd_self e8
      clear hdG
      refine wpOp_step (i := 10) rfl (fun K hK => ?_)
      have hK := Lib.hid hK
      simp only [fills, List.foldl, Act.put, List.setIfInBounds_toArray, List.set_cons_zero, List.set_cons_succ, List.getElem_toArray, List.getElem_cons_zero, List.getElem_cons_succ]
      simp only [e8]
      go_simp
      have hb6 : Below w'.heap.size w' w' := Below.refl _ _
      exact hK.out _ _ ⟨_, rfl, phiL_mk rfl rfl, hb6, q1, q2, q3, q4, q5, q6, q7, q8, q9⟩
  case gpu =>
    intro jG hj uG w' hdG
    simp only [List.mem_cons, List.not_mem_nil, or_false] at hj
    rcases hj with rfl | rfl | rfl
    · skip
      obtain ⟨x7, y7, g7⟩ := hdG 7 (by simp) (by kernel_rfl)
      obtain ⟨_, _, e7, V7⟩ := phiL_at rfl g7
      obtain ⟨m7_a, m7_c, rfl, rfl⟩ := V7.shape
      obtain ⟨uH7, rfl⟩ := upd_self e7
      refine ⟨_, .tuple #[.agg #[.slice m7_a (o.getD tyZ).args.length m7_c, .int .i64 (o.getD tyZ).base], .bool o.isSome], rfl, Or.inl ⟨by rfl, fun wS _ => ?_⟩, fills_put _ _ (by simp) (by simp) (by simp), phiL_mk rfl ⟨_, _, rfl, V7⟩⟩
      simp only [fills, List.foldl, Act.put, List.setIfInBounds_toArray, List.set_cons_zero, List.set_cons_succ, List.getElem_toArray, List.getElem_cons_zero, List.getElem_cons_succ]
      simp only [e7]
      go_simp
      try with_reducible rfl
    · skip
      obtain ⟨x8, y8, g8⟩ := hdG 8 (by simp) (by kernel_rfl)
      obtain ⟨_, _, e8, V8⟩ := phiL_at rfl g8
      obtain ⟨m8_a, m8_c, rfl, rfl⟩ := V8.shape
      obtain ⟨uH8, rfl⟩ := upd_self e8
      refine ⟨_, .agg #[.slice m8_a (o.getD tyZ).args.length m8_c, .int .i64 (o.getD tyZ).base], rfl, Or.inl ⟨by rfl, fun wS _ => ?_⟩, fills_put _ _ (by simp) (by simp) (by simp), phiL_mk rfl ⟨_, _, rfl, V8⟩⟩
      simp only [fills, List.foldl, Act.put, List.setIfInBounds_toArray, List.set_cons_zero, List.set_cons_succ, List.getElem_toArray, List.getElem_cons_zero, List.getElem_cons_succ]
      simp only [e8]
      go_simp
      try with_reducible rfl
    · skip
      obtain ⟨x8, y8, g8⟩ := hdG 8 (by simp) (by kernel_rfl)
      obtain ⟨_, _, e8, V8⟩ := phiL_at rfl g8
      obtain ⟨m8_a, m8_c, rfl, rfl⟩ := V8.shape
      obtain ⟨uH8, rfl⟩ := upd_self e8
      refine ⟨_, (.bool o.isSome), rfl, Or.inl ⟨by rfl, fun wS _ => ?_⟩, fills_put _ _ (by simp) (by simp) (by simp), phiL_mk rfl rfl⟩
      simp only [fills, List.foldl, Act.put, List.setIfInBounds_toArray, List.set_cons_zero, List.set_cons_succ, List.getElem_toArray, List.getElem_cons_zero, List.getElem_cons_succ]
      simp only [e8]
      go_simp
      try with_reducible rfl
  case gend =>
    intro uG loG hiG w' hΦ hB' hS'
    have hbw : Below w3.heap.size w3 w' := (Below.refl _ _).drew.trans hB'
    have hsz : w3.drew.heap.size = w3.heap.size := rfl
    have hsB := B_w3.size
    obtain ⟨g4, n4, m4, o4⟩ := hΦ.1 4 (by simp) rfl
    obtain ⟨m4_a, m4_c, e4, V4⟩ := phiL_at rfl g4
    obtain ⟨g7, n7, m7, o7⟩ := hΦ.1 7 (by simp) rfl
    obtain ⟨_, _, e7, V7⟩ := phiL_at rfl g7
    obtain ⟨m7_a, m7_c, rfl, rfl⟩ := V7.shape
    obtain ⟨g11, n11, m11, o11⟩ := hΦ.1 11 (by simp) rfl
    obtain ⟨e11, r11, Z11⟩ := phiL_at rfl g11
    obtain ⟨g8, n8, m8, o8⟩ := hΦ.1 8 (by simp) rfl
    obtain ⟨_, _, e8, V8⟩ := phiL_at rfl g8
    obtain ⟨m8_a, m8_c, rfl, rfl⟩ := V8.shape
    obtain ⟨g9, n9, m9, o9⟩ := hΦ.1 9 (by simp) rfl
    obtain ⟨_, _, e9, V9⟩ := phiL_at rfl g9
    obtain ⟨h_a, h_c, rfl, rfl⟩ := V9.shape
    obtain ⟨g10, n10, m10, o10⟩ := hΦ.1 10 (by simp) rfl
    have e10 : uG 10 = (.bool o.isSome) := phiL_at rfl g10
    have k4_11 := hΦ.2 4 (by simp) 11 (by simp) rfl rfl (by decide)
    have k7_11 := hΦ.2 7 (by simp) 11 (by simp) rfl rfl (by decide)
    have k8_11 := hΦ.2 8 (by simp) 11 (by simp) rfl rfl (by decide)
    have k9_11 := hΦ.2 9 (by simp) 11 (by simp) rfl rfl (by decide)
    have k10_11 := hΦ.2 10 (by simp) 11 (by simp) rfl rfl (by decide)
    clear hΦ g4 g7 g11 g8 g9 g10
    simp only [fills, List.foldl, Act.put, List.setIfInBounds_toArray, List.set_cons_zero, List.set_cons_succ, List.getElem_toArray, List.getElem_cons_zero, List.getElem_cons_succ]
    rw [e4, e7, e11, e8, e9, e10]
    clear e4 e7 e11 e8 e9 e10
    rw [hsz] at n4 n7 n11 n8 n9 n10
    generalize loG 11 = p at *
    have U9 := Lib.hid V9
    clear V4 V7 V8 V9 k4_11 k7_11 k8_11 k9_11 k10_11
    have rp_0 : w'.cell? ⟨p, 0, none⟩ = some (.slice none 0 0) := Z11.cell rfl
    have fp_0 := Z11.free 0
    have rp_1 : w'.cell? ⟨p, 1, none⟩ = some (.int .i64 0) := Z11.cell rfl
    have fp_1 := Z11.free 1
    refine wpN_step (i := 12) (by kernel_rfl) rfl (fun K hK => ?_)
    have hK := Lib.hid hK
    simp only [Act.put, List.setIfInBounds_toArray, List.set_cons_zero, List.set_cons_succ, List.getElem_toArray, List.getElem_cons_zero, List.getElem_cons_succ]
    go_simp
    refine hK.out.out _ _ (fun h => absurd h (by decide)) ?_
    refine wpN_step (i := 13) (by kernel_rfl) rfl (fun K hK => ?_)
    have hK := Lib.hid hK
    simp only [Act.put, List.setIfInBounds_toArray, List.set_cons_zero, List.set_cons_succ, List.getElem_toArray, List.getElem_cons_zero, List.getElem_cons_succ]
    go_simp
    refine hK.out.out _ _ (fun h => absurd h (by decide)) ?_
    refine wpN_done (by kernel_rfl) ?_
    refine NoPanic.normal ?_
    obtain ⟨w8, hw8⟩ : ∃ x, ((w'.setCell ⟨p, 0, none⟩ (.slice h_a (o.getD tyZ).args.length h_c)).setCell ⟨p, 1, none⟩ (.int .i64 (o.getD tyZ).base)) = x := ⟨_, rfl⟩
    rw [hw8]
    have Lx0 := x0_w3.lt
    have Lx1 := x1_w3.lt
    have Lx2 := x2_w3.lt
    have B6 := B_w3.trans (hbw.mono B_w3.size)
    have x0_w8 : Blk w8 (w.heap.size) #[.int .i64 b, .slice ca C.length cc, .slice ma M.length mc] 90 := by rw [← hw8]; exact ((x0_w3.below hbw).far _ _ (by simp; omega)).far _ _ (by simp; omega)
    have x1_w8 : Blk w8 (w.heap.size + 1) #[.slice t_pa t.binds.length t_pc, .int .i64 t_k, .int .i64 t_i, .slice t_qa t_m t_qc] 37 := by rw [← hw8]; exact ((x1_w3.below hbw).far _ _ (by simp; omega)).far _ _ (by simp; omega)
    have x2_w8 : Blk w8 (w.heap.size + 1 + 1) #[.slice none 0 0, .int .i64 0] 40 := by rw [← hw8]; exact ((x2_w3.below hbw).far _ _ (by simp; omega)).far _ _ (by simp; omega)
    have yp_w8 : Blk w8 p #[.slice h_a (o.getD tyZ).args.length h_c, .int .i64 (o.getD tyZ).base] 40 := by rw [← hw8]; exact ((Z11).set 0 _).set 1 _
    have np : w3.heap.size ≤ p := n11
    have KU : Keep (fun z => z ≠ p) w' w8 := by rw [← hw8]; exact ((Keep.refl _ _).setCell _ _ (by simp)).setCell _ _ (by simp)
    have KT : Keep (fun z => z < w3.heap.size) w3 w8 := by rw [← hw8]; exact (((Keep.refl _ _).below hbw).setCell _ _ (by simp; omega)).setCell _ _ (by simp; omega)
    have B_w8 : Below w.heap.size w w8 := by rw [← hw8]; exact ((B6).setCell (by simp; omega) _).setCell (by simp; omega) _
    have KF : Keep F w' w8 := by rw [← hw8]; exact ((Keep.refl _ _).setCell _ _ (fun h => by have := hF.out _ h; simp at this; omega)).setCell _ _ (fun h => by have := hF.out _ h; simp at this; omega)
    have h_w8 := Lib.hid (U9.out.keep KF)
    clear hw8 KU KT KF U9 x0_w3 x1_w3 x2_w3 B_w3 Z11 rp_0 fp_0 rp_1 fp_1 Lx0 Lx1 Lx2 hbw hB' B6 hS hS' hsz hsB n4 n7 n11 n8 n9 n10 m4 m7 m11 m8 m9 m10 o4 o7 o11 o8 o9 o10 r11
    have hsp : w.heap.size + 3 ≤ p := by omega
    cases hs : o.isSome
    · have ho : o = none := by simpa using hs
      subst ho
      simp only [Option.getD_none, tyZ, Ty.args, Ty.base, List.length_nil, Option.map_none] at *
      have cx20 : w8.cell? ⟨w.heap.size + 1 + 1, 0, none⟩ = some (.slice none 0 0) := x2_w8.cell rfl
      have cx21 : w8.cell? ⟨w.heap.size + 1 + 1, 1, none⟩ = some (.int .i64 0) := x2_w8.cell rfl
      have lx2 := x2_w8.lt
      have cyp0 : w8.cell? ⟨p, 0, none⟩ = some (.slice h_a 0 h_c) := yp_w8.cell rfl
      have cyp1 : w8.cell? ⟨p, 1, none⟩ = some (.int .i64 0) := yp_w8.cell rfl
      have lyp := yp_w8.lt
      have f0 := x2_w8.free 0
      have f1 := x2_w8.free 1
      go_wp2_with fail
      have z0 := (x2_w8.set 0 (.slice none 0 0)).cell (i := 0) (v := .slice none 0 0) rfl
      have z1 := ((x2_w8.set 0 (.slice none 0 0)).set 1 (.int .i64 0)).cell (i := 1) (v := .int .i64 0) rfl
      refine bodyPost_ret (v := .tuple #[.agg #[.slice none 0 0, .int .i64 0], .int .i64 10]) (by first | simp [results, Try.results61, go_sem, cx20, cx21] | simp [results, Try.results61, go_sem, z0, z1]) rfl ?_
      first
      | exact ⟨_, _, rfl, isTy_zero _ _, (B_w8.setCell (by simp; omega) _).setCell (by simp; omega) _⟩
      | exact ⟨_, _, rfl, isTy_zero _ _, B_w8⟩
    · obtain ⟨t0, rfl⟩ := Option.isSome_iff_exists.1 hs
      simp only [Option.getD_some, Option.map_some] at *
      obtain ⟨d0, hd0⟩ : ∃ d0, t0.base = d0 := ⟨_, rfl⟩
      obtain ⟨n0, hn0⟩ : ∃ n0, t0.args.length = n0 := ⟨_, rfl⟩
      rw [hd0, hn0] at yp_w8 h_w8
      rw [hd0, hn0]
      have Hd0 := Lib.hid hd0
      clear hd0 hn0 Ho Hh Hw hs
      have Hbi8 := Lib.hid (Hbi.out.keep ((Keep.refl _ _).below B_w8))
      have hp8 : w.heap.size + 3 ≤ w8.heap.size := by have := yp_w8.lt; omega
      have cx10 : w8.cell? ⟨w.heap.size + 1, 0, none⟩ = some (.slice t_pa t.binds.length t_pc) := x1_w8.cell rfl
      have cx11 : w8.cell? ⟨w.heap.size + 1, 1, none⟩ = some (.int .i64 t_k) := x1_w8.cell rfl
      have cx12 : w8.cell? ⟨w.heap.size + 1, 2, none⟩ = some (.int .i64 t_i) := x1_w8.cell rfl
      have cx13 : w8.cell? ⟨w.heap.size + 1, 3, none⟩ = some (.slice t_qa t_m t_qc) := x1_w8.cell rfl
      have lx1 := x1_w8.lt
      have cyp0 : w8.cell? ⟨p, 0, none⟩ = some (.slice h_a n0 h_c) := yp_w8.cell rfl
      have cyp1 : w8.cell? ⟨p, 1, none⟩ = some (.int .i64 d0) := yp_w8.cell rfl
      have lyp := yp_w8.lt
      go_wp2_with fail
      refine (of_k d0 Hbi8.out (by have := Hbz.out; omega)).mono ?_
      rintro e w9 ⟨s9, b9, rfl, hT, hbx0⟩
      have hbx : Below w8.heap.size w8 w9 := hbx0
      clear hbx0
      clear cx10 cx11 cx12 cx13 lx1 cyp0 cyp1 lyp
      have x0_w9 := x0_w8.below hbx
      have x1_w9 := x1_w8.below hbx
      have x2_w9 := x2_w8.below hbx
      have yp_w9 := yp_w8.below hbx
      have h_w9 := Lib.hid (h_w8.out.bel hbx)
      have B_w9 := B_w8.trans (hbx.mono B_w8.size)
      clear x0_w8 x1_w8 x2_w8 yp_w8 h_w8 B_w8 hbx
      obtain ⟨a9, c9, rfl, rfl⟩ := hT.shape
      simp only [Ty.args, Ty.base] at hT ⊢
      have hs8 := B_w9.size
      have HT := Lib.hid (hT.weaken (F' := fun q => w.heap.size + 3 ≤ q) fun q _ h => by omega)
      clear hT
      have cx20 : w9.cell? ⟨w.heap.size + 1 + 1, 0, none⟩ = some (.slice none 0 0) := x2_w9.cell rfl
      have cx21 : w9.cell? ⟨w.heap.size + 1 + 1, 1, none⟩ = some (.int .i64 0) := x2_w9.cell rfl
      have lx2 := x2_w9.lt
      have f0 := x2_w9.free 0
      have f1 := x2_w9.free 1
      go_wp2_with fail
      have z0_0 := ((x2_w9).set 0 (.slice a9 t.binds.length c9)).cell (i := 0) (v := .slice a9 t.binds.length c9) rfl
      have z0_1 := (((x2_w9).set 0 (.slice a9 t.binds.length c9)).set 1 (.int .i64 d0)).cell (i := 0) (v := .slice a9 t.binds.length c9) rfl
      have z1_1 := (((x2_w9).set 0 (.slice a9 t.binds.length c9)).set 1 (.int .i64 d0)).cell (i := 1) (v := .int .i64 d0) rfl
      refine bodyPost_ret (v := .tuple #[.agg #[.slice a9 t.binds.length c9, .int .i64 d0], .int .i64 0]) (by simp [results, Try.results61, go_sem, z0_0, z0_1, z1_1]) rfl ?_
      clear z0_0 z0_1 z1_1
      have HT2 : IsTy (fun q => w.heap.size ≤ q) ((w9.setCell ⟨w.heap.size + 1 + 1, 0, none⟩ (.slice a9 t.binds.length c9)).setCell ⟨w.heap.size + 1 + 1, 1, none⟩ (.int .i64 d0)) (.slice a9 t.binds.length c9) (.int .i64 d0) (.mk t.binds d0) :=
        (HT.out.keep (((Keep.refl _ _).setCell ⟨w.heap.size + 1 + 1, 0, none⟩ _ (by simp)).setCell ⟨w.heap.size + 1 + 1, 1, none⟩ _ (by simp))).weaken fun q _ h => by omega
      refine ⟨_, _, rfl, ?_, (B_w9.setCell (by simp; omega) _).setCell (by simp; omega) _⟩
      show IsTy _ _ _ _ (Ty.mk t.binds t0.base)
      rw [Hd0.out]
      exact HT2
end Go.Proofs.Ytejpgifofkiofaa

