/-
  The document's TypeOf. Which of two types is less: by size, by how many arguments, argument by argument, by base; and what that order promises. Which of two terms is less: the plain law.
-/
import Derived.Test.YtejpgifofkiofaaRowWell6p21
import Derived.Test.YtejpgifofkiofaaRowWell6p23
import Derived.Test.YtejpgifofkiofaaRowWell6p3
import Derived.Test.YtejpgifofkiofaaRowWell6p2
set_option linter.unusedVariables false
set_option linter.unusedSimpArgs false
namespace Go.Proofs.Ytejpgifofkiofaa
open Go.RowKit

set_option maxRecDepth 100000 in
set_option maxHeartbeats 4000000 in
theorem TypeOf_r {F : Nat → Prop} {w : World} {b : Int} {cv mv xv tb tk ti ta : Value} {C M X : List Ty} {t : Tm} (hF : ∀ q, F q → q < w.heap.size) (hc : IsSl rpTy F w cv C) (hm : IsSl rpTy F w mv M) (hx : IsSl2 rpTy (fun _ => True) F w xv X) (ht : IsTm F w tb tk ti ta t) (hi : t.index ≤ 9223372036854775807)
    (hl : X.length ≤ 50000) (hz : t.full ≤ 40000) :
    Calls Try.prog 62 #[.agg #[.int .i64 b, cv, mv], xv, .agg #[tb, tk, ti, ta]] w (HeadPost F ((headTy C M (X ++ t.binds) t.kind t.index).map fun h => .mk t.binds h.base) w) := by
  obtain ⟨ca, cc, rfl⟩ := hc.shape
  obtain ⟨ma, mc, rfl⟩ := hm.shape
  obtain ⟨xa, xc, rfl⟩ := hx.shape
  have Hc := Lib.hid hc; have Hm := Lib.hid hm; have Hx := Lib.hid hx; have hF := Lib.hid hF
  clear hc hm hx
  obtain ⟨_, _, hbi, _⟩ := ht.inv
  have hbz : Ty.sizes t.binds ≤ 40000 := by cases t; rw [Tm.full_eq] at hz; simp only [Tm.binds]; omega
  obtain ⟨t_pa, t_pc, t_qa, t_qc, rfl, rfl, rfl, rfl⟩ := ht.shape
  obtain ⟨t_n, ht_n⟩ : ∃ x, t.binds.length = x := ⟨_, rfl⟩
  obtain ⟨t_m, ht_m⟩ : ∃ x, t.args.length = x := ⟨_, rfl⟩
  obtain ⟨t_k, ht_k⟩ : ∃ x, t.kind = x := ⟨_, rfl⟩
  obtain ⟨t_i, ht_i⟩ : ∃ x, t.index = x := ⟨_, rfl⟩
  rw [ht_n, ht_m, ht_k, ht_i] at ht ⊢
  have Et_n := Lib.hid ht_n
  have Et_m := Lib.hid ht_m
  have Et_k := Lib.hid ht_k
  have Et_i := Lib.hid ht_i
  clear ht_n ht_m ht_k ht_i
  have Hbi := Lib.hid hbi
  have hlb : X.length + t.binds.length ≤ 100000 := by have := Ty.le_sizes t.binds; omega
  have Hlb := Lib.hid hlb; have Hbz := Lib.hid hbz
  clear hbi hz hbz ht hlb
  have hi : t_i ≤ 9223372036854775807 := by rw [← Et_i.out]; exact hi
  obtain ⟨o, ho⟩ : ∃ o, headTy C M (X ++ t.binds) t_k t_i = o := ⟨_, rfl⟩
  have Ho := Lib.hid ho
  rw [ho]
  clear ho
  rw [← Et_n.out]
  obtain ⟨Y, hY⟩ : ∃ Y, X ++ t.binds = Y := ⟨_, rfl⟩
  have Hw := Lib.hid fun (w' : World) (hb : Below w.heap.size w w') => behind_r (Hx.out.bel hb) (IsSl2.of (Hbi.out.bel hb)) Hlb.out
  rw [hY] at Ho Hw
  clear hY
  have Hh := Lib.hid fun (w' : World) (yv : Value) (hb : Below w.heap.size w w') (hy : IsSl2 rpTy (fun _ => True) F w' yv Y) => headType_r (b := b) (fun q hq => Nat.lt_of_lt_of_le (hF.out q hq) hb.size) (Hc.out.bel hb) (Hm.out.bel hb) hy t_k t_i
  rw [Ho.out] at Hh
  go_enter Try.func62, Try.ntmps62
  go_wp2_with fail
  obtain ⟨w3, hw3⟩ : ∃ w3, ((w.alloc (.cells #[.int .i64 b, .slice ca C.length cc, .slice ma M.length mc] 87)).alloc (.cells #[.slice t_pa t.binds.length t_pc, .int .i64 t_k, .int .i64 t_i, .slice t_qa t_m t_qc] 29)).alloc (.cells #[.slice none 0 0, .int .i64 0] 26) = w3 := ⟨_, rfl⟩
  have B_w3 : Below w.heap.size w w3 := by rw [← hw3]; exact (((Below.refl _ _).alloc (Nat.le_refl _) _).alloc (by simp) _).alloc (by simp; omega) _
  have x0_w3 : Blk w3 w.heap.size #[.int .i64 b, .slice ca C.length cc, .slice ma M.length mc] 87 := by rw [← hw3]; exact ((Blk.new _ _ _ rfl).alloc _).alloc _
  have x1_w3 : Blk w3 (w.heap.size + 1) #[.slice t_pa t.binds.length t_pc, .int .i64 t_k, .int .i64 t_i, .slice t_qa t_m t_qc] 29 := by rw [← hw3]; exact (Blk.new _ _ _ (by simp)).alloc _
  have x2_w3 : Blk w3 (w.heap.size + 1 + 1) #[.slice none 0 0, .int .i64 0] 26 := by rw [← hw3]; exact Blk.new _ _ _ (by simp)
  rw [hw3]
  clear hw3
  have hs3 : w.heap.size + 3 ≤ w3.heap.size := x2_w3.lt
  refine wp_region_noPanic (wp_region_need (S := fun w' => w'.cell? ⟨w.heap.size, 0, none⟩ = some (.int .i64 b) ∧ w'.cell? ⟨w.heap.size, 1, none⟩ = some (.slice ca C.length cc) ∧ w'.cell? ⟨w.heap.size, 2, none⟩ = some (.slice ma M.length mc) ∧ w'.cell? ⟨w.heap.size + 1, 0, none⟩ = some (.slice t_pa t.binds.length t_pc) ∧ w'.cell? ⟨w.heap.size + 1, 1, none⟩ = some (.int .i64 t_k) ∧ w'.cell? ⟨w.heap.size + 1, 2, none⟩ = some (.int .i64 t_i) ∧ w'.cell? ⟨w.heap.size + 1, 3, none⟩ = some (.slice t_qa t_m t_qc) ∧ w'.cell? ⟨w.heap.size + 1 + 1, 0, none⟩ = some (.slice none 0 0) ∧ w'.cell? ⟨w.heap.size + 1 + 1, 1, none⟩ = some (.int .i64 0)) (by kernel_rfl) ?_)
  have hS : (w3.drew).cell? ⟨w.heap.size, 0, none⟩ = some (.int .i64 b) ∧ (w3.drew).cell? ⟨w.heap.size, 1, none⟩ = some (.slice ca C.length cc) ∧ (w3.drew).cell? ⟨w.heap.size, 2, none⟩ = some (.slice ma M.length mc) ∧ (w3.drew).cell? ⟨w.heap.size + 1, 0, none⟩ = some (.slice t_pa t.binds.length t_pc) ∧ (w3.drew).cell? ⟨w.heap.size + 1, 1, none⟩ = some (.int .i64 t_k) ∧ (w3.drew).cell? ⟨w.heap.size + 1, 2, none⟩ = some (.int .i64 t_i) ∧ (w3.drew).cell? ⟨w.heap.size + 1, 3, none⟩ = some (.slice t_qa t_m t_qc) ∧ (w3.drew).cell? ⟨w.heap.size + 1 + 1, 0, none⟩ = some (.slice none 0 0) ∧ (w3.drew).cell? ⟨w.heap.size + 1 + 1, 1, none⟩ = some (.int .i64 0) := ⟨x0_w3.drew.cell rfl, x0_w3.drew.cell rfl, x0_w3.drew.cell rfl, x1_w3.drew.cell rfl, x1_w3.drew.cell rfl, x1_w3.drew.cell rfl, x1_w3.drew.cell rfl, x2_w3.drew.cell rfl, x2_w3.drew.cell rfl⟩
  refine wpN_take (i := 0) (v := ?v1) rfl (by kernel_rfl) (fun _ _ _ h => h) hS (Or.inl ⟨by rfl, ?hy1⟩) ?hr1
  case hy1 => (intro wS hSw; (try dsimp only at hSw); go_simp; (try with_reducible rfl))
  try simp only [Act.put, List.setIfInBounds_toArray, List.set_cons_zero, List.set_cons_succ, List.getElem_toArray, List.getElem_cons_zero, List.getElem_cons_succ]
  refine wpN_take (i := 1) (v := ?v2) rfl (by kernel_rfl) (fun _ _ _ h => h) hS (Or.inl ⟨by rfl, ?hy2⟩) ?hr2
  case hy2 => (intro wS hSw; (try dsimp only at hSw); go_simp; (try with_reducible rfl))
  try simp only [Act.put, List.setIfInBounds_toArray, List.set_cons_zero, List.set_cons_succ, List.getElem_toArray, List.getElem_cons_zero, List.getElem_cons_succ]
  refine wpN_take (i := 2) (v := ?v3) rfl (by kernel_rfl) (fun _ _ _ h => h) hS (Or.inl ⟨by rfl, ?hy3⟩) ?hr3
  case hy3 => (intro wS hSw; (try dsimp only at hSw); go_simp; (try with_reducible rfl))
  try simp only [Act.put, List.setIfInBounds_toArray, List.set_cons_zero, List.set_cons_succ, List.getElem_toArray, List.getElem_cons_zero, List.getElem_cons_succ]
  refine wpN_take (i := 3) (v := ?v4) rfl (by kernel_rfl) (fun _ _ _ h => h) hS (Or.inl ⟨by rfl, ?hy4⟩) ?hr4
  case hy4 => (intro wS hSw; (try dsimp only at hSw); go_simp; (try with_reducible rfl))
  try simp only [Act.put, List.setIfInBounds_toArray, List.set_cons_zero, List.set_cons_succ, List.getElem_toArray, List.getElem_cons_zero, List.getElem_cons_succ]
  refine wpN_take (i := 5) (v := ?v5) rfl (by kernel_rfl) (fun _ _ _ h => h) hS (Or.inl ⟨by rfl, ?hy5⟩) ?hr5
  case hy5 => (intro wS hSw; (try dsimp only at hSw); go_simp; (try with_reducible rfl))
  try simp only [Act.put, List.setIfInBounds_toArray, List.set_cons_zero, List.set_cons_succ, List.getElem_toArray, List.getElem_cons_zero, List.getElem_cons_succ]
  refine wpN_take (i := 6) (v := ?v6) rfl (by kernel_rfl) (fun _ _ _ h => h) hS (Or.inl ⟨by rfl, ?hy6⟩) ?hr6
  case hy6 => (intro wS hSw; (try dsimp only at hSw); go_simp; (try with_reducible rfl))
  try simp only [Act.put, List.setIfInBounds_toArray, List.set_cons_zero, List.set_cons_succ, List.getElem_toArray, List.getElem_cons_zero, List.getElem_cons_succ]
  refine wpN_gathersQ [(4, 15), (7, 18), (11, 8), (8, 10), (9, 19), (10, 20)] [8, 9, 10] 2 (PhiL [(4, phiSl2 rpTy F Y), (7, phiHead F o), (11, phiBlk #[.slice none 0 0, .int .i64 0] 26), (8, phiHead F o), (9, phiTyF F (o.getD tyZ)), (10, phiV (.bool o.isSome))]) rfl rfl (by kernel_rfl) phiL_below hS ?gop (by kernel_rfl) (fun _ _ _ _ h => h) ?gpu ?gend
  case gop =>
    intro xG hx uG w' hdG hB' hS'
    obtain ⟨q1, q2, q3, q4, q5, q6, q7, q8, q9⟩ := hS'
    have hbw : Below w3.heap.size w3 w' := (Below.refl _ _).drew.trans hB'
    simp only [List.mem_cons, List.not_mem_nil, or_false] at hx
    rcases hx with rfl | rfl | rfl | rfl | rfl | rfl
    · skip
      clear hdG
      refine wpOp_step (i := 4) rfl (fun K hK => ?_)
      have hK := Lib.hid hK
      simp only [fills, List.foldl, Act.put, List.setIfInBounds_toArray, List.set_cons_zero, List.set_cons_succ, List.getElem_toArray, List.getElem_cons_zero, List.getElem_cons_succ]
      go_simp
      refine (Hw.out _ (B_w3.trans (hbw.mono B_w3.size))).mono ?_
      intro e w6 h
      obtain ⟨_, _, rfl, hT, hb6⟩ := h
      have hKp : Keep (fun _ => True) w' w6 := (Keep.refl _ _).below hb6
      exact hK.out _ _ ⟨_, rfl, phiL_mk rfl ⟨_, _, rfl, hT.weaken (by decide) (fun _ h1 h2 => ⟨h2, h1⟩) fun _ _ h => h⟩, hb6, hKp _ _ _ trivial q1, hKp _ _ _ trivial q2, hKp _ _ _ trivial q3, hKp _ _ _ trivial q4, hKp _ _ _ trivial q5, hKp _ _ _ trivial q6, hKp _ _ _ trivial q7, hKp _ _ _ trivial q8, hKp _ _ _ trivial q9⟩
    · skip
      obtain ⟨x4, y4, g4⟩ := hdG 4 (by simp) (by kernel_rfl)
      obtain ⟨m4_a, m4_c, e4, V4⟩ := phiL_at rfl g4
      obtain ⟨uH4, rfl⟩ := upd_self e4
      clear hdG
      refine wpOp_step (i := 7) rfl (fun K hK => ?_)
      have hK := Lib.hid hK
      simp only [fills, List.foldl, Act.put, List.setIfInBounds_toArray, List.set_cons_zero, List.set_cons_succ, List.getElem_toArray, List.getElem_cons_zero, List.getElem_cons_succ]
      simp only [e4]
      go_simp
      refine (Hh.out _ _ (B_w3.trans (hbw.mono B_w3.size)) (V4.anyRow (by decide))).mono ?_
      intro e w6 h
      obtain ⟨_, _, rfl, hT, hb6⟩ := h
      have hKp : Keep (fun _ => True) w' w6 := (Keep.refl _ _).below hb6
      exact hK.out _ _ ⟨_, rfl, phiL_mk rfl ⟨_, _, rfl, hT⟩, hb6, hKp _ _ _ trivial q1, hKp _ _ _ trivial q2, hKp _ _ _ trivial q3, hKp _ _ _ trivial q4, hKp _ _ _ trivial q5, hKp _ _ _ trivial q6, hKp _ _ _ trivial q7, hKp _ _ _ trivial q8, hKp _ _ _ trivial q9⟩
    · skip
      clear hdG
      refine wpOp_step (i := 11) rfl (fun K hK => ?_)
      have hK := Lib.hid hK
      simp only [fills, List.foldl, Act.put, List.setIfInBounds_toArray, List.set_cons_zero, List.set_cons_succ, List.getElem_toArray, List.getElem_cons_zero, List.getElem_cons_succ]
      go_simp
      have hb6 : Below w'.heap.size w' (w'.alloc (.cells #[.slice none 0 0, .int .i64 0] 26)) := (Below.refl _ _).alloc (Nat.le_refl _) _
      have hKp : Keep (fun _ => True) w' (w'.alloc (.cells #[.slice none 0 0, .int .i64 0] 26)) := (Keep.refl _ _).below hb6
      exact hK.out _ _ ⟨_, rfl, phiL_mk rfl ⟨rfl, by simp, Blk.new _ _ _ rfl⟩, hb6, hKp _ _ _ trivial q1, hKp _ _ _ trivial q2, hKp _ _ _ trivial q3, hKp _ _ _ trivial q4, hKp _ _ _ trivial q5, hKp _ _ _ trivial q6, hKp _ _ _ trivial q7, hKp _ _ _ trivial q8, hKp _ _ _ trivial q9⟩
    · skip
      obtain ⟨x7, y7, g7⟩ := hdG 7 (by simp) (by kernel_rfl)
      obtain ⟨_, _, e7, V7⟩ := phiL_at rfl g7
      obtain ⟨m7_a, m7_c, rfl, rfl⟩ := V7.shape
      obtain ⟨uH7, rfl⟩ := upd_self e7
      clear hdG
      refine wpOp_step (i := 8) rfl (fun K hK => ?_)
      have hK := Lib.hid hK
      simp only [fills, List.foldl, Act.put, List.setIfInBounds_toArray, List.set_cons_zero, List.set_cons_succ, List.getElem_toArray, List.getElem_cons_zero, List.getElem_cons_succ]
      simp only [e7]
      go_simp
      have hb6 : Below w'.heap.size w' w' := Below.refl _ _
      exact hK.out _ _ ⟨_, rfl, phiL_mk rfl ⟨_, _, rfl, V7⟩, hb6, q1, q2, q3, q4, q5, q6, q7, q8, q9⟩
    · skip
      obtain ⟨x8, y8, g8⟩ := hdG 8 (by simp) (by kernel_rfl)
      obtain ⟨_, _, e8, V8⟩ := phiL_at rfl g8
      obtain ⟨m8_a, m8_c, rfl, rfl⟩ := V8.shape
      obtain ⟨uH8, rfl⟩ := upd_self e8
      clear hdG
      refine wpOp_step (i := 9) rfl (fun K hK => ?_)
      have hK := Lib.hid hK
      simp only [fills, List.foldl, Act.put, List.setIfInBounds_toArray, List.set_cons_zero, List.set_cons_succ, List.getElem_toArray, List.getElem_cons_zero, List.getElem_cons_succ]
      simp only [e8]
      go_simp
      have hb6 : Below w'.heap.size w' w' := Below.refl _ _
      exact hK.out _ _ ⟨_, rfl, phiL_mk rfl ⟨_, _, rfl, V8⟩, hb6, q1, q2, q3, q4, q5, q6, q7, q8, q9⟩
    · skip
      obtain ⟨x8, y8, g8⟩ := hdG 8 (by simp) (by kernel_rfl)
      obtain ⟨_, _, e8, V8⟩ := phiL_at rfl g8
      obtain ⟨m8_a, m8_c, rfl, rfl⟩ := V8.shape
      obtain ⟨uH8, rfl⟩ := upd_self e8
      clear hdG
      refine wpOp_step (i := 10) rfl (fun K hK => ?_)
      have hK := Lib.hid hK
      simp only [fills, List.foldl, Act.put, List.setIfInBounds_toArray, List.set_cons_zero, List.set_cons_succ, List.getElem_toArray, List.getElem_cons_zero, List.getElem_cons_succ]
      simp only [e8]
      go_simp
      have hb6 : Below w'.heap.size w' w' := Below.refl _ _
      exact hK.out _ _ ⟨_, rfl, phiL_mk rfl rfl, hb6, q1, q2, q3, q4, q5, q6, q7, q8, q9⟩
  case gpu =>
    intro jG hj uG w' hdG
    simp only [List.mem_cons, List.not_mem_nil, or_false] at hj
    rcases hj with rfl | rfl | rfl
    · skip
      obtain ⟨x7, y7, g7⟩ := hdG 7 (by simp) (by kernel_rfl)
      obtain ⟨_, _, e7, V7⟩ := phiL_at rfl g7
      obtain ⟨m7_a, m7_c, rfl, rfl⟩ := V7.shape
      obtain ⟨uH7, rfl⟩ := upd_self e7
      refine ⟨_, .tuple #[.agg #[.slice m7_a (o.getD tyZ).args.length m7_c, .int .i64 (o.getD tyZ).base], .bool o.isSome], rfl, Or.inl ⟨by rfl, fun wS _ => ?_⟩, fills_put _ _ (by simp) (by simp) (by simp), phiL_mk rfl ⟨_, _, rfl, V7⟩⟩
      simp only [fills, List.foldl, Act.put, List.setIfInBounds_toArray, List.set_cons_zero, List.set_cons_succ, List.getElem_toArray, List.getElem_cons_zero, List.getElem_cons_succ]
      simp only [e7]
      go_simp
      try with_reducible rfl
    · skip
      obtain ⟨x8, y8, g8⟩ := hdG 8 (by simp) (by kernel_rfl)
      obtain ⟨_, _, e8, V8⟩ := phiL_at rfl g8
      obtain ⟨m8_a, m8_c, rfl, rfl⟩ := V8.shape
      obtain ⟨uH8, rfl⟩ := upd_self e8
      refine ⟨_, .agg #[.slice m8_a (o.getD tyZ).args.length m8_c, .int .i64 (o.getD tyZ).base], rfl, Or.inl ⟨by rfl, fun wS _ => ?_⟩, fills_put _ _ (by simp) (by simp) (by simp), phiL_mk rfl ⟨_, _, rfl, V8⟩⟩
      simp only [fills, List.foldl, Act.put, List.setIfInBounds_toArray, List.set_cons_zero, List.set_cons_succ, List.getElem_toArray, List.getElem_cons_zero, List.getElem_cons_succ]
      simp only [e8]
      go_simp
      try with_reducible rfl
    · skip
      obtain ⟨x8, y8, g8⟩ := hdG 8 (by simp) (by kernel_rfl)
      obtain ⟨_, _, e8, V8⟩ := phiL_at rfl g8
      obtain ⟨m8_a, m8_c, rfl, rfl⟩ := V8.shape
      obtain ⟨uH8, rfl⟩ := upd_self e8
      refine ⟨_, (.bool o.isSome), rfl, Or.inl ⟨by rfl, fun wS _ => ?_⟩, fills_put _ _ (by simp) (by simp) (by simp), phiL_mk rfl rfl⟩
      simp only [fills, List.foldl, Act.put, List.setIfInBounds_toArray, List.set_cons_zero, List.set_cons_succ, List.getElem_toArray, List.getElem_cons_zero, List.getElem_cons_succ]
      simp only [e8]
      go_simp
      try with_reducible rfl
  case gend =>
    intro uG loG hiG w' hΦ hB' hS'
    have hbw : Below w3.heap.size w3 w' := (Below.refl _ _).drew.trans hB'
    have hsz : w3.drew.heap.size = w3.heap.size := rfl
    have hsB := B_w3.size
    obtain ⟨g4, n4, m4, o4⟩ := hΦ.1 4 (by simp) rfl
    obtain ⟨m4_a, m4_c, e4, V4⟩ := phiL_at rfl g4
    obtain ⟨g7, n7, m7, o7⟩ := hΦ.1 7 (by simp) rfl
    obtain ⟨_, _, e7, V7⟩ := phiL_at rfl g7
    obtain ⟨m7_a, m7_c, rfl, rfl⟩ := V7.shape
    obtain ⟨g11, n11, m11, o11⟩ := hΦ.1 11 (by simp) rfl
    obtain ⟨e11, r11, Z11⟩ := phiL_at rfl g11
    obtain ⟨g8, n8, m8, o8⟩ := hΦ.1 8 (by simp) rfl
    obtain ⟨_, _, e8, V8⟩ := phiL_at rfl g8
    obtain ⟨m8_a, m8_c, rfl, rfl⟩ := V8.shape
    obtain ⟨g9, n9, m9, o9⟩ := hΦ.1 9 (by simp) rfl
    obtain ⟨_, _, e9, V9⟩ := phiL_at rfl g9
    obtain ⟨h_a, h_c, rfl, rfl⟩ := V9.shape
    obtain ⟨g10, n10, m10, o10⟩ := hΦ.1 10 (by simp) rfl
    have e10 : uG 10 = (.bool o.isSome) := phiL_at rfl g10
    have k4_11 := hΦ.2 4 (by simp) 11 (by simp) rfl rfl (by decide)
    have k7_11 := hΦ.2 7 (by simp) 11 (by simp) rfl rfl (by decide)
    have k8_11 := hΦ.2 8 (by simp) 11 (by simp) rfl rfl (by decide)
    have k9_11 := hΦ.2 9 (by simp) 11 (by simp) rfl rfl (by decide)
    have k10_11 := hΦ.2 10 (by simp) 11 (by simp) rfl rfl (by decide)
    clear hΦ g4 g7 g11 g8 g9 g10
    simp only [fills, List.foldl, Act.put, List.setIfInBounds_toArray, List.set_cons_zero, List.set_cons_succ, List.getElem_toArray, List.getElem_cons_zero, List.getElem_cons_succ]
    rw [e4, e7, e11, e8, e9, e10]
    clear e4 e7 e11 e8 e9 e10
    rw [hsz] at n4 n7 n11 n8 n9 n10
    generalize loG 11 = p at *
    have U9 := Lib.hid V9
    clear V4 V7 V8 V9 k4_11 k7_11 k8_11 k9_11 k10_11
    have rp_0 : w'.cell? ⟨p, 0, none⟩ = some (.slice none 0 0) := Z11.cell rfl
    have fp_0 := Z11.free 0
    have rp_1 : w'.cell? ⟨p, 1, none⟩ = some (.int .i64 0) := Z11.cell rfl
    have fp_1 := Z11.free 1
    refine wpN_step (i := 12) (by kernel_rfl) rfl (fun K hK => ?_)
    have hK := Lib.hid hK
    simp only [Act.put, List.setIfInBounds_toArray, List.set_cons_zero, List.set_cons_succ, List.getElem_toArray, List.getElem_cons_zero, List.getElem_cons_succ]
    go_simp
    refine hK.out.out _ _ (fun h => absurd h (by decide)) ?_
    refine wpN_step (i := 13) (by kernel_rfl) rfl (fun K hK => ?_)
    have hK := Lib.hid hK
    simp only [Act.put, List.setIfInBounds_toArray, List.set_cons_zero, List.set_cons_succ, List.getElem_toArray, List.getElem_cons_zero, List.getElem_cons_succ]
    go_simp
    refine hK.out.out _ _ (fun h => absurd h (by decide)) ?_
    refine wpN_done (by kernel_rfl) ?_
    refine NoPanic.normal ?_
    obtain ⟨w8, hw8⟩ : ∃ x, ((w'.setCell ⟨p, 0, none⟩ (.slice h_a (o.getD tyZ).args.length h_c)).setCell ⟨p, 1, none⟩ (.int .i64 (o.getD tyZ).base)) = x := ⟨_, rfl⟩
    rw [hw8]
    have Lx0 := x0_w3.lt
    have Lx1 := x1_w3.lt
    have Lx2 := x2_w3.lt
    have B6 := B_w3.trans (hbw.mono B_w3.size)
    have x0_w8 : Blk w8 (w.heap.size) #[.int .i64 b, .slice ca C.length cc, .slice ma M.length mc] 87 := by rw [← hw8]; exact ((x0_w3.below hbw).far _ _ (by simp; omega)).far _ _ (by simp; omega)
    have x1_w8 : Blk w8 (w.heap.size + 1) #[.slice t_pa t.binds.length t_pc, .int .i64 t_k, .int .i64 t_i, .slice t_qa t_m t_qc] 29 := by rw [← hw8]; exact ((x1_w3.below hbw).far _ _ (by simp; omega)).far _ _ (by simp; omega)
    have x2_w8 : Blk w8 (w.heap.size + 1 + 1) #[.slice none 0 0, .int .i64 0] 26 := by rw [← hw8]; exact ((x2_w3.below hbw).far _ _ (by simp; omega)).far _ _ (by simp; omega)
    have yp_w8 : Blk w8 p #[.slice h_a (o.getD tyZ).args.length h_c, .int .i64 (o.getD tyZ).base] 26 := by rw [← hw8]; exact ((Z11).set 0 _).set 1 _
    have np : w3.heap.size ≤ p := n11
    have KU : Keep (fun z => z ≠ p) w' w8 := by rw [← hw8]; exact ((Keep.refl _ _).setCell _ _ (by simp)).setCell _ _ (by simp)
    have KT : Keep (fun z => z < w3.heap.size) w3 w8 := by rw [← hw8]; exact (((Keep.refl _ _).below hbw).setCell _ _ (by simp; omega)).setCell _ _ (by simp; omega)
    have B_w8 : Below w.heap.size w w8 := by rw [← hw8]; exact ((B6).setCell (by simp; omega) _).setCell (by simp; omega) _
    have KF : Keep F w' w8 := by rw [← hw8]; exact ((Keep.refl _ _).setCell _ _ (fun h => by have := hF.out _ h; simp at this; omega)).setCell _ _ (fun h => by have := hF.out _ h; simp at this; omega)
    have h_w8 := Lib.hid (U9.out.keep KF)
    clear hw8 KU KT KF U9 x0_w3 x1_w3 x2_w3 B_w3 Z11 rp_0 fp_0 rp_1 fp_1 Lx0 Lx1 Lx2 hbw hB' B6 hS hS' hsz hsB n4 n7 n11 n8 n9 n10 m4 m7 m11 m8 m9 m10 o4 o7 o11 o8 o9 o10 r11
    have hsp : w.heap.size + 3 ≤ p := by omega
    cases hs : o.isSome
    · have ho : o = none := by simpa using hs
      subst ho
      simp only [Option.getD_none, tyZ, Ty.args, Ty.base, List.length_nil, Option.map_none] at *
      have cx20 : w8.cell? ⟨w.heap.size + 1 + 1, 0, none⟩ = some (.slice none 0 0) := x2_w8.cell rfl
      have cx21 : w8.cell? ⟨w.heap.size + 1 + 1, 1, none⟩ = some (.int .i64 0) := x2_w8.cell rfl
      have lx2 := x2_w8.lt
      have cyp0 : w8.cell? ⟨p, 0, none⟩ = some (.slice h_a 0 h_c) := yp_w8.cell rfl
      have cyp1 : w8.cell? ⟨p, 1, none⟩ = some (.int .i64 0) := yp_w8.cell rfl
      have lyp := yp_w8.lt
      have f0 := x2_w8.free 0
      have f1 := x2_w8.free 1
      go_wp2_with fail
      have z0 := (x2_w8.set 0 (.slice none 0 0)).cell (i := 0) (v := .slice none 0 0) rfl
      have z1 := ((x2_w8.set 0 (.slice none 0 0)).set 1 (.int .i64 0)).cell (i := 1) (v := .int .i64 0) rfl
      refine bodyPost_ret (v := .tuple #[.agg #[.slice none 0 0, .int .i64 0], .bool false]) (by first | simp [results, Try.results62, go_sem, cx20, cx21] | simp [results, Try.results62, go_sem, z0, z1]) rfl ?_
      first
      | exact ⟨_, _, rfl, isTy_zero _ _, (B_w8.setCell (by simp; omega) _).setCell (by simp; omega) _⟩
      | exact ⟨_, _, rfl, isTy_zero _ _, B_w8⟩
    · obtain ⟨t0, rfl⟩ := Option.isSome_iff_exists.1 hs
      simp only [Option.getD_some, Option.map_some] at *
      obtain ⟨d0, hd0⟩ : ∃ d0, t0.base = d0 := ⟨_, rfl⟩
      obtain ⟨n0, hn0⟩ : ∃ n0, t0.args.length = n0 := ⟨_, rfl⟩
      rw [hd0, hn0] at yp_w8 h_w8
      rw [hd0, hn0]
      have Hd0 := Lib.hid hd0
      clear hd0 hn0 Ho Hh Hw hs
      have Hbi8 := Lib.hid (Hbi.out.keep ((Keep.refl _ _).below B_w8))
      have cx10 : w8.cell? ⟨w.heap.size + 1, 0, none⟩ = some (.slice t_pa t.binds.length t_pc) := x1_w8.cell rfl
      have cx11 : w8.cell? ⟨w.heap.size + 1, 1, none⟩ = some (.int .i64 t_k) := x1_w8.cell rfl
      have cx12 : w8.cell? ⟨w.heap.size + 1, 2, none⟩ = some (.int .i64 t_i) := x1_w8.cell rfl
      have cx13 : w8.cell? ⟨w.heap.size + 1, 3, none⟩ = some (.slice t_qa t_m t_qc) := x1_w8.cell rfl
      have lx1 := x1_w8.lt
      have cx20 : w8.cell? ⟨w.heap.size + 1 + 1, 0, none⟩ = some (.slice none 0 0) := x2_w8.cell rfl
      have cx21 : w8.cell? ⟨w.heap.size + 1 + 1, 1, none⟩ = some (.int .i64 0) := x2_w8.cell rfl
      have lx2 := x2_w8.lt
      have cyp0 : w8.cell? ⟨p, 0, none⟩ = some (.slice h_a n0 h_c) := yp_w8.cell rfl
      have cyp1 : w8.cell? ⟨p, 1, none⟩ = some (.int .i64 d0) := yp_w8.cell rfl
      have lyp := yp_w8.lt
      have f0 := x2_w8.free 0
      have f1 := x2_w8.free 1
      go_wp2_with fail
      have z0_0 := ((x2_w8).set 0 (.slice t_pa t.binds.length t_pc)).cell (i := 0) (v := .slice t_pa t.binds.length t_pc) rfl
      have z0_1 := (((x2_w8).set 0 (.slice t_pa t.binds.length t_pc)).set 1 (.int .i64 d0)).cell (i := 0) (v := .slice t_pa t.binds.length t_pc) rfl
      have z1_1 := (((x2_w8).set 0 (.slice t_pa t.binds.length t_pc)).set 1 (.int .i64 d0)).cell (i := 1) (v := .int .i64 d0) rfl
      refine bodyPost_ret (v := .tuple #[.agg #[.slice t_pa t.binds.length t_pc, .int .i64 d0], .bool true]) (by simp [results, Try.results62, go_sem, z0_0, z0_1, z1_1]) rfl ?_
      clear z0_0 z0_1 z1_1
      have hnF : ¬ F (w.heap.size + 1 + 1) := fun h => by have := hF.out _ h; omega
      have HT2 : IsTy F ((w8.setCell ⟨w.heap.size + 1 + 1, 0, none⟩ (.slice t_pa t.binds.length t_pc)).setCell ⟨w.heap.size + 1 + 1, 1, none⟩ (.int .i64 d0)) (.slice t_pa t.binds.length t_pc) (.int .i64 d0) (.mk t.binds d0) :=
        (isTy_mk Hbi8.out d0).keep (((Keep.refl _ _).setCell ⟨w.heap.size + 1 + 1, 0, none⟩ _ hnF).setCell ⟨w.heap.size + 1 + 1, 1, none⟩ _ hnF)
      refine ⟨_, _, rfl, ?_, (B_w8.setCell (by simp; omega) _).setCell (by simp; omega) _⟩
      show IsTy _ _ _ _ (Ty.mk t.binds t0.base)
      rw [Hd0.out]
      exact HT2
end Go.Proofs.Ytejpgifofkiofaa

namespace Go.Proofs.Ytejpgifofkiofaa
open Go.RowKit

def sgn (x y : Int) : Int := if x < y then -1 else if y < x then 1 else 0
def orl (a b : Int) : Int := if a = 0 then b else a
def orls : List Int → Int
  | [] => 0
  | a :: l => orl a (orls l)
@[simp] theorem orl_zero (b : Int) : orl 0 b = b := by simp [orl]
@[simp] theorem orl_zero_right (a : Int) : orl a 0 = a := by unfold orl; split <;> simp_all
theorem orl_eq_zero {a b : Int} : orl a b = 0 ↔ a = 0 ∧ b = 0 := by unfold orl; split <;> simp_all
theorem orl_ne {a b : Int} (h : a ≠ 0) : orl a b = a := by simp [orl, h]
theorem orl_neg (a b : Int) : orl (-a) (-b) = - orl a b := by unfold orl; split <;> split <;> omega
theorem orl_assoc (a b c : Int) : orl (orl a b) c = orl a (orl b c) := by
  unfold orl
  by_cases h : a = 0 <;> simp [h]
theorem sgn_neg (x y : Int) : sgn y x = - sgn x y := by unfold sgn; split <;> split <;> (try split) <;> omega
theorem sgn_zero {x y : Int} : sgn x y = 0 ↔ x = y := by unfold sgn; constructor <;> intro h <;> (repeat split at h) <;> (repeat split) <;> omega
theorem sgn_range (x y : Int) : -1 ≤ sgn x y ∧ sgn x y ≤ 1 := by unfold sgn; repeat split <;> omega
theorem orl_range {a b : Int} (ha : -1 ≤ a ∧ a ≤ 1) (hb : -1 ≤ b ∧ b ≤ 1) : -1 ≤ orl a b ∧ orl a b ≤ 1 := by unfold orl; split <;> omega

def Tri (n m k : Int) : Prop := (n ≤ 0 → m ≤ 0 → k ≤ 0) ∧ (n < 0 → m ≤ 0 → k < 0) ∧ (n ≤ 0 → m < 0 → k < 0)
theorem tri_sgn (x y z : Int) : Tri (sgn x y) (sgn y z) (sgn x z) := by
  unfold Tri sgn
  refine ⟨?_, ?_, ?_⟩ <;> intro h1 h2 <;> (repeat split at h1) <;> (repeat split at h2) <;> (repeat split) <;> omega
theorem tri_orl {n m k n' m' k' : Int} (h : Tri n m k) (h' : n = 0 → m = 0 → k = 0 → Tri n' m' k') (h0 : n = 0 → m = 0 → k = 0) : Tri (orl n n') (orl m m') (orl k k') := by
  obtain ⟨h1, h2, h3⟩ := h
  unfold orl
  by_cases hn : n = 0
  · by_cases hm : m = 0
    · rw [if_pos hn, if_pos hm, if_pos (h0 hn hm)]
      exact h' hn hm (h0 hn hm)
    · rw [if_pos hn, if_neg hm]
      refine ⟨fun a b => ?_, fun a b => ?_, fun a b => ?_⟩ <;> split <;> omega
  · rw [if_neg hn]
    by_cases hm : m = 0
    · rw [if_pos hm]
      refine ⟨fun a b => ?_, fun a b => ?_, fun a b => ?_⟩ <;> split <;> omega
    · rw [if_neg hm]
      refine ⟨fun a b => ?_, fun a b => ?_, fun a b => ?_⟩ <;> split <;> omega

namespace Ty
mutual
def cmp : Ty → Ty → Int
  | .mk l b, .mk l' b' => orl (orl (orl (sgn (Ty.sizes l + 1 : Nat) (Ty.sizes l' + 1 : Nat)) (sgn (l.length : Nat) (l'.length : Nat))) (cmps l l')) (sgn b b')
def cmps : List Ty → List Ty → Int
  | [], _ => 0
  | _ :: _, [] => 0
  | t :: l, u :: l' => orl (cmp t u) (cmps l l')
end
theorem cmp_mk (l l' : List Ty) (b b' : Int) : cmp (.mk l b) (.mk l' b') = orl (orl (orl (sgn (size (.mk l b)) (size (.mk l' b'))) (sgn l.length l'.length)) (cmps l l')) (sgn b b') := by
  rw [cmp]; simp [size]
theorem cmps_cons (t u : Ty) (l l' : List Ty) : cmps (t :: l) (u :: l') = orl (cmp t u) (cmps l l') := by rw [cmps]
@[simp] theorem cmps_nil (l : List Ty) : cmps [] l = 0 := by rw [cmps]

theorem cmps_self_of {l : List Ty} (h : ∀ t ∈ l, cmp t t = 0) : cmps l l = 0 := by
  induction l with
  | nil => simp
  | cons t l ih => rw [cmps_cons, h t (by simp), ih fun u hu => h u (by simp [hu])]; simp
theorem cmp_self (t : Ty) : cmp t t = 0 := by
  induction t using Ty.ind with
  | h l b ih => rw [cmp_mk, cmps_self_of ih]; simp [sgn]
theorem cmps_zero_of {l : List Ty} (h : ∀ t ∈ l, ∀ u, cmp t u = 0 → t = u) : ∀ l', l.length = l'.length → cmps l l' = 0 → l = l' := by
  induction l with
  | nil => intro l' h1; cases l' <;> simp_all
  | cons t l ih =>
    intro l' h1 h2
    cases l' with
    | nil => simp at h1
    | cons u l' =>
      rw [cmps_cons, orl_eq_zero] at h2
      rw [h t (by simp) u h2.1, ih (fun u hu => h u (by simp [hu])) l' (by simpa using h1) h2.2]
theorem eq_of_cmp (t : Ty) : ∀ u, cmp t u = 0 → t = u := by
  induction t using Ty.ind with
  | h l b ih =>
    intro u h
    cases u with
    | mk l' b' =>
      rw [cmp_mk] at h
      simp only [orl_eq_zero, sgn_zero] at h
      rw [cmps_zero_of ih l' (by have := h.1.1.2; omega) h.1.2, h.2]
theorem cmp_zero (t u : Ty) : cmp t u = 0 ↔ t = u := ⟨eq_of_cmp t u, fun h => h ▸ cmp_self t⟩
theorem cmps_zero {l l' : List Ty} (h : l.length = l'.length) : cmps l l' = 0 ↔ l = l' :=
  ⟨cmps_zero_of (fun t _ => eq_of_cmp t) l' h, fun h => h ▸ cmps_self_of fun t _ => cmp_self t⟩
theorem cmps_neg_of {l : List Ty} (h : ∀ t ∈ l, ∀ u, cmp u t = - cmp t u) : ∀ l', cmps l' l = - cmps l l' := by
  induction l with
  | nil => intro l'; cases l' <;> simp [cmps]
  | cons t l ih =>
    intro l'
    cases l' with
    | nil => simp [cmps]
    | cons u l' => rw [cmps_cons, cmps_cons, h t (by simp), ih (fun u hu => h u (by simp [hu])), orl_neg]
theorem cmp_neg (t : Ty) : ∀ u, cmp u t = - cmp t u := by
  induction t using Ty.ind with
  | h l b ih =>
    intro u
    cases u with
    | mk l' b' => rw [cmp_mk, cmp_mk, cmps_neg_of ih, sgn_neg b b', sgn_neg (size (.mk l b)) _, sgn_neg l.length, orl_neg, orl_neg, orl_neg]
theorem cmps_neg (l l' : List Ty) : cmps l' l = - cmps l l' := cmps_neg_of (fun t _ => cmp_neg t) l'
theorem cmps_range_of {l : List Ty} (h : ∀ t ∈ l, ∀ u, -1 ≤ cmp t u ∧ cmp t u ≤ 1) : ∀ l', -1 ≤ cmps l l' ∧ cmps l l' ≤ 1 := by
  induction l with
  | nil => intro l'; simp
  | cons t l ih =>
    intro l'
    cases l' with
    | nil => simp [cmps]
    | cons u l' => rw [cmps_cons]; exact orl_range (h t (by simp) u) (ih (fun u hu => h u (by simp [hu])) l')
theorem cmp_range (t : Ty) : ∀ u, -1 ≤ cmp t u ∧ cmp t u ≤ 1 := by
  induction t using Ty.ind with
  | h l b ih =>
    intro u
    cases u with
    | mk l' b' => rw [cmp_mk]; exact orl_range (orl_range (orl_range (sgn_range _ _) (sgn_range _ _)) (cmps_range_of ih l')) (sgn_range _ _)
theorem cmps_range (l l' : List Ty) : -1 ≤ cmps l l' ∧ cmps l l' ≤ 1 := cmps_range_of (fun t _ => cmp_range t) l'
theorem tri_cmps_of {l : List Ty} (h : ∀ t ∈ l, ∀ u v, Tri (cmp t u) (cmp u v) (cmp t v)) : ∀ l' l'', l.length = l'.length → l'.length = l''.length → Tri (cmps l l') (cmps l' l'') (cmps l l'') := by
  induction l with
  | nil =>
    intro l' l'' h1 h2
    have e1 : l' = [] := by cases l' with
      | nil => rfl
      | cons => simp at h1
    subst e1
    unfold Tri; simp
  | cons t l ih =>
    intro l' l'' h1 h2
    match l', l'' with
    | u :: l', v :: l'' =>
      rw [cmps_cons, cmps_cons, cmps_cons]
      refine tri_orl (h t (by simp) u v) (fun _ _ _ => ih (fun u hu => h u (by simp [hu])) l' l'' (by simpa using h1) (by simpa using h2)) fun h3 h4 => ?_
      rw [cmp_zero] at *; rw [h3, h4]
theorem tri_cmp (t : Ty) : ∀ u v, Tri (cmp t u) (cmp u v) (cmp t v) := by
  induction t using Ty.ind with
  | h l b ih =>
    intro u v
    cases u with
    | mk l' b' =>
      cases v with
      | mk l'' b'' =>
        rw [cmp_mk, cmp_mk, cmp_mk]
        have hz := fun (x y z : Int) => (show sgn x y = 0 → sgn y z = 0 → sgn x z = 0 by simp only [sgn_zero]; intro h h'; rw [h, h'])
        have h2 : ∀ {x y z x' y' z' : Int}, orl (sgn x y) (sgn x' y') = 0 → orl (sgn y z) (sgn y' z') = 0 → orl (sgn x z) (sgn x' z') = 0 := by
          intro x y z x' y' z' h1 h2
          simp only [orl_eq_zero, sgn_zero] at *
          omega
        refine tri_orl (tri_orl (tri_orl (tri_sgn _ _ _) (fun _ _ _ => tri_sgn _ _ _) (hz _ _ _)) (fun h3 h4 _ => ?_) h2) (fun _ _ _ => tri_sgn _ _ _) fun h3 h4 => ?_
        · simp only [orl_eq_zero, sgn_zero] at h3 h4
          exact tri_cmps_of ih l' l'' (by omega) (by omega)
        · have h5 := orl_eq_zero.1 h3
          have h6 := orl_eq_zero.1 h4
          refine orl_eq_zero.2 ⟨h2 h5.1 h6.1, ?_⟩
          have h7 := h5.1; have h8 := h6.1
          simp only [orl_eq_zero, sgn_zero] at h7 h8
          rw [(cmps_zero (by omega)).1 h5.2]; exact h6.2
end Ty
end Go.Proofs.Ytejpgifofkiofaa

namespace Go.Proofs.Ytejpgifofkiofaa
open Go.RowKit

namespace Tm
def cmpB (l l' : List Ty) : Int := orl (sgn (l.length : Nat) (l'.length : Nat)) (Ty.cmps l l')
mutual
def cmp : Tm → Tm → Int
  | .mk b k i a, .mk b' k' i' a' => orl (sgn (Tm.sizes a + 1 : Nat) (Tm.sizes a' + 1 : Nat)) (orl (cmpB b b') (orl (sgn k k') (orl (sgn i i') (orl (sgn (a.length : Nat) (a'.length : Nat)) (cmps a a')))))
def cmps : List Tm → List Tm → Int
  | [], _ => 0
  | _ :: _, [] => 0
  | t :: l, u :: l' => orl (cmp t u) (cmps l l')
end
theorem cmp_mk (b : List Ty) (k i : Int) (a : List Tm) (b' : List Ty) (k' i' : Int) (a' : List Tm) : cmp (.mk b k i a) (.mk b' k' i' a') = orl (sgn (size (.mk b k i a)) (size (.mk b' k' i' a'))) (orl (cmpB b b') (orl (sgn k k') (orl (sgn i i') (orl (sgn a.length a'.length) (cmps a a'))))) := by
  rw [cmp]; simp [size]
theorem cmps_cons (t u : Tm) (l l' : List Tm) : cmps (t :: l) (u :: l') = orl (cmp t u) (cmps l l') := by rw [cmps]
@[simp] theorem cmps_nil (l : List Tm) : cmps [] l = 0 := by rw [cmps]
theorem cmpB_self (l : List Ty) : cmpB l l = 0 := by
  rw [cmpB, orl_eq_zero]; exact ⟨sgn_zero.2 rfl, (Ty.cmps_zero rfl).2 rfl⟩
theorem cmpB_zero {l l' : List Ty} : cmpB l l' = 0 ↔ l = l' := by
  constructor
  · intro h
    rw [cmpB, orl_eq_zero, sgn_zero] at h
    exact (Ty.cmps_zero (by omega)).1 h.2
  · rintro rfl; exact cmpB_self l
theorem cmpB_neg (l l' : List Ty) : cmpB l' l = - cmpB l l' := by rw [cmpB, cmpB, ← orl_neg, Ty.cmps_neg, sgn_neg (l.length : Int)]
theorem cmps_self_of {l : List Tm} (h : ∀ t ∈ l, cmp t t = 0) : cmps l l = 0 := by
  induction l with
  | nil => simp
  | cons t l ih => rw [cmps_cons, h t (by simp), ih fun u hu => h u (by simp [hu])]; simp
theorem cmp_self (t : Tm) : cmp t t = 0 := by
  induction t using Tm.ind with
  | h b k i a ih => rw [cmp_mk, cmps_self_of ih, cmpB_self]; simp [sgn]
theorem cmps_zero_of {l : List Tm} (h : ∀ t ∈ l, ∀ u, cmp t u = 0 → t = u) : ∀ l', l.length = l'.length → cmps l l' = 0 → l = l' := by
  induction l with
  | nil => intro l' h1; cases l' <;> simp_all
  | cons t l ih =>
    intro l' h1 h2
    cases l' with
    | nil => simp at h1
    | cons u l' =>
      rw [cmps_cons, orl_eq_zero] at h2
      rw [h t (by simp) u h2.1, ih (fun u hu => h u (by simp [hu])) l' (by simpa using h1) h2.2]
theorem eq_of_cmp (t : Tm) : ∀ u, cmp t u = 0 → t = u := by
  induction t using Tm.ind with
  | h b k i a ih =>
    intro u h
    cases u with
    | mk b' k' i' a' =>
      rw [cmp_mk] at h
      simp only [orl_eq_zero, sgn_zero, cmpB_zero] at h
      obtain ⟨_, rfl, rfl, rfl, h1, h2⟩ := h
      rw [cmps_zero_of ih a' (by omega) h2]
theorem cmp_zero (t u : Tm) : cmp t u = 0 ↔ t = u := ⟨eq_of_cmp t u, fun h => h ▸ cmp_self t⟩
theorem cmps_neg_of {l : List Tm} (h : ∀ t ∈ l, ∀ u, cmp u t = - cmp t u) : ∀ l', cmps l' l = - cmps l l' := by
  induction l with
  | nil => intro l'; cases l' <;> simp [cmps]
  | cons t l ih =>
    intro l'
    cases l' with
    | nil => simp [cmps]
    | cons u l' => rw [cmps_cons, cmps_cons, h t (by simp), ih (fun u hu => h u (by simp [hu])), orl_neg]
theorem cmp_neg (t : Tm) : ∀ u, cmp u t = - cmp t u := by
  induction t using Tm.ind with
  | h b k i a ih =>
    intro u
    cases u with
    | mk b' k' i' a' => rw [cmp_mk, cmp_mk, cmps_neg_of ih, cmpB_neg, sgn_neg k, sgn_neg i, sgn_neg (size (.mk b k i a)) _, sgn_neg a.length, orl_neg, orl_neg, orl_neg, orl_neg, orl_neg]
theorem cmpB_range (l l' : List Ty) : -1 ≤ cmpB l l' ∧ cmpB l l' ≤ 1 := orl_range (sgn_range _ _) (Ty.cmps_range l l')
theorem cmps_range_of {l : List Tm} (h : ∀ t ∈ l, ∀ u, -1 ≤ cmp t u ∧ cmp t u ≤ 1) : ∀ l', -1 ≤ cmps l l' ∧ cmps l l' ≤ 1 := by
  induction l with
  | nil => intro l'; simp
  | cons t l ih =>
    intro l'
    cases l' with
    | nil => simp [cmps]
    | cons u l' => rw [cmps_cons]; exact orl_range (h t (by simp) u) (ih (fun u hu => h u (by simp [hu])) l')
theorem cmp_range (t : Tm) : ∀ u, -1 ≤ cmp t u ∧ cmp t u ≤ 1 := by
  induction t using Tm.ind with
  | h b k i a ih =>
    intro u
    cases u with
    | mk b' k' i' a' => rw [cmp_mk]; exact orl_range (sgn_range _ _) (orl_range (cmpB_range _ _) (orl_range (sgn_range _ _) (orl_range (sgn_range _ _) (orl_range (sgn_range _ _) (cmps_range_of ih a')))))
theorem cmps_drop {l l' : List Tm} {k : Nat} (h : k < l.length) (h' : k < l'.length) : cmps (l.drop k) (l'.drop k) = orl (cmp l[k] l'[k]) (cmps (l.drop (k + 1)) (l'.drop (k + 1))) := by
  rw [List.drop_eq_getElem_cons h, List.drop_eq_getElem_cons h', cmps_cons]
end Tm
end Go.Proofs.Ytejpgifofkiofaa

