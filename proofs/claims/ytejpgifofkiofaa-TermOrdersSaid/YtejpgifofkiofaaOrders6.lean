/-
  The law TermOrders, stepped through.
-/
import Derived.Test.YtejpgifofkiofaaKnown06
import Derived.Test.YtejpgifofkiofaaEtas
import Derived.Test.YtejpgifofkiofaaCmpK6
import Derived.Test.YtejpgifofkiofaaCmpR6
import Derived.Test.YtejpgifofkiofaaEqualK6
import Derived.Test.YtejpgifofkiofaaPhi
namespace Go.Proofs.Ytejpgifofkiofaa
open Go.RowKit

theorem isSl_two6 {w : World} {B : Nat} {E : TypeId} {b k i a b' k' i' a' : Value} {t u : Tm} (hB : Blk w B #[b, k, i, a, b', k', i', a'] E) (ht : IsTm (fun _ => True) w b k i a t) (hu : IsTm (fun _ => True) w b' k' i' a' u) : IsSl rpTm (fun _ => True) w (.slice (some ⟨B, 0, none⟩) 2 2) [t, u] :=
  isSl_blk (r := rpTm) (l := [t, u]) [[b, k, i, a], [b', k', i', a']] hB rfl rfl (by simp [maxLen]) (fun j hj => by
    match j, hj with
    | 0, _ => exact ⟨_, rfl, _, _, _, _, rfl, ht⟩
    | 1, _ => exact ⟨_, rfl, _, _, _, _, rfl, hu⟩)

set_option maxRecDepth 100000 in
set_option maxHeartbeats 8000000 in
theorem termOrders_walk {w : World} {tb tk ti ta ub uk ui ua : Value} {t u : Tm} (ht : IsTm (fun _ => True) w tb tk ti ta t) (hu : IsTm (fun _ => True) w ub uk ui ua u) :
    Calls Try.prog 8 #[.agg #[tb, tk, ti, ta], .agg #[ub, uk, ui, ua]] w fun e w' => e = .returned (.bool true) ∧ Below w.heap.size w w' := by
  obtain ⟨t_pa, t_pc, t_qa, t_qc, rfl, rfl, rfl, rfl⟩ := ht.shape
  obtain ⟨t_n, ht_n⟩ : ∃ x, t.binds.length = x := ⟨_, rfl⟩
  obtain ⟨t_m, ht_m⟩ : ∃ x, t.args.length = x := ⟨_, rfl⟩
  obtain ⟨t_k, ht_k⟩ : ∃ x, t.kind = x := ⟨_, rfl⟩
  obtain ⟨t_i, ht_i⟩ : ∃ x, t.index = x := ⟨_, rfl⟩
  rw [ht_n, ht_m, ht_k, ht_i] at ht ⊢
  have Et_n := Lib.hid ht_n
  have Et_m := Lib.hid ht_m
  have Et_k := Lib.hid ht_k
  have Et_i := Lib.hid ht_i
  clear ht_n ht_m ht_k ht_i
  obtain ⟨u_pa, u_pc, u_qa, u_qc, rfl, rfl, rfl, rfl⟩ := hu.shape
  obtain ⟨u_n, hu_n⟩ : ∃ x, u.binds.length = x := ⟨_, rfl⟩
  obtain ⟨u_m, hu_m⟩ : ∃ x, u.args.length = x := ⟨_, rfl⟩
  obtain ⟨u_k, hu_k⟩ : ∃ x, u.kind = x := ⟨_, rfl⟩
  obtain ⟨u_i, hu_i⟩ : ∃ x, u.index = x := ⟨_, rfl⟩
  rw [hu_n, hu_m, hu_k, hu_i] at hu ⊢
  have Eu_n := Lib.hid hu_n
  have Eu_m := Lib.hid hu_m
  have Eu_k := Lib.hid hu_k
  have Eu_i := Lib.hid hu_i
  clear hu_n hu_m hu_k hu_i
  have Ht := Lib.hid ht; have Hu := Lib.hid hu
  clear ht hu
  go_enter Try.func8, Try.ntmps8
  go_wp2_with fail
  obtain ⟨w4, hw4⟩ : ∃ w4, ((w.alloc (.cells #[.slice t_pa t_n t_pc, .int .i64 t_k, .int .i64 t_i, .slice t_qa t_m t_qc] 29)).alloc (.cells #[.slice u_pa u_n u_pc, .int .i64 u_k, .int .i64 u_i, .slice u_qa u_m u_qc] 29)).alloc (.cells #[.slice t_pa t_n t_pc, .int .i64 t_k, .int .i64 t_i, .slice t_qa t_m t_qc, .slice u_pa u_n u_pc, .int .i64 u_k, .int .i64 u_i, .slice u_qa u_m u_qc] 29) = w4 := ⟨_, rfl⟩
  have B_w4 : Below w.heap.size w w4 := by rw [← hw4]; exact (((Below.refl _ _).alloc (Nat.le_refl _) _).alloc (by simp) _).alloc (by simp; omega) _
  have x1_w4 : Blk w4 w.heap.size #[.slice t_pa t_n t_pc, .int .i64 t_k, .int .i64 t_i, .slice t_qa t_m t_qc] 29 := by rw [← hw4]; exact ((Blk.new _ _ _ rfl).alloc _).alloc _
  have x2_w4 : Blk w4 (w.heap.size + 1) #[.slice u_pa u_n u_pc, .int .i64 u_k, .int .i64 u_i, .slice u_qa u_m u_qc] 29 := by rw [← hw4]; exact (Blk.new _ _ _ (by simp)).alloc _
  have xv : Blk w4 (w.heap.size + 1 + 1) #[.slice t_pa t_n t_pc, .int .i64 t_k, .int .i64 t_i, .slice t_qa t_m t_qc, .slice u_pa u_n u_pc, .int .i64 u_k, .int .i64 u_i, .slice u_qa u_m u_qc] 29 := by rw [← hw4]; exact Blk.new _ _ _ (by simp)
  try rw [hw4]
  clear hw4
  have T_w4 := Lib.hid (Ht.out.bel B_w4)
  have U_w4 := Lib.hid (Hu.out.bel B_w4)
  clear Ht Hu
  refine (few06 (isSl_two6 xv T_w4.out U_w4.out) (by simp)).mono ?_
  intro e w5 h
  obtain ⟨r, Hr, rfl, hbx⟩ := h
  clear xv
  have x1_w5 := x1_w4.below hbx
  have x2_w5 := x2_w4.below hbx
  have T_w5 := Lib.hid (T_w4.out.bel hbx)
  have U_w5 := Lib.hid (U_w4.out.bel hbx)
  have B_w5 := B_w4.trans (hbx.mono B_w4.size)
  clear x1_w4 x2_w4 T_w4 U_w4 B_w4 hbx
  cases r
  · clear Hr
    go_wp2_with fail
    refine (known06 w5).mono ?_
    rintro e wk ⟨rfl, hbk⟩
    go_wp2_with fail
    go_ret
    exact ⟨rfl, B_w5.trans (hbk.mono B_w5.size)⟩
  have Hf := Lib.hid ((Hr.out rfl) t (by simp))
  have Hg := Lib.hid ((Hr.out rfl) u (by simp))
  clear Hr
  have cx10 : w5.cell? ⟨w.heap.size, 0, none⟩ = some (.slice t_pa t_n t_pc) := x1_w5.cell rfl
  have cx11 : w5.cell? ⟨w.heap.size, 1, none⟩ = some (.int .i64 t_k) := x1_w5.cell rfl
  have cx12 : w5.cell? ⟨w.heap.size, 2, none⟩ = some (.int .i64 t_i) := x1_w5.cell rfl
  have cx13 : w5.cell? ⟨w.heap.size, 3, none⟩ = some (.slice t_qa t_m t_qc) := x1_w5.cell rfl
  have lx1 := x1_w5.lt
  have cx20 : w5.cell? ⟨w.heap.size + 1, 0, none⟩ = some (.slice u_pa u_n u_pc) := x2_w5.cell rfl
  have cx21 : w5.cell? ⟨w.heap.size + 1, 1, none⟩ = some (.int .i64 u_k) := x2_w5.cell rfl
  have cx22 : w5.cell? ⟨w.heap.size + 1, 2, none⟩ = some (.int .i64 u_i) := x2_w5.cell rfl
  have cx23 : w5.cell? ⟨w.heap.size + 1, 3, none⟩ = some (.slice u_qa u_m u_qc) := x2_w5.cell rfl
  have lx2 := x2_w5.lt
  go_wp2_with fail
  clear cx10 cx11 cx12 cx13 lx1 cx20 cx21 cx22 cx23 lx2
  refine wp_region_noPanic (wp_region_need (S := fun w' => w'.cell? ⟨w.heap.size, 0, none⟩ = some (.slice t_pa t_n t_pc) ∧ w'.cell? ⟨w.heap.size, 1, none⟩ = some (.int .i64 t_k) ∧ w'.cell? ⟨w.heap.size, 2, none⟩ = some (.int .i64 t_i) ∧ w'.cell? ⟨w.heap.size, 3, none⟩ = some (.slice t_qa t_m t_qc) ∧ w'.cell? ⟨w.heap.size + 1, 0, none⟩ = some (.slice u_pa u_n u_pc) ∧ w'.cell? ⟨w.heap.size + 1, 1, none⟩ = some (.int .i64 u_k) ∧ w'.cell? ⟨w.heap.size + 1, 2, none⟩ = some (.int .i64 u_i) ∧ w'.cell? ⟨w.heap.size + 1, 3, none⟩ = some (.slice u_qa u_m u_qc)) (by kernel_rfl) ?_)
  have hS : (w5.drew).cell? ⟨w.heap.size, 0, none⟩ = some (.slice t_pa t_n t_pc) ∧ (w5.drew).cell? ⟨w.heap.size, 1, none⟩ = some (.int .i64 t_k) ∧ (w5.drew).cell? ⟨w.heap.size, 2, none⟩ = some (.int .i64 t_i) ∧ (w5.drew).cell? ⟨w.heap.size, 3, none⟩ = some (.slice t_qa t_m t_qc) ∧ (w5.drew).cell? ⟨w.heap.size + 1, 0, none⟩ = some (.slice u_pa u_n u_pc) ∧ (w5.drew).cell? ⟨w.heap.size + 1, 1, none⟩ = some (.int .i64 u_k) ∧ (w5.drew).cell? ⟨w.heap.size + 1, 2, none⟩ = some (.int .i64 u_i) ∧ (w5.drew).cell? ⟨w.heap.size + 1, 3, none⟩ = some (.slice u_qa u_m u_qc) := ⟨x1_w5.drew.cell rfl, x1_w5.drew.cell rfl, x1_w5.drew.cell rfl, x1_w5.drew.cell rfl, x2_w5.drew.cell rfl, x2_w5.drew.cell rfl, x2_w5.drew.cell rfl, x2_w5.drew.cell rfl⟩
  refine wpN_take (i := 0) (v := ?v1) rfl (by kernel_rfl) (fun _ _ _ h => h) hS (Or.inl ⟨by rfl, ?hy1⟩) ?hr1
  case hy1 => (intro wS hSw; (try dsimp only at hSw); go_simp; (try with_reducible rfl))
  try simp only [Act.put, List.setIfInBounds_toArray, List.set_cons_zero, List.set_cons_succ, List.getElem_toArray, List.getElem_cons_zero, List.getElem_cons_succ]
  refine wpN_takeD [3, 6, 7] (i := 2) (v := ?v2) rfl (by kernel_rfl) (fun _ _ _ h => h) hS (Or.inl ⟨by rfl, ?hy2⟩) ?hr2
  case hy2 => (intro wS hSw; (try dsimp only at hSw); go_simp; (try with_reducible rfl))
  try simp only [Act.put, List.setIfInBounds_toArray, List.set_cons_zero, List.set_cons_succ, List.getElem_toArray, List.getElem_cons_zero, List.getElem_cons_succ]
  refine wpN_gathersP [(1, 15), (3, 17), (4, 5), (5, 6)] 2 (PhiL [(1, phiTm t), (3, phiTm u), (4, phiBlk #[.slice none 0 0, .int .i64 0, .int .i64 0, .slice none 0 0] 37), (5, phiBlk #[.slice none 0 0, .int .i64 0, .int .i64 0, .slice none 0 0] 37)]) (fun _ _ => True) rfl rfl (by kernel_rfl) phiL_below (fun _ _ _ _ _ _ => trivial) hS ?gop ?gend
  case gop =>
    intro xG hx uG w' hdG hB' hS'
    obtain ⟨q1, q2, q3, q4, q5, q6, q7, q8⟩ := hS'
    have hbw : Below w5.heap.size w5 w' := (Below.refl _ _).drew.trans hB'
    simp only [List.mem_cons, List.not_mem_nil, or_false] at hx
    rcases hx with rfl | rfl | rfl | rfl
    · skip
      clear hdG
      refine wpOp_step (i := 1) rfl (fun K hK => ?_)
      have hK := Lib.hid hK
      simp only [fills, List.foldl, Act.put, List.setIfInBounds_toArray, List.set_cons_zero, List.set_cons_succ, List.getElem_toArray, List.getElem_cons_zero, List.getElem_cons_succ]
      go_simp
      refine (to6_any (T_w5.out.bel hbw) w' (by have := Hf.out; omega) (Keep.refl _ _)).mono ?_
      intro e w6 h
      obtain ⟨_, _, _, _, rfl, hT, hb6⟩ := h
      have hKp : Keep (fun _ => True) w' w6 := (Keep.refl _ _).below hb6
      exact hK.out _ _ ⟨_, rfl, phiL_mk rfl ⟨_, _, _, _, rfl, hT.weaken fun _ h1 h2 => ⟨h2, h1⟩⟩, trivial, hb6, hKp _ _ _ trivial q1, hKp _ _ _ trivial q2, hKp _ _ _ trivial q3, hKp _ _ _ trivial q4, hKp _ _ _ trivial q5, hKp _ _ _ trivial q6, hKp _ _ _ trivial q7, hKp _ _ _ trivial q8⟩
    · skip
      clear hdG
      refine wpOp_step (i := 3) rfl (fun K hK => ?_)
      have hK := Lib.hid hK
      simp only [fills, List.foldl, Act.put, List.setIfInBounds_toArray, List.set_cons_zero, List.set_cons_succ, List.getElem_toArray, List.getElem_cons_zero, List.getElem_cons_succ]
      go_simp
      refine (to6_any (U_w5.out.bel hbw) w' (by have := Hg.out; omega) (Keep.refl _ _)).mono ?_
      intro e w6 h
      obtain ⟨_, _, _, _, rfl, hT, hb6⟩ := h
      have hKp : Keep (fun _ => True) w' w6 := (Keep.refl _ _).below hb6
      exact hK.out _ _ ⟨_, rfl, phiL_mk rfl ⟨_, _, _, _, rfl, hT.weaken fun _ h1 h2 => ⟨h2, h1⟩⟩, trivial, hb6, hKp _ _ _ trivial q1, hKp _ _ _ trivial q2, hKp _ _ _ trivial q3, hKp _ _ _ trivial q4, hKp _ _ _ trivial q5, hKp _ _ _ trivial q6, hKp _ _ _ trivial q7, hKp _ _ _ trivial q8⟩
    · skip
      clear hdG
      refine wpOp_step (i := 4) rfl (fun K hK => ?_)
      have hK := Lib.hid hK
      simp only [fills, List.foldl, Act.put, List.setIfInBounds_toArray, List.set_cons_zero, List.set_cons_succ, List.getElem_toArray, List.getElem_cons_zero, List.getElem_cons_succ]
      go_simp
      have hb6 : Below w'.heap.size w' (w'.alloc (.cells #[.slice none 0 0, .int .i64 0, .int .i64 0, .slice none 0 0] 37)) := (Below.refl _ _).alloc (Nat.le_refl _) _
      have hKp : Keep (fun _ => True) w' (w'.alloc (.cells #[.slice none 0 0, .int .i64 0, .int .i64 0, .slice none 0 0] 37)) := (Keep.refl _ _).below hb6
      exact hK.out _ _ ⟨_, rfl, phiL_mk rfl ⟨rfl, by simp, Blk.new _ _ _ rfl⟩, trivial, hb6, hKp _ _ _ trivial q1, hKp _ _ _ trivial q2, hKp _ _ _ trivial q3, hKp _ _ _ trivial q4, hKp _ _ _ trivial q5, hKp _ _ _ trivial q6, hKp _ _ _ trivial q7, hKp _ _ _ trivial q8⟩
    · skip
      clear hdG
      refine wpOp_step (i := 5) rfl (fun K hK => ?_)
      have hK := Lib.hid hK
      simp only [fills, List.foldl, Act.put, List.setIfInBounds_toArray, List.set_cons_zero, List.set_cons_succ, List.getElem_toArray, List.getElem_cons_zero, List.getElem_cons_succ]
      go_simp
      have hb6 : Below w'.heap.size w' (w'.alloc (.cells #[.slice none 0 0, .int .i64 0, .int .i64 0, .slice none 0 0] 37)) := (Below.refl _ _).alloc (Nat.le_refl _) _
      have hKp : Keep (fun _ => True) w' (w'.alloc (.cells #[.slice none 0 0, .int .i64 0, .int .i64 0, .slice none 0 0] 37)) := (Keep.refl _ _).below hb6
      exact hK.out _ _ ⟨_, rfl, phiL_mk rfl ⟨rfl, by simp, Blk.new _ _ _ rfl⟩, trivial, hb6, hKp _ _ _ trivial q1, hKp _ _ _ trivial q2, hKp _ _ _ trivial q3, hKp _ _ _ trivial q4, hKp _ _ _ trivial q5, hKp _ _ _ trivial q6, hKp _ _ _ trivial q7, hKp _ _ _ trivial q8⟩
  case gend =>
    intro uG loG hiG w' hΦ _ hB' hS'
    have hbw : Below w5.heap.size w5 w' := (Below.refl _ _).drew.trans hB'
    have hsz : w5.drew.heap.size = w5.heap.size := rfl
    have hsB := B_w5.size
    obtain ⟨g1, n1, m1, o1⟩ := hΦ.1 1 (by simp) rfl
    obtain ⟨_, _, _, _, e1, V1⟩ := phiL_at rfl g1
    obtain ⟨X_pa, X_pc, X_qa, X_qc, rfl, rfl, rfl, rfl⟩ := V1.shape
    rw [Et_n.out, Et_m.out, Et_k.out, Et_i.out] at V1 e1
    obtain ⟨g3, n3, m3, o3⟩ := hΦ.1 3 (by simp) rfl
    obtain ⟨_, _, _, _, e3, V3⟩ := phiL_at rfl g3
    obtain ⟨Y_pa, Y_pc, Y_qa, Y_qc, rfl, rfl, rfl, rfl⟩ := V3.shape
    rw [Eu_n.out, Eu_m.out, Eu_k.out, Eu_i.out] at V3 e3
    obtain ⟨g4, n4, m4, o4⟩ := hΦ.1 4 (by simp) rfl
    obtain ⟨e4, r4, Z4⟩ := phiL_at rfl g4
    obtain ⟨g5, n5, m5, o5⟩ := hΦ.1 5 (by simp) rfl
    obtain ⟨e5, r5, Z5⟩ := phiL_at rfl g5
    have k1_4 := hΦ.2 1 (by simp) 4 (by simp) rfl rfl (by decide)
    have k3_4 := hΦ.2 3 (by simp) 4 (by simp) rfl rfl (by decide)
    have k5_4 := hΦ.2 5 (by simp) 4 (by simp) rfl rfl (by decide)
    have k1_5 := hΦ.2 1 (by simp) 5 (by simp) rfl rfl (by decide)
    have k3_5 := hΦ.2 3 (by simp) 5 (by simp) rfl rfl (by decide)
    clear hΦ g1 g3 g4 g5
    simp only [fills, List.foldl, Act.put, List.setIfInBounds_toArray, List.set_cons_zero, List.set_cons_succ, List.getElem_toArray, List.getElem_cons_zero, List.getElem_cons_succ]
    rw [e1, e3, e4, e5]
    clear e1 e3 e4 e5
    rw [hsz] at n1 n3 n4 n5
    generalize loG 4 = p at *
    generalize loG 5 = q at *
    have Dpq : p ≠ q := by omega
    have Dqp : q ≠ p := by omega
    have U1 := Lib.hid (V1.weaken (F' := fun z => z ≠ p ∧ z ≠ q) fun z _ h => ⟨by omega, by omega⟩)
    have U3 := Lib.hid (V3.weaken (F' := fun z => z ≠ p ∧ z ≠ q) fun z _ h => ⟨by omega, by omega⟩)
    clear V1 V3 k1_4 k3_4 k5_4 k1_5 k3_5
    have rp_0 : w'.cell? ⟨p, 0, none⟩ = some (.slice none 0 0) := Z4.cell rfl
    have fp_0 := Z4.free 0
    have rp_1 : w'.cell? ⟨p, 1, none⟩ = some (.int .i64 0) := Z4.cell rfl
    have fp_1 := Z4.free 1
    have rp_2 : w'.cell? ⟨p, 2, none⟩ = some (.int .i64 0) := Z4.cell rfl
    have fp_2 := Z4.free 2
    have rp_3 : w'.cell? ⟨p, 3, none⟩ = some (.slice none 0 0) := Z4.cell rfl
    have fp_3 := Z4.free 3
    have rq_0 : w'.cell? ⟨q, 0, none⟩ = some (.slice none 0 0) := Z5.cell rfl
    have fq_0 := Z5.free 0
    have rq_1 : w'.cell? ⟨q, 1, none⟩ = some (.int .i64 0) := Z5.cell rfl
    have fq_1 := Z5.free 1
    have rq_2 : w'.cell? ⟨q, 2, none⟩ = some (.int .i64 0) := Z5.cell rfl
    have fq_2 := Z5.free 2
    have rq_3 : w'.cell? ⟨q, 3, none⟩ = some (.slice none 0 0) := Z5.cell rfl
    have fq_3 := Z5.free 3
    refine wpN_step (i := 6) (by kernel_rfl) rfl (fun K hK => ?_)
    have hK := Lib.hid hK
    simp only [Act.put, List.setIfInBounds_toArray, List.set_cons_zero, List.set_cons_succ, List.getElem_toArray, List.getElem_cons_zero, List.getElem_cons_succ]
    go_simp
    refine hK.out.out _ _ (fun h => absurd h (by decide)) ?_
    refine wpN_step (i := 7) (by kernel_rfl) rfl (fun K hK => ?_)
    have hK := Lib.hid hK
    simp only [Act.put, List.setIfInBounds_toArray, List.set_cons_zero, List.set_cons_succ, List.getElem_toArray, List.getElem_cons_zero, List.getElem_cons_succ]
    go_simp
    refine hK.out.out _ _ (fun h => absurd h (by decide)) ?_
    refine wpN_done (by kernel_rfl) ?_
    refine NoPanic.normal ?_
    obtain ⟨w8, hw8⟩ : ∃ x, ((((((((w'.setCell ⟨p, 0, none⟩ (.slice X_pa t_n X_pc)).setCell ⟨p, 1, none⟩ (.int .i64 t_k)).setCell ⟨p, 2, none⟩ (.int .i64 t_i)).setCell ⟨p, 3, none⟩ (.slice X_qa t_m X_qc)).setCell ⟨q, 0, none⟩ (.slice Y_pa u_n Y_pc)).setCell ⟨q, 1, none⟩ (.int .i64 u_k)).setCell ⟨q, 2, none⟩ (.int .i64 u_i)).setCell ⟨q, 3, none⟩ (.slice Y_qa u_m Y_qc)) = x := ⟨_, rfl⟩
    rw [hw8]
    have Lx1 := x1_w5.lt
    have Lx2 := x2_w5.lt
    have B6 := B_w5.trans (hbw.mono B_w5.size)
    have x1_w8 : Blk w8 (w.heap.size) #[.slice t_pa t_n t_pc, .int .i64 t_k, .int .i64 t_i, .slice t_qa t_m t_qc] 29 := by rw [← hw8]; exact ((((((((x1_w5.below hbw).far _ _ (by simp; omega)).far _ _ (by simp; omega)).far _ _ (by simp; omega)).far _ _ (by simp; omega)).far _ _ (by simp; omega)).far _ _ (by simp; omega)).far _ _ (by simp; omega)).far _ _ (by simp; omega)
    have x2_w8 : Blk w8 (w.heap.size + 1) #[.slice u_pa u_n u_pc, .int .i64 u_k, .int .i64 u_i, .slice u_qa u_m u_qc] 29 := by rw [← hw8]; exact ((((((((x2_w5.below hbw).far _ _ (by simp; omega)).far _ _ (by simp; omega)).far _ _ (by simp; omega)).far _ _ (by simp; omega)).far _ _ (by simp; omega)).far _ _ (by simp; omega)).far _ _ (by simp; omega)).far _ _ (by simp; omega)
    have yp_w8 : Blk w8 p #[.slice X_pa t_n X_pc, .int .i64 t_k, .int .i64 t_i, .slice X_qa t_m X_qc] 37 := by rw [← hw8]; exact ((((((((Z4).set 0 _).set 1 _).set 2 _).set 3 _).far _ _ (by simpa using Dpq)).far _ _ (by simpa using Dpq)).far _ _ (by simpa using Dpq)).far _ _ (by simpa using Dpq)
    have np : w5.heap.size ≤ p := n4
    have yq_w8 : Blk w8 q #[.slice Y_pa u_n Y_pc, .int .i64 u_k, .int .i64 u_i, .slice Y_qa u_m Y_qc] 37 := by rw [← hw8]; exact ((((((((Z5).far _ _ (by simpa using Dqp)).far _ _ (by simpa using Dqp)).far _ _ (by simpa using Dqp)).far _ _ (by simpa using Dqp)).set 0 _).set 1 _).set 2 _).set 3 _
    have nq : w5.heap.size ≤ q := n5
    have KU : Keep (fun z => z ≠ p ∧ z ≠ q) w' w8 := by rw [← hw8]; exact ((((((((Keep.refl _ _).setCell _ _ (by simp)).setCell _ _ (by simp)).setCell _ _ (by simp)).setCell _ _ (by simp)).setCell _ _ (by simp)).setCell _ _ (by simp)).setCell _ _ (by simp)).setCell _ _ (by simp)
    have KT : Keep (fun z => z < w5.heap.size) w5 w8 := by rw [← hw8]; exact (((((((((Keep.refl _ _).below hbw).setCell _ _ (by simp; omega)).setCell _ _ (by simp; omega)).setCell _ _ (by simp; omega)).setCell _ _ (by simp; omega)).setCell _ _ (by simp; omega)).setCell _ _ (by simp; omega)).setCell _ _ (by simp; omega)).setCell _ _ (by simp; omega)
    have B_w8 : Below w.heap.size w w8 := by rw [← hw8]; exact ((((((((B6).setCell (by simp; omega) _).setCell (by simp; omega) _).setCell (by simp; omega) _).setCell (by simp; omega) _).setCell (by simp; omega) _).setCell (by simp; omega) _).setCell (by simp; omega) _).setCell (by simp; omega) _
    have X_w8 := Lib.hid ((U1.out.keep KU).weaken (F' := fun _ => True) fun _ _ _ => trivial)
    have Y_w8 := Lib.hid ((U3.out.keep KU).weaken (F' := fun _ => True) fun _ _ _ => trivial)
    have T_w8 := Lib.hid (((T_w5.out.weaken (F' := fun z => z < w5.heap.size) fun z hz _ => hz).keep KT).weaken (F' := fun _ => True) fun _ _ _ => trivial)
    have U_w8 := Lib.hid (((U_w5.out.weaken (F' := fun z => z < w5.heap.size) fun z hz _ => hz).keep KT).weaken (F' := fun _ => True) fun _ _ _ => trivial)
    clear hw8 KU KT U1 U3 x1_w5 x2_w5 T_w5 U_w5 B_w5 Z4 Z5 rp_0 fp_0 rp_1 fp_1 rp_2 fp_2 rp_3 fp_3 rq_0 fq_0 rq_1 fq_1 rq_2 fq_2 rq_3 fq_3 Lx1 Lx2 hbw hB' B6 hS hS' hsz hsB Dpq Dqp n1 n3 n4 n5 m1 m3 m4 m5 o1 o3 o4 o5 r4 r5
    have Hnm := Lib.hid (Tm.cmp_neg t u)
    have Hn0 := Lib.hid (Tm.cmp_zero t u)
    have Hrg := Tm.cmp_range t u
    obtain ⟨n, hn⟩ : ∃ n, Tm.cmp t u = n := ⟨_, rfl⟩
    have Hn := Lib.hid hn
    rw [hn] at Hnm Hn0 Hrg
    clear hn
    obtain ⟨hrg1, hrg2⟩ := Hrg
    have hwrap : IntKind.i64.wrap (-n) = -n := by
      have : n = -1 ∨ n = 0 ∨ n = 1 := by omega
      rcases this with h | h | h <;> rw [h] <;> rfl
    have cx10 : w8.cell? ⟨w.heap.size, 0, none⟩ = some (.slice t_pa t_n t_pc) := x1_w8.cell rfl
    have cx11 : w8.cell? ⟨w.heap.size, 1, none⟩ = some (.int .i64 t_k) := x1_w8.cell rfl
    have cx12 : w8.cell? ⟨w.heap.size, 2, none⟩ = some (.int .i64 t_i) := x1_w8.cell rfl
    have cx13 : w8.cell? ⟨w.heap.size, 3, none⟩ = some (.slice t_qa t_m t_qc) := x1_w8.cell rfl
    have lx1 := x1_w8.lt
    have cx20 : w8.cell? ⟨w.heap.size + 1, 0, none⟩ = some (.slice u_pa u_n u_pc) := x2_w8.cell rfl
    have cx21 : w8.cell? ⟨w.heap.size + 1, 1, none⟩ = some (.int .i64 u_k) := x2_w8.cell rfl
    have cx22 : w8.cell? ⟨w.heap.size + 1, 2, none⟩ = some (.int .i64 u_i) := x2_w8.cell rfl
    have cx23 : w8.cell? ⟨w.heap.size + 1, 3, none⟩ = some (.slice u_qa u_m u_qc) := x2_w8.cell rfl
    have lx2 := x2_w8.lt
    have cyp0 : w8.cell? ⟨p, 0, none⟩ = some (.slice X_pa t_n X_pc) := yp_w8.cell rfl
    have cyp1 : w8.cell? ⟨p, 1, none⟩ = some (.int .i64 t_k) := yp_w8.cell rfl
    have cyp2 : w8.cell? ⟨p, 2, none⟩ = some (.int .i64 t_i) := yp_w8.cell rfl
    have cyp3 : w8.cell? ⟨p, 3, none⟩ = some (.slice X_qa t_m X_qc) := yp_w8.cell rfl
    have lyp := yp_w8.lt
    have cyq0 : w8.cell? ⟨q, 0, none⟩ = some (.slice Y_pa u_n Y_pc) := yq_w8.cell rfl
    have cyq1 : w8.cell? ⟨q, 1, none⟩ = some (.int .i64 u_k) := yq_w8.cell rfl
    have cyq2 : w8.cell? ⟨q, 2, none⟩ = some (.int .i64 u_i) := yq_w8.cell rfl
    have cyq3 : w8.cell? ⟨q, 3, none⟩ = some (.slice Y_qa u_m Y_qc) := yq_w8.cell rfl
    have lyq := yq_w8.lt
    go_wp2_with fail
    have Cr := compare6_k _ _ _ _ _ _ _ X_w8.out _ _ _ _ _ _ _ Y_w8.out w8 (Keep.refl _ _) (Keep.refl _ _) (by have := Hf.out; omega) (by have := Hg.out; omega)
    rw [Hn.out] at Cr
    refine Cr.mono ?_
    clear Cr
    rintro e v0 ⟨rfl, hbx0⟩
    have hbx : Below w8.heap.size w8 v0 := hbx0
    clear hbx0
    clear cx10 cx11 cx12 cx13 lx1 cx20 cx21 cx22 cx23 lx2 cyp0 cyp1 cyp2 cyp3 lyp cyq0 cyq1 cyq2 cyq3 lyq
    have x1_v0 := x1_w8.below hbx
    have x2_v0 := x2_w8.below hbx
    have yp_v0 := yp_w8.below hbx
    have yq_v0 := yq_w8.below hbx
    have T_v0 := Lib.hid (T_w8.out.bel hbx)
    have U_v0 := Lib.hid (U_w8.out.bel hbx)
    have X_v0 := Lib.hid (X_w8.out.bel hbx)
    have Y_v0 := Lib.hid (Y_w8.out.bel hbx)
    have B_v0 := B_w8.trans (hbx.mono B_w8.size)
    clear x1_w8 x2_w8 yp_w8 yq_w8 T_w8 U_w8 X_w8 Y_w8 B_w8 hbx
    go_wp2_with fail
    refine wp_region_noPanic (wp_region_need (S := fun w' => w'.cell? ⟨w.heap.size, 0, none⟩ = some (.slice t_pa t_n t_pc) ∧ w'.cell? ⟨w.heap.size, 1, none⟩ = some (.int .i64 t_k) ∧ w'.cell? ⟨w.heap.size, 2, none⟩ = some (.int .i64 t_i) ∧ w'.cell? ⟨w.heap.size, 3, none⟩ = some (.slice t_qa t_m t_qc) ∧ w'.cell? ⟨w.heap.size + 1, 0, none⟩ = some (.slice u_pa u_n u_pc) ∧ w'.cell? ⟨w.heap.size + 1, 1, none⟩ = some (.int .i64 u_k) ∧ w'.cell? ⟨w.heap.size + 1, 2, none⟩ = some (.int .i64 u_i) ∧ w'.cell? ⟨w.heap.size + 1, 3, none⟩ = some (.slice u_qa u_m u_qc) ∧ w'.cell? ⟨p, 0, none⟩ = some (.slice X_pa t_n X_pc) ∧ w'.cell? ⟨p, 1, none⟩ = some (.int .i64 t_k) ∧ w'.cell? ⟨p, 2, none⟩ = some (.int .i64 t_i) ∧ w'.cell? ⟨p, 3, none⟩ = some (.slice X_qa t_m X_qc) ∧ w'.cell? ⟨q, 0, none⟩ = some (.slice Y_pa u_n Y_pc) ∧ w'.cell? ⟨q, 1, none⟩ = some (.int .i64 u_k) ∧ w'.cell? ⟨q, 2, none⟩ = some (.int .i64 u_i) ∧ w'.cell? ⟨q, 3, none⟩ = some (.slice Y_qa u_m Y_qc)) (by kernel_rfl) ?_)
    have hS : (v0.drew).cell? ⟨w.heap.size, 0, none⟩ = some (.slice t_pa t_n t_pc) ∧ (v0.drew).cell? ⟨w.heap.size, 1, none⟩ = some (.int .i64 t_k) ∧ (v0.drew).cell? ⟨w.heap.size, 2, none⟩ = some (.int .i64 t_i) ∧ (v0.drew).cell? ⟨w.heap.size, 3, none⟩ = some (.slice t_qa t_m t_qc) ∧ (v0.drew).cell? ⟨w.heap.size + 1, 0, none⟩ = some (.slice u_pa u_n u_pc) ∧ (v0.drew).cell? ⟨w.heap.size + 1, 1, none⟩ = some (.int .i64 u_k) ∧ (v0.drew).cell? ⟨w.heap.size + 1, 2, none⟩ = some (.int .i64 u_i) ∧ (v0.drew).cell? ⟨w.heap.size + 1, 3, none⟩ = some (.slice u_qa u_m u_qc) ∧ (v0.drew).cell? ⟨p, 0, none⟩ = some (.slice X_pa t_n X_pc) ∧ (v0.drew).cell? ⟨p, 1, none⟩ = some (.int .i64 t_k) ∧ (v0.drew).cell? ⟨p, 2, none⟩ = some (.int .i64 t_i) ∧ (v0.drew).cell? ⟨p, 3, none⟩ = some (.slice X_qa t_m X_qc) ∧ (v0.drew).cell? ⟨q, 0, none⟩ = some (.slice Y_pa u_n Y_pc) ∧ (v0.drew).cell? ⟨q, 1, none⟩ = some (.int .i64 u_k) ∧ (v0.drew).cell? ⟨q, 2, none⟩ = some (.int .i64 u_i) ∧ (v0.drew).cell? ⟨q, 3, none⟩ = some (.slice Y_qa u_m Y_qc) := ⟨x1_v0.drew.cell rfl, x1_v0.drew.cell rfl, x1_v0.drew.cell rfl, x1_v0.drew.cell rfl, x2_v0.drew.cell rfl, x2_v0.drew.cell rfl, x2_v0.drew.cell rfl, x2_v0.drew.cell rfl, yp_v0.drew.cell rfl, yp_v0.drew.cell rfl, yp_v0.drew.cell rfl, yp_v0.drew.cell rfl, yq_v0.drew.cell rfl, yq_v0.drew.cell rfl, yq_v0.drew.cell rfl, yq_v0.drew.cell rfl⟩
    refine wpN_step (i := 0) (by kernel_rfl) rfl (fun K hK => ?_)
    go_simp
    refine (known06 v0.drew).mono ?_
    rintro e v1 ⟨rfl, hbx0⟩
    have hbx : Below v0.heap.size v0 v1 := (Below.refl _ _).drew.trans hbx0
    clear hbx0
    have x1_v1 := x1_v0.below hbx
    have x2_v1 := x2_v0.below hbx
    have yp_v1 := yp_v0.below hbx
    have yq_v1 := yq_v0.below hbx
    have T_v1 := Lib.hid (T_v0.out.bel hbx)
    have U_v1 := Lib.hid (U_v0.out.bel hbx)
    have X_v1 := Lib.hid (X_v0.out.bel hbx)
    have Y_v1 := Lib.hid (Y_v0.out.bel hbx)
    have B_v1 := B_v0.trans (hbx.mono B_v0.size)
    clear x1_v0 x2_v0 yp_v0 yq_v0 T_v0 U_v0 X_v0 Y_v0 B_v0 hbx
    have hS : (v1).cell? ⟨w.heap.size, 0, none⟩ = some (.slice t_pa t_n t_pc) ∧ (v1).cell? ⟨w.heap.size, 1, none⟩ = some (.int .i64 t_k) ∧ (v1).cell? ⟨w.heap.size, 2, none⟩ = some (.int .i64 t_i) ∧ (v1).cell? ⟨w.heap.size, 3, none⟩ = some (.slice t_qa t_m t_qc) ∧ (v1).cell? ⟨w.heap.size + 1, 0, none⟩ = some (.slice u_pa u_n u_pc) ∧ (v1).cell? ⟨w.heap.size + 1, 1, none⟩ = some (.int .i64 u_k) ∧ (v1).cell? ⟨w.heap.size + 1, 2, none⟩ = some (.int .i64 u_i) ∧ (v1).cell? ⟨w.heap.size + 1, 3, none⟩ = some (.slice u_qa u_m u_qc) ∧ (v1).cell? ⟨p, 0, none⟩ = some (.slice X_pa t_n X_pc) ∧ (v1).cell? ⟨p, 1, none⟩ = some (.int .i64 t_k) ∧ (v1).cell? ⟨p, 2, none⟩ = some (.int .i64 t_i) ∧ (v1).cell? ⟨p, 3, none⟩ = some (.slice X_qa t_m X_qc) ∧ (v1).cell? ⟨q, 0, none⟩ = some (.slice Y_pa u_n Y_pc) ∧ (v1).cell? ⟨q, 1, none⟩ = some (.int .i64 u_k) ∧ (v1).cell? ⟨q, 2, none⟩ = some (.int .i64 u_i) ∧ (v1).cell? ⟨q, 3, none⟩ = some (.slice Y_qa u_m Y_qc) := ⟨x1_v1.cell rfl, x1_v1.cell rfl, x1_v1.cell rfl, x1_v1.cell rfl, x2_v1.cell rfl, x2_v1.cell rfl, x2_v1.cell rfl, x2_v1.cell rfl, yp_v1.cell rfl, yp_v1.cell rfl, yp_v1.cell rfl, yp_v1.cell rfl, yq_v1.cell rfl, yq_v1.cell rfl, yq_v1.cell rfl, yq_v1.cell rfl⟩
    refine hK.out _ _ (fun _ => hS) ?_
    clear hK K
    try simp only [Act.put, List.setIfInBounds_toArray, List.set_cons_zero, List.set_cons_succ, List.getElem_toArray, List.getElem_cons_zero, List.getElem_cons_succ]
    refine wpN_take (i := 1) (v := ?v3) rfl (by kernel_rfl) (fun _ _ _ h => h) hS (Or.inl ⟨by rfl, ?hy3⟩) ?hr3
    case hy3 => (intro wS hSw; (try dsimp only at hSw); go_simp; (try with_reducible rfl))
    try simp only [Act.put, List.setIfInBounds_toArray, List.set_cons_zero, List.set_cons_succ, List.getElem_toArray, List.getElem_cons_zero, List.getElem_cons_succ]
    refine wpN_take (i := 2) (v := ?v4) rfl (by kernel_rfl) (fun _ _ _ h => h) hS (Or.inl ⟨by rfl, ?hy4⟩) ?hr4
    case hy4 => (intro wS hSw; (try dsimp only at hSw); go_simp; (try with_reducible rfl))
    try simp only [Act.put, List.setIfInBounds_toArray, List.set_cons_zero, List.set_cons_succ, List.getElem_toArray, List.getElem_cons_zero, List.getElem_cons_succ]
    refine wpN_take (i := 3) (v := ?v5) rfl (by kernel_rfl) (fun _ _ _ h => h) hS (Or.inl ⟨by rfl, ?hy5⟩) ?hr5
    case hy5 => (intro wS hSw; (try dsimp only at hSw); go_simp; (try with_reducible rfl))
    try simp only [Act.put, List.setIfInBounds_toArray, List.set_cons_zero, List.set_cons_succ, List.getElem_toArray, List.getElem_cons_zero, List.getElem_cons_succ]
    refine wpN_take (i := 5) (v := ?v6) rfl (by kernel_rfl) (fun _ _ _ h => h) hS (Or.inl ⟨by rfl, ?hy6⟩) ?hr6
    case hy6 => (intro wS hSw; (try dsimp only at hSw); go_simp; (try with_reducible rfl))
    try simp only [Act.put, List.setIfInBounds_toArray, List.set_cons_zero, List.set_cons_succ, List.getElem_toArray, List.getElem_cons_zero, List.getElem_cons_succ]
    refine wpN_take (i := 6) (v := ?v7) rfl (by kernel_rfl) (fun _ _ _ h => h) hS (Or.inl ⟨by rfl, ?hy7⟩) ?hr7
    case hy7 => (intro wS hSw; (try dsimp only at hSw); go_simp; (try with_reducible rfl))
    try simp only [Act.put, List.setIfInBounds_toArray, List.set_cons_zero, List.set_cons_succ, List.getElem_toArray, List.getElem_cons_zero, List.getElem_cons_succ]
    refine wpN_step (i := 4) (by kernel_rfl) rfl (fun K hK => ?_)
    go_simp
    refine (equal6_k _ _ _ _ _ _ _ X_v1.out _ _ _ _ _ _ _ Y_v1.out v1 (Keep.refl _ _) (Keep.refl _ _)).mono ?_
    intro e v2 h
    obtain ⟨r1, Hr1, rfl, hbx0⟩ := of_retB' h
    clear h
    have hbx : Below v1.heap.size v1 v2 := hbx0
    clear hbx0
    have x1_v2 := x1_v1.below hbx
    have x2_v2 := x2_v1.below hbx
    have yp_v2 := yp_v1.below hbx
    have yq_v2 := yq_v1.below hbx
    have T_v2 := Lib.hid (T_v1.out.bel hbx)
    have U_v2 := Lib.hid (U_v1.out.bel hbx)
    have X_v2 := Lib.hid (X_v1.out.bel hbx)
    have Y_v2 := Lib.hid (Y_v1.out.bel hbx)
    have B_v2 := B_v1.trans (hbx.mono B_v1.size)
    clear x1_v1 x2_v1 yp_v1 yq_v1 T_v1 U_v1 X_v1 Y_v1 B_v1 hbx
    have hS : (v2).cell? ⟨w.heap.size, 0, none⟩ = some (.slice t_pa t_n t_pc) ∧ (v2).cell? ⟨w.heap.size, 1, none⟩ = some (.int .i64 t_k) ∧ (v2).cell? ⟨w.heap.size, 2, none⟩ = some (.int .i64 t_i) ∧ (v2).cell? ⟨w.heap.size, 3, none⟩ = some (.slice t_qa t_m t_qc) ∧ (v2).cell? ⟨w.heap.size + 1, 0, none⟩ = some (.slice u_pa u_n u_pc) ∧ (v2).cell? ⟨w.heap.size + 1, 1, none⟩ = some (.int .i64 u_k) ∧ (v2).cell? ⟨w.heap.size + 1, 2, none⟩ = some (.int .i64 u_i) ∧ (v2).cell? ⟨w.heap.size + 1, 3, none⟩ = some (.slice u_qa u_m u_qc) ∧ (v2).cell? ⟨p, 0, none⟩ = some (.slice X_pa t_n X_pc) ∧ (v2).cell? ⟨p, 1, none⟩ = some (.int .i64 t_k) ∧ (v2).cell? ⟨p, 2, none⟩ = some (.int .i64 t_i) ∧ (v2).cell? ⟨p, 3, none⟩ = some (.slice X_qa t_m X_qc) ∧ (v2).cell? ⟨q, 0, none⟩ = some (.slice Y_pa u_n Y_pc) ∧ (v2).cell? ⟨q, 1, none⟩ = some (.int .i64 u_k) ∧ (v2).cell? ⟨q, 2, none⟩ = some (.int .i64 u_i) ∧ (v2).cell? ⟨q, 3, none⟩ = some (.slice Y_qa u_m Y_qc) := ⟨x1_v2.cell rfl, x1_v2.cell rfl, x1_v2.cell rfl, x1_v2.cell rfl, x2_v2.cell rfl, x2_v2.cell rfl, x2_v2.cell rfl, x2_v2.cell rfl, yp_v2.cell rfl, yp_v2.cell rfl, yp_v2.cell rfl, yp_v2.cell rfl, yq_v2.cell rfl, yq_v2.cell rfl, yq_v2.cell rfl, yq_v2.cell rfl⟩
    refine hK.out _ _ (fun _ => hS) ?_
    clear hK K
    try simp only [Act.put, List.setIfInBounds_toArray, List.set_cons_zero, List.set_cons_succ, List.getElem_toArray, List.getElem_cons_zero, List.getElem_cons_succ]
    refine wpN_step (i := 7) (by kernel_rfl) rfl (fun K hK => ?_)
    go_simp
    refine (same6_r _ _ _ _ _ _ _ T_v2.out _ _ _ _ _ _ _ U_v2.out v2 (Keep.refl _ _) (Keep.refl _ _)).mono ?_
    intro e v3 h
    obtain ⟨r2, Hr2, rfl, hbx0⟩ := of_retB' h
    clear h
    have hbx : Below v2.heap.size v2 v3 := hbx0
    clear hbx0
    have x1_v3 := x1_v2.below hbx
    have x2_v3 := x2_v2.below hbx
    have yp_v3 := yp_v2.below hbx
    have yq_v3 := yq_v2.below hbx
    have T_v3 := Lib.hid (T_v2.out.bel hbx)
    have U_v3 := Lib.hid (U_v2.out.bel hbx)
    have X_v3 := Lib.hid (X_v2.out.bel hbx)
    have Y_v3 := Lib.hid (Y_v2.out.bel hbx)
    have B_v3 := B_v2.trans (hbx.mono B_v2.size)
    clear x1_v2 x2_v2 yp_v2 yq_v2 T_v2 U_v2 X_v2 Y_v2 B_v2 hbx
    have hS : (v3).cell? ⟨w.heap.size, 0, none⟩ = some (.slice t_pa t_n t_pc) ∧ (v3).cell? ⟨w.heap.size, 1, none⟩ = some (.int .i64 t_k) ∧ (v3).cell? ⟨w.heap.size, 2, none⟩ = some (.int .i64 t_i) ∧ (v3).cell? ⟨w.heap.size, 3, none⟩ = some (.slice t_qa t_m t_qc) ∧ (v3).cell? ⟨w.heap.size + 1, 0, none⟩ = some (.slice u_pa u_n u_pc) ∧ (v3).cell? ⟨w.heap.size + 1, 1, none⟩ = some (.int .i64 u_k) ∧ (v3).cell? ⟨w.heap.size + 1, 2, none⟩ = some (.int .i64 u_i) ∧ (v3).cell? ⟨w.heap.size + 1, 3, none⟩ = some (.slice u_qa u_m u_qc) ∧ (v3).cell? ⟨p, 0, none⟩ = some (.slice X_pa t_n X_pc) ∧ (v3).cell? ⟨p, 1, none⟩ = some (.int .i64 t_k) ∧ (v3).cell? ⟨p, 2, none⟩ = some (.int .i64 t_i) ∧ (v3).cell? ⟨p, 3, none⟩ = some (.slice X_qa t_m X_qc) ∧ (v3).cell? ⟨q, 0, none⟩ = some (.slice Y_pa u_n Y_pc) ∧ (v3).cell? ⟨q, 1, none⟩ = some (.int .i64 u_k) ∧ (v3).cell? ⟨q, 2, none⟩ = some (.int .i64 u_i) ∧ (v3).cell? ⟨q, 3, none⟩ = some (.slice Y_qa u_m Y_qc) := ⟨x1_v3.cell rfl, x1_v3.cell rfl, x1_v3.cell rfl, x1_v3.cell rfl, x2_v3.cell rfl, x2_v3.cell rfl, x2_v3.cell rfl, x2_v3.cell rfl, yp_v3.cell rfl, yp_v3.cell rfl, yp_v3.cell rfl, yp_v3.cell rfl, yq_v3.cell rfl, yq_v3.cell rfl, yq_v3.cell rfl, yq_v3.cell rfl⟩
    refine hK.out _ _ (fun _ => hS) ?_
    clear hK K
    try simp only [Act.put, List.setIfInBounds_toArray, List.set_cons_zero, List.set_cons_succ, List.getElem_toArray, List.getElem_cons_zero, List.getElem_cons_succ]
    have hrr : r2 = r1 := Bool.eq_iff_iff.2 (Hr2.out.trans Hr1.out.symm)
    rw [hrr]
    clear Hr2 hrr
    refine wpN_take (i := 8) (v := ?v8) rfl (by kernel_rfl) (fun _ _ _ h => h) hS (Or.inl ⟨by rfl, ?hy8⟩) ?hr8
    case hy8 => (intro wS hSw; (try dsimp only at hSw); go_simp; (try with_reducible rfl))
    try simp only [Act.put, List.setIfInBounds_toArray, List.set_cons_zero, List.set_cons_succ, List.getElem_toArray, List.getElem_cons_zero, List.getElem_cons_succ]
    refine wpN_take (i := 9) (v := ?v9) rfl (by kernel_rfl) (fun _ _ _ h => h) hS (Or.inl ⟨by rfl, ?hy9⟩) ?hr9
    case hy9 => (intro wS hSw; (try dsimp only at hSw); go_simp; (try with_reducible rfl))
    try simp only [Act.put, List.setIfInBounds_toArray, List.set_cons_zero, List.set_cons_succ, List.getElem_toArray, List.getElem_cons_zero, List.getElem_cons_succ]
    refine wpN_take (i := 10) (v := ?v10) rfl (by kernel_rfl) (fun _ _ _ h => h) hS (Or.inl ⟨by rfl, ?hy10⟩) ?hr10
    case hy10 => (intro wS hSw; (try dsimp only at hSw); go_simp; (try with_reducible rfl))
    try simp only [Act.put, List.setIfInBounds_toArray, List.set_cons_zero, List.set_cons_succ, List.getElem_toArray, List.getElem_cons_zero, List.getElem_cons_succ]
    refine wpN_take (i := 11) (v := ?v11) rfl (by kernel_rfl) (fun _ _ _ h => h) hS (Or.inl ⟨by rfl, ?hy11⟩) ?hr11
    case hy11 => (intro wS hSw; (try dsimp only at hSw); go_simp; (try with_reducible rfl))
    try simp only [Act.put, List.setIfInBounds_toArray, List.set_cons_zero, List.set_cons_succ, List.getElem_toArray, List.getElem_cons_zero, List.getElem_cons_succ]
    refine wpN_take (i := 12) (v := ?v12) rfl (by kernel_rfl) (fun _ _ _ h => h) hS (Or.inl ⟨by rfl, ?hy12⟩) ?hr12
    case hy12 => (intro wS hSw; (try dsimp only at hSw); go_simp; (try with_reducible rfl))
    try simp only [Act.put, List.setIfInBounds_toArray, List.set_cons_zero, List.set_cons_succ, List.getElem_toArray, List.getElem_cons_zero, List.getElem_cons_succ]
    refine wpN_take (i := 13) (v := ?v13) rfl (by kernel_rfl) (fun _ _ _ h => h) hS (Or.inl ⟨by rfl, ?hy13⟩) ?hr13
    case hy13 => (intro wS hSw; (try dsimp only at hSw); go_simp; (try with_reducible rfl))
    try simp only [Act.put, List.setIfInBounds_toArray, List.set_cons_zero, List.set_cons_succ, List.getElem_toArray, List.getElem_cons_zero, List.getElem_cons_succ]
    refine wpN_step (i := 14) (by kernel_rfl) rfl (fun K hK => ?_)
    go_simp
    have Cr := compare6_r _ _ _ _ _ _ _ T_v3.out _ _ _ _ _ _ _ U_v3.out v3 (Keep.refl _ _) (Keep.refl _ _) (by have := Hf.out; omega) (by have := Hg.out; omega)
    rw [Hn.out] at Cr
    refine Cr.mono ?_
    clear Cr
    rintro e v4 ⟨rfl, hbx0⟩
    have hbx : Below v3.heap.size v3 v4 := hbx0
    clear hbx0
    have x1_v4 := x1_v3.below hbx
    have x2_v4 := x2_v3.below hbx
    have yp_v4 := yp_v3.below hbx
    have yq_v4 := yq_v3.below hbx
    have T_v4 := Lib.hid (T_v3.out.bel hbx)
    have U_v4 := Lib.hid (U_v3.out.bel hbx)
    have X_v4 := Lib.hid (X_v3.out.bel hbx)
    have Y_v4 := Lib.hid (Y_v3.out.bel hbx)
    have B_v4 := B_v3.trans (hbx.mono B_v3.size)
    clear x1_v3 x2_v3 yp_v3 yq_v3 T_v3 U_v3 X_v3 Y_v3 B_v3 hbx
    have hS : (v4).cell? ⟨w.heap.size, 0, none⟩ = some (.slice t_pa t_n t_pc) ∧ (v4).cell? ⟨w.heap.size, 1, none⟩ = some (.int .i64 t_k) ∧ (v4).cell? ⟨w.heap.size, 2, none⟩ = some (.int .i64 t_i) ∧ (v4).cell? ⟨w.heap.size, 3, none⟩ = some (.slice t_qa t_m t_qc) ∧ (v4).cell? ⟨w.heap.size + 1, 0, none⟩ = some (.slice u_pa u_n u_pc) ∧ (v4).cell? ⟨w.heap.size + 1, 1, none⟩ = some (.int .i64 u_k) ∧ (v4).cell? ⟨w.heap.size + 1, 2, none⟩ = some (.int .i64 u_i) ∧ (v4).cell? ⟨w.heap.size + 1, 3, none⟩ = some (.slice u_qa u_m u_qc) ∧ (v4).cell? ⟨p, 0, none⟩ = some (.slice X_pa t_n X_pc) ∧ (v4).cell? ⟨p, 1, none⟩ = some (.int .i64 t_k) ∧ (v4).cell? ⟨p, 2, none⟩ = some (.int .i64 t_i) ∧ (v4).cell? ⟨p, 3, none⟩ = some (.slice X_qa t_m X_qc) ∧ (v4).cell? ⟨q, 0, none⟩ = some (.slice Y_pa u_n Y_pc) ∧ (v4).cell? ⟨q, 1, none⟩ = some (.int .i64 u_k) ∧ (v4).cell? ⟨q, 2, none⟩ = some (.int .i64 u_i) ∧ (v4).cell? ⟨q, 3, none⟩ = some (.slice Y_qa u_m Y_qc) := ⟨x1_v4.cell rfl, x1_v4.cell rfl, x1_v4.cell rfl, x1_v4.cell rfl, x2_v4.cell rfl, x2_v4.cell rfl, x2_v4.cell rfl, x2_v4.cell rfl, yp_v4.cell rfl, yp_v4.cell rfl, yp_v4.cell rfl, yp_v4.cell rfl, yq_v4.cell rfl, yq_v4.cell rfl, yq_v4.cell rfl, yq_v4.cell rfl⟩
    refine hK.out _ _ (fun _ => hS) ?_
    clear hK K
    try simp only [Act.put, List.setIfInBounds_toArray, List.set_cons_zero, List.set_cons_succ, List.getElem_toArray, List.getElem_cons_zero, List.getElem_cons_succ]
    refine wpN_take (i := 15) (v := ?v14) rfl (by kernel_rfl) (fun _ _ _ h => h) hS (Or.inl ⟨by rfl, ?hy14⟩) ?hr14
    case hy14 => (intro wS hSw; (try dsimp only at hSw); go_simp; (try with_reducible rfl))
    try simp only [Act.put, List.setIfInBounds_toArray, List.set_cons_zero, List.set_cons_succ, List.getElem_toArray, List.getElem_cons_zero, List.getElem_cons_succ]
    refine wpN_take (i := 16) (v := ?v15) rfl (by kernel_rfl) (fun _ _ _ h => h) hS (Or.inl ⟨by rfl, ?hy15⟩) ?hr15
    case hy15 => (intro wS hSw; (try dsimp only at hSw); go_simp; (try with_reducible rfl))
    try simp only [Act.put, List.setIfInBounds_toArray, List.set_cons_zero, List.set_cons_succ, List.getElem_toArray, List.getElem_cons_zero, List.getElem_cons_succ]
    refine wpN_take (i := 17) (v := ?v16) rfl (by kernel_rfl) (fun _ _ _ h => h) hS (Or.inl ⟨by rfl, ?hy16⟩) ?hr16
    case hy16 => (intro wS hSw; (try dsimp only at hSw); go_simp; (try with_reducible rfl))
    try simp only [Act.put, List.setIfInBounds_toArray, List.set_cons_zero, List.set_cons_succ, List.getElem_toArray, List.getElem_cons_zero, List.getElem_cons_succ]
    refine wpN_take (i := 18) (v := ?v17) rfl (by kernel_rfl) (fun _ _ _ h => h) hS (Or.inl ⟨by rfl, ?hy17⟩) ?hr17
    case hy17 => (intro wS hSw; (try dsimp only at hSw); go_simp; (try with_reducible rfl))
    try simp only [Act.put, List.setIfInBounds_toArray, List.set_cons_zero, List.set_cons_succ, List.getElem_toArray, List.getElem_cons_zero, List.getElem_cons_succ]
    refine wpN_take (i := 19) (v := ?v18) rfl (by kernel_rfl) (fun _ _ _ h => h) hS (Or.inl ⟨by rfl, ?hy18⟩) ?hr18
    case hy18 => (intro wS hSw; (try dsimp only at hSw); go_simp; (try with_reducible rfl))
    try simp only [Act.put, List.setIfInBounds_toArray, List.set_cons_zero, List.set_cons_succ, List.getElem_toArray, List.getElem_cons_zero, List.getElem_cons_succ]
    refine wpN_take (i := 21) (v := ?v19) rfl (by kernel_rfl) (fun _ _ _ h => h) hS (Or.inl ⟨by rfl, ?hy19⟩) ?hr19
    case hy19 => (intro wS hSw; (try dsimp only at hSw); go_simp; (try with_reducible rfl))
    try simp only [Act.put, List.setIfInBounds_toArray, List.set_cons_zero, List.set_cons_succ, List.getElem_toArray, List.getElem_cons_zero, List.getElem_cons_succ]
    refine wpN_take (i := 22) (v := ?v20) rfl (by kernel_rfl) (fun _ _ _ h => h) hS (Or.inl ⟨by rfl, ?hy20⟩) ?hr20
    case hy20 => (intro wS hSw; (try dsimp only at hSw); go_simp; (try with_reducible rfl))
    try simp only [Act.put, List.setIfInBounds_toArray, List.set_cons_zero, List.set_cons_succ, List.getElem_toArray, List.getElem_cons_zero, List.getElem_cons_succ]
    try rw [hwrap]
    refine wpN_step (i := 20) (by kernel_rfl) rfl (fun K hK => ?_)
    go_simp
    have Cr := compare6_k _ _ _ _ _ _ _ Y_v4.out _ _ _ _ _ _ _ X_v4.out v4 (Keep.refl _ _) (Keep.refl _ _) (by have := Hg.out; omega) (by have := Hf.out; omega)
    rw [Hnm.out] at Cr
    refine Cr.mono ?_
    clear Cr
    rintro e v5 ⟨rfl, hbx0⟩
    have hbx : Below v4.heap.size v4 v5 := hbx0
    clear hbx0
    have x1_v5 := x1_v4.below hbx
    have x2_v5 := x2_v4.below hbx
    have yp_v5 := yp_v4.below hbx
    have yq_v5 := yq_v4.below hbx
    have T_v5 := Lib.hid (T_v4.out.bel hbx)
    have U_v5 := Lib.hid (U_v4.out.bel hbx)
    have X_v5 := Lib.hid (X_v4.out.bel hbx)
    have Y_v5 := Lib.hid (Y_v4.out.bel hbx)
    have B_v5 := B_v4.trans (hbx.mono B_v4.size)
    clear x1_v4 x2_v4 yp_v4 yq_v4 T_v4 U_v4 X_v4 Y_v4 B_v4 hbx
    have hS : (v5).cell? ⟨w.heap.size, 0, none⟩ = some (.slice t_pa t_n t_pc) ∧ (v5).cell? ⟨w.heap.size, 1, none⟩ = some (.int .i64 t_k) ∧ (v5).cell? ⟨w.heap.size, 2, none⟩ = some (.int .i64 t_i) ∧ (v5).cell? ⟨w.heap.size, 3, none⟩ = some (.slice t_qa t_m t_qc) ∧ (v5).cell? ⟨w.heap.size + 1, 0, none⟩ = some (.slice u_pa u_n u_pc) ∧ (v5).cell? ⟨w.heap.size + 1, 1, none⟩ = some (.int .i64 u_k) ∧ (v5).cell? ⟨w.heap.size + 1, 2, none⟩ = some (.int .i64 u_i) ∧ (v5).cell? ⟨w.heap.size + 1, 3, none⟩ = some (.slice u_qa u_m u_qc) ∧ (v5).cell? ⟨p, 0, none⟩ = some (.slice X_pa t_n X_pc) ∧ (v5).cell? ⟨p, 1, none⟩ = some (.int .i64 t_k) ∧ (v5).cell? ⟨p, 2, none⟩ = some (.int .i64 t_i) ∧ (v5).cell? ⟨p, 3, none⟩ = some (.slice X_qa t_m X_qc) ∧ (v5).cell? ⟨q, 0, none⟩ = some (.slice Y_pa u_n Y_pc) ∧ (v5).cell? ⟨q, 1, none⟩ = some (.int .i64 u_k) ∧ (v5).cell? ⟨q, 2, none⟩ = some (.int .i64 u_i) ∧ (v5).cell? ⟨q, 3, none⟩ = some (.slice Y_qa u_m Y_qc) := ⟨x1_v5.cell rfl, x1_v5.cell rfl, x1_v5.cell rfl, x1_v5.cell rfl, x2_v5.cell rfl, x2_v5.cell rfl, x2_v5.cell rfl, x2_v5.cell rfl, yp_v5.cell rfl, yp_v5.cell rfl, yp_v5.cell rfl, yp_v5.cell rfl, yq_v5.cell rfl, yq_v5.cell rfl, yq_v5.cell rfl, yq_v5.cell rfl⟩
    refine hK.out _ _ (fun _ => hS) ?_
    clear hK K
    try simp only [Act.put, List.setIfInBounds_toArray, List.set_cons_zero, List.set_cons_succ, List.getElem_toArray, List.getElem_cons_zero, List.getElem_cons_succ]
    refine wpN_take (i := 23) (v := ?v21) rfl (by kernel_rfl) (fun _ _ _ h => h) hS (Or.inl ⟨by rfl, ?hy21⟩) ?hr21
    case hy21 => (intro wS hSw; (try dsimp only at hSw); go_simp; (try with_reducible rfl))
    try simp only [Act.put, List.setIfInBounds_toArray, List.set_cons_zero, List.set_cons_succ, List.getElem_toArray, List.getElem_cons_zero, List.getElem_cons_succ]
    refine wpN_take (i := 24) (v := ?v22) rfl (by kernel_rfl) (fun _ _ _ h => h) hS (Or.inl ⟨by rfl, ?hy22⟩) ?hr22
    case hy22 => (intro wS hSw; (try dsimp only at hSw); go_simp; (try with_reducible rfl))
    try simp only [Act.put, List.setIfInBounds_toArray, List.set_cons_zero, List.set_cons_succ, List.getElem_toArray, List.getElem_cons_zero, List.getElem_cons_succ]
    refine wpN_take (i := 25) (v := ?v23) rfl (by kernel_rfl) (fun _ _ _ h => h) hS (Or.inl ⟨by rfl, ?hy23⟩) ?hr23
    case hy23 => (intro wS hSw; (try dsimp only at hSw); go_simp; (try with_reducible rfl))
    try simp only [Act.put, List.setIfInBounds_toArray, List.set_cons_zero, List.set_cons_succ, List.getElem_toArray, List.getElem_cons_zero, List.getElem_cons_succ]
    refine wpN_take (i := 26) (v := ?v24) rfl (by kernel_rfl) (fun _ _ _ h => h) hS (Or.inl ⟨by rfl, ?hy24⟩) ?hr24
    case hy24 => (intro wS hSw; (try dsimp only at hSw); go_simp; (try with_reducible rfl))
    try simp only [Act.put, List.setIfInBounds_toArray, List.set_cons_zero, List.set_cons_succ, List.getElem_toArray, List.getElem_cons_zero, List.getElem_cons_succ]
    refine wpN_take (i := 27) (v := ?v25) rfl (by kernel_rfl) (fun _ _ _ h => h) hS (Or.inl ⟨by rfl, ?hy25⟩) ?hr25
    case hy25 => (intro wS hSw; (try dsimp only at hSw); go_simp; (try with_reducible rfl))
    try simp only [Act.put, List.setIfInBounds_toArray, List.set_cons_zero, List.set_cons_succ, List.getElem_toArray, List.getElem_cons_zero, List.getElem_cons_succ]
    refine wpN_take (i := 28) (v := ?v26) rfl (by kernel_rfl) (fun _ _ _ h => h) hS (Or.inl ⟨by rfl, ?hy26⟩) ?hr26
    case hy26 => (intro wS hSw; (try dsimp only at hSw); go_simp; (try with_reducible rfl))
    try simp only [Act.put, List.setIfInBounds_toArray, List.set_cons_zero, List.set_cons_succ, List.getElem_toArray, List.getElem_cons_zero, List.getElem_cons_succ]
    refine wpN_take (i := 29) (v := ?v27) rfl (by kernel_rfl) (fun _ _ _ h => h) hS (Or.inl ⟨by rfl, ?hy27⟩) ?hr27
    case hy27 => (intro wS hSw; (try dsimp only at hSw); go_simp; (try with_reducible rfl))
    try simp only [Act.put, List.setIfInBounds_toArray, List.set_cons_zero, List.set_cons_succ, List.getElem_toArray, List.getElem_cons_zero, List.getElem_cons_succ]
    refine wpN_step (i := 30) (by kernel_rfl) rfl (fun K hK => ?_)
    go_simp
    refine (same6_r _ _ _ _ _ _ _ T_v5.out _ _ _ _ _ _ _ U_v5.out v5 (Keep.refl _ _) (Keep.refl _ _)).mono ?_
    intro e v6 h
    obtain ⟨r3, Hr3, rfl, hbx0⟩ := of_retB' h
    clear h
    have hbx : Below v5.heap.size v5 v6 := hbx0
    clear hbx0
    have x1_v6 := x1_v5.below hbx
    have x2_v6 := x2_v5.below hbx
    have yp_v6 := yp_v5.below hbx
    have yq_v6 := yq_v5.below hbx
    have T_v6 := Lib.hid (T_v5.out.bel hbx)
    have U_v6 := Lib.hid (U_v5.out.bel hbx)
    have X_v6 := Lib.hid (X_v5.out.bel hbx)
    have Y_v6 := Lib.hid (Y_v5.out.bel hbx)
    have B_v6 := B_v5.trans (hbx.mono B_v5.size)
    clear x1_v5 x2_v5 yp_v5 yq_v5 T_v5 U_v5 X_v5 Y_v5 B_v5 hbx
    have hS : (v6).cell? ⟨w.heap.size, 0, none⟩ = some (.slice t_pa t_n t_pc) ∧ (v6).cell? ⟨w.heap.size, 1, none⟩ = some (.int .i64 t_k) ∧ (v6).cell? ⟨w.heap.size, 2, none⟩ = some (.int .i64 t_i) ∧ (v6).cell? ⟨w.heap.size, 3, none⟩ = some (.slice t_qa t_m t_qc) ∧ (v6).cell? ⟨w.heap.size + 1, 0, none⟩ = some (.slice u_pa u_n u_pc) ∧ (v6).cell? ⟨w.heap.size + 1, 1, none⟩ = some (.int .i64 u_k) ∧ (v6).cell? ⟨w.heap.size + 1, 2, none⟩ = some (.int .i64 u_i) ∧ (v6).cell? ⟨w.heap.size + 1, 3, none⟩ = some (.slice u_qa u_m u_qc) ∧ (v6).cell? ⟨p, 0, none⟩ = some (.slice X_pa t_n X_pc) ∧ (v6).cell? ⟨p, 1, none⟩ = some (.int .i64 t_k) ∧ (v6).cell? ⟨p, 2, none⟩ = some (.int .i64 t_i) ∧ (v6).cell? ⟨p, 3, none⟩ = some (.slice X_qa t_m X_qc) ∧ (v6).cell? ⟨q, 0, none⟩ = some (.slice Y_pa u_n Y_pc) ∧ (v6).cell? ⟨q, 1, none⟩ = some (.int .i64 u_k) ∧ (v6).cell? ⟨q, 2, none⟩ = some (.int .i64 u_i) ∧ (v6).cell? ⟨q, 3, none⟩ = some (.slice Y_qa u_m Y_qc) := ⟨x1_v6.cell rfl, x1_v6.cell rfl, x1_v6.cell rfl, x1_v6.cell rfl, x2_v6.cell rfl, x2_v6.cell rfl, x2_v6.cell rfl, x2_v6.cell rfl, yp_v6.cell rfl, yp_v6.cell rfl, yp_v6.cell rfl, yp_v6.cell rfl, yq_v6.cell rfl, yq_v6.cell rfl, yq_v6.cell rfl, yq_v6.cell rfl⟩
    refine hK.out _ _ (fun _ => hS) ?_
    clear hK K
    try simp only [Act.put, List.setIfInBounds_toArray, List.set_cons_zero, List.set_cons_succ, List.getElem_toArray, List.getElem_cons_zero, List.getElem_cons_succ]
    obtain rfl : r3 = (n == 0) := by
      rw [Bool.eq_iff_iff, Hr3.out, ← Hn0.out]; simp
    clear Hr3
    refine wpN_take (i := 31) (v := ?v28) rfl (by kernel_rfl) (fun _ _ _ h => h) hS (Or.inl ⟨by rfl, ?hy28⟩) ?hr28
    case hy28 => (intro wS hSw; (try dsimp only at hSw); go_simp; (try with_reducible rfl))
    try simp only [Act.put, List.setIfInBounds_toArray, List.set_cons_zero, List.set_cons_succ, List.getElem_toArray, List.getElem_cons_zero, List.getElem_cons_succ]
    refine wpN_take (i := 32) (v := ?v29) rfl (by kernel_rfl) (fun _ _ _ h => h) hS (Or.inl ⟨by rfl, ?hy29⟩) ?hr29
    case hy29 => (intro wS hSw; (try dsimp only at hSw); go_simp; (try with_reducible rfl))
    try simp only [Act.put, List.setIfInBounds_toArray, List.set_cons_zero, List.set_cons_succ, List.getElem_toArray, List.getElem_cons_zero, List.getElem_cons_succ]
    refine wpN_step (i := 33) (by kernel_rfl) rfl (fun K hK => ?_)
    go_simp
    refine hK.out _ _ (fun h => absurd h (by decide)) ?_
    clear hK K
    try simp only [Act.put, List.setIfInBounds_toArray, List.set_cons_zero, List.set_cons_succ, List.getElem_toArray, List.getElem_cons_zero, List.getElem_cons_succ]
    refine wpN_done (by kernel_rfl) ?_
    refine NoPanic.normal ?_
    go_wp2_with fail
    go_ret
    exact ⟨rfl, B_v6⟩
end Go.Proofs.Ytejpgifofkiofaa
