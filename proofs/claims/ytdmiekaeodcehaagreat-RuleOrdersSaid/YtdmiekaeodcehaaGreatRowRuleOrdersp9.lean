/-
  term.all: which of two lists is less. term.Compare. RuleOrders, walked in the deep way. RuleOrders, walked in the deep way.
-/
import Derived.Test.YtdmiekaeodcehaaGreatRowRuleOrdersp7
import Derived.Test.YtdmiekaeodcehaaGreatRowRuleOrdersp8
import Derived.Test.YtdmiekaeodcehaaGreatRowRuleOrdersp5
import Derived.Test.YtdmiekaeodcehaaGreatRowRuleOrdersp4
set_option maxRecDepth 100000
set_option maxHeartbeats 1000000
set_option linter.unusedVariables false
set_option linter.unusedSimpArgs false
namespace Go.Proofs.YtdmiekaeodcehaaGreat
open Go.RowKit

def CmpTm (t : Tm) : Prop := ∀ (F : Nat → Prop) (w0 : World) (b k i a : Value), IsTm F w0 b k i a t → ∀ (F' : Nat → Prop) (w0' : World) (b' k' i' a' : Value) (u : Tm), IsTm F' w0' b' k' i' a' u → ∀ w : World, Keep F w0 w → Keep F' w0' w → t.full ≤ 400000 → u.full ≤ 400000 →
    Calls Tryz.prog 76 #[.agg #[b, k, i, a], .agg #[b', k', i', a']] w (RetI (Tm.cmp t u) w)

set_option maxRecDepth 100000 in
set_option maxHeartbeats 1600000 in
theorem allB_k {F F' : Nat → Prop} {w0 w0' : World} {v v' : Value} {l l' : List Ty} (h : IsSl rpTy F w0 v l) (h' : IsSl rpTy F' w0' v' l') (hz : ∀ t ∈ l, t.size ≤ 500000) (hz' : ∀ t ∈ l', t.size ≤ 500000) (w : World) (hw : Keep F w0 w) (hw' : Keep F' w0' w) :
    Calls Tryz.prog 115 #[v, v', .func (.func 77) #[] #[]] w (RetI (Tm.cmpB l l') w) := by
  obtain ⟨a, c, rfl⟩ := sl_shape' h
  obtain ⟨a', c', rfl⟩ := sl_shape' h'
  obtain ⟨_, hm, bl, off, A, N, C, B, ha, h1, h2, h5⟩ := sl_cells' h
  obtain ⟨_, hm', bl', off', A', N', C', B', ha', h1', h2', h5'⟩ := sl_cells' h'
  clear h h'
  unfold maxLen at hm hm'
  have H3 : Hid (∀ i (h : i < l.length) (h' : i < l'.length) (w : World), Keep F w0 w → Keep F' w0' w → Calls Tryz.prog 77 #[.agg #[.slice (A i) (N i) (C i), .int .i64 (B i)], .agg #[.slice (A' i) (N' i) (C' i), .int .i64 (B' i)]] w (RetI (Ty.cmp l[i] l'[i]) w)) :=
    fun i h h' w hw hw' => compare_k _ _ _ _ _ (h5 i h) _ _ _ _ _ (h5' i h') w hw hw' (hz _ (List.getElem_mem h)) (hz' _ (List.getElem_mem h'))
  clear h5 h5' hz hz'
  obtain ⟨r, hr⟩ : ∃ r, Tm.cmpB l l' = r := ⟨_, rfl⟩
  have Hr : Hid (r = orl (sgn l.length l'.length) (Ty.cmps l l')) := hr.symm
  rw [hr]
  clear hr
  go_enter Tryz.func115, Tryz.ntmps115
  go_wp2_with fail
  refine (compare_i _ _ _).mono ?_
  rintro e w3 ⟨rfl, hb3⟩
  have Hm : Hid (sgn l.length l'.length = 0 → l.length = l'.length) := fun h => by have := sgn_zero.1 h; omega
  generalize sgn l.length l'.length = m at *
  go_wp2_with fail
  go_loopw [7, 8] (fun x i wr => ∃ (k : Nat) (m : Int), i = .int .i64 k ∧ x = .int .i64 m ∧ k ≤ l.length ∧ Hid (m = 0 → l.length = l'.length) ∧ Hid (r = orl m (Ty.cmps (l.drop k) (l'.drop k))) ∧ Below w.heap.size w wr) (fun _ i _ => l.length - (intOf i).toNat)
  case atStart => exact ⟨0, m, rfl, rfl, by omega, Hm, Hr, hb3⟩
  case round =>
    clear Hm Hr hb3
    obtain ⟨k, m, rfl, hxm, hk, hm0, hr, hb⟩ := hrel
    have hxm := hxm.symm
    subst hxm
    by_cases hlt : k < l.length
    · have i1 : (k : Int) < (l.length : Int) := by omega
      by_cases hm0' : m = 0
      · have Hll := Lib.hid (hm0.out hm0')
        subst hm0'
        have hlt' : k < l'.length := by rw [← Hll.out]; exact hlt
        obtain ⟨rfl, hF⟩ := ha (by omega)
        obtain ⟨rfl, hF'⟩ := ha' (by omega)
        have e1 : wr.cell? ⟨bl, off + k * 2, none⟩ = some (.slice (A k) (N k) (C k)) := (hw.below hb) _ _ _ hF (h1 k hlt)
        have e2 : wr.cell? ⟨bl, off + k * 2 + 1, none⟩ = some (.int .i64 (B k)) := (hw.below hb) _ _ _ hF (h2 k hlt)
        have e1' : wr.cell? ⟨bl', off' + k * 2, none⟩ = some (.slice (A' k) (N' k) (C' k)) := (hw'.below hb) _ _ _ hF' (h1' k hlt')
        have e2' : wr.cell? ⟨bl', off' + k * 2 + 1, none⟩ = some (.int .i64 (B' k)) := (hw'.below hb) _ _ _ hF' (h2' k hlt')
        have i0 : (0 : Int) ≤ (k : Int) := Int.natCast_nonneg _
        have i2 : (k : Int) < (l'.length : Int) := by omega
        have Hd := Lib.hid (Ty.cmps_drop hlt hlt')
        go_wp2_with fail
        refine wp_region_noPanic (wp_region_need (S := fun w' => w'.cell? ⟨bl, off + k * 2, none⟩ = some (.slice (A k) (N k) (C k)) ∧ w'.cell? ⟨bl, off + k * 2 + 1, none⟩ = some (.int .i64 (B k)) ∧ w'.cell? ⟨bl', off' + k * 2, none⟩ = some (.slice (A' k) (N' k) (C' k)) ∧ w'.cell? ⟨bl', off' + k * 2 + 1, none⟩ = some (.int .i64 (B' k))) (by kernel_rfl) ?_)
        have hS : (wr.drew).cell? ⟨bl, off + k * 2, none⟩ = some (.slice (A k) (N k) (C k)) ∧ (wr.drew).cell? ⟨bl, off + k * 2 + 1, none⟩ = some (.int .i64 (B k)) ∧ (wr.drew).cell? ⟨bl', off' + k * 2, none⟩ = some (.slice (A' k) (N' k) (C' k)) ∧ (wr.drew).cell? ⟨bl', off' + k * 2 + 1, none⟩ = some (.int .i64 (B' k)) := ⟨e1, e2, e1', e2'⟩
        refine wpN_take (i := 0) (v := ?v1) rfl (by kernel_rfl) (fun _ _ _ h => h) hS (Or.inl ⟨by rfl, ?hy1⟩) ?hr1
        case hy1 => (intro wS hSw; (try dsimp only at hSw); go_simp; (try with_reducible rfl))
        try simp only [Act.put, List.setIfInBounds_toArray, List.set_cons_zero, List.set_cons_succ, List.getElem_toArray, List.getElem_cons_zero, List.getElem_cons_succ]
        refine wpN_take (i := 1) (v := ?v2) rfl (by kernel_rfl) (fun _ _ _ h => h) hS (Or.inl ⟨by rfl, ?hy2⟩) ?hr2
        case hy2 => (intro wS hSw; (try dsimp only at hSw); go_simp; (try with_reducible rfl))
        try simp only [Act.put, List.setIfInBounds_toArray, List.set_cons_zero, List.set_cons_succ, List.getElem_toArray, List.getElem_cons_zero, List.getElem_cons_succ]
        refine wpN_take (i := 2) (v := ?v3) rfl (by kernel_rfl) (fun _ _ _ h => h) hS (Or.inl ⟨by rfl, ?hy3⟩) ?hr3
        case hy3 => (intro wS hSw; (try dsimp only at hSw); go_simp; (try with_reducible rfl))
        try simp only [Act.put, List.setIfInBounds_toArray, List.set_cons_zero, List.set_cons_succ, List.getElem_toArray, List.getElem_cons_zero, List.getElem_cons_succ]
        refine wpN_take (i := 3) (v := ?v4) rfl (by kernel_rfl) (fun _ _ _ h => h) hS (Or.inl ⟨by rfl, ?hy4⟩) ?hr4
        case hy4 => (intro wS hSw; (try dsimp only at hSw); go_simp; (try with_reducible rfl))
        try simp only [Act.put, List.setIfInBounds_toArray, List.set_cons_zero, List.set_cons_succ, List.getElem_toArray, List.getElem_cons_zero, List.getElem_cons_succ]
        refine wpN_take (i := 4) (v := ?v5) rfl (by kernel_rfl) (fun _ _ _ h => h) hS (Or.inl ⟨by rfl, ?hy5⟩) ?hr5
        case hy5 => (intro wS hSw; (try dsimp only at hSw); go_simp; (try with_reducible rfl))
        try simp only [Act.put, List.setIfInBounds_toArray, List.set_cons_zero, List.set_cons_succ, List.getElem_toArray, List.getElem_cons_zero, List.getElem_cons_succ]
        refine wpN_take (i := 5) (v := ?v6) rfl (by kernel_rfl) (fun _ _ _ h => h) hS (Or.inl ⟨by rfl, ?hy6⟩) ?hr6
        case hy6 => (intro wS hSw; (try dsimp only at hSw); go_simp; (try with_reducible rfl))
        try simp only [Act.put, List.setIfInBounds_toArray, List.set_cons_zero, List.set_cons_succ, List.getElem_toArray, List.getElem_cons_zero, List.getElem_cons_succ]
        refine wpN_take (i := 6) (v := ?v7) rfl (by kernel_rfl) (fun _ _ _ h => h) hS (Or.inl ⟨by rfl, ?hy7⟩) ?hr7
        case hy7 => (intro wS hSw; (try dsimp only at hSw); go_simp; (try with_reducible rfl))
        try simp only [Act.put, List.setIfInBounds_toArray, List.set_cons_zero, List.set_cons_succ, List.getElem_toArray, List.getElem_cons_zero, List.getElem_cons_succ]
        refine wpN_take (i := 7) (v := ?v8) rfl (by kernel_rfl) (fun _ _ _ h => h) hS (Or.inl ⟨by rfl, ?hy8⟩) ?hr8
        case hy8 => (intro wS hSw; (try dsimp only at hSw); go_simp; (try with_reducible rfl))
        try simp only [Act.put, List.setIfInBounds_toArray, List.set_cons_zero, List.set_cons_succ, List.getElem_toArray, List.getElem_cons_zero, List.getElem_cons_succ]
        refine wpN_take (i := 8) (v := ?v9) rfl (by kernel_rfl) (fun _ _ _ h => h) hS (Or.inl ⟨by rfl, ?hy9⟩) ?hr9
        case hy9 => (intro wS hSw; (try dsimp only at hSw); go_simp; (try with_reducible rfl))
        try simp only [Act.put, List.setIfInBounds_toArray, List.set_cons_zero, List.set_cons_succ, List.getElem_toArray, List.getElem_cons_zero, List.getElem_cons_succ]
        refine wpN_step (i := 9) (by kernel_rfl) rfl (fun K hK => ?_)
        go_simp
        refine (H3.out k hlt hlt' _ (hw.below hb).drew (hw'.below hb).drew).mono ?_
        rintro e w1 ⟨rfl, hb1⟩
        have hB : Below w.heap.size w w1 := hb.drew.trans (hb1.mono (by have := hb.size; simp; omega))
        have hKp : Keep (fun _ => True) wr w1 := ((Keep.refl _ _).drew).below hb1
        have hS : (w1).cell? ⟨bl, off + k * 2, none⟩ = some (.slice (A k) (N k) (C k)) ∧ (w1).cell? ⟨bl, off + k * 2 + 1, none⟩ = some (.int .i64 (B k)) ∧ (w1).cell? ⟨bl', off' + k * 2, none⟩ = some (.slice (A' k) (N' k) (C' k)) ∧ (w1).cell? ⟨bl', off' + k * 2 + 1, none⟩ = some (.int .i64 (B' k)) := ⟨hKp _ _ _ trivial e1, hKp _ _ _ trivial e2, hKp _ _ _ trivial e1', hKp _ _ _ trivial e2'⟩
        rw [orl_zero, Hd.out] at hr
        clear Hd
        generalize Ty.cmp l[k] l'[k] = x at *
        refine hK.out _ _ (fun _ => hS) ?_
        clear hK K
        try simp only [Act.put, List.setIfInBounds_toArray, List.set_cons_zero, List.set_cons_succ, List.getElem_toArray, List.getElem_cons_zero, List.getElem_cons_succ]
        refine wpN_step (i := 10) (by kernel_rfl) rfl (fun K hK => ?_)
        go_simp
        refine hK.out _ _ (fun h => absurd h (by decide)) ?_
        clear hK K
        try simp only [Act.put, List.setIfInBounds_toArray, List.set_cons_zero, List.set_cons_succ, List.getElem_toArray, List.getElem_cons_zero, List.getElem_cons_succ]
        refine wpN_done (by kernel_rfl) ?_
        refine NoPanic.normal ?_
        go_wp2_with fail
        go_roundw
        case rel => exact ⟨k + 1, x, by go_num, rfl, by omega, fun _ => Hll.out, hr, hB⟩
        case measure => simp [intOf]; omega
      · have g1 : (m == 0) = false := by simpa using hm0'
        have hr2 : Hid (r = m) := by
          have h := hr.out
          rw [orl_ne hm0'] at h
          exact h
        go_wp2_with fail
        go_ret
        exact ⟨by rw [hr2.out]; rfl, hb⟩
    · have hr2 : Hid (r = m) := by
        have h := hr.out
        rw [List.drop_of_length_le (show l.length ≤ k by omega), Ty.cmps_nil, orl_zero_right] at h
        exact h
      have i1 : ¬ (k : Int) < (l.length : Int) := by omega
      go_wp2_with fail
      go_ret
      exact ⟨by rw [hr2.out]; rfl, hb⟩

set_option maxRecDepth 100000 in
set_option maxHeartbeats 1600000 in
theorem allT_k {F F' : Nat → Prop} {w0 w0' : World} {v v' : Value} {l l' : List Tm} (h : IsSl rpTm F w0 v l) (h' : IsSl rpTm F' w0' v' l') (hcmp : ∀ t ∈ l, CmpTm t) (hz : ∀ t ∈ l, t.full ≤ 400000) (hz' : ∀ t ∈ l', t.full ≤ 400000) (w : World) (hw : Keep F w0 w) (hw' : Keep F' w0' w) :
    Calls Tryz.prog 116 #[v, v', .func (.func 76) #[] #[]] w (RetI (orl (sgn l.length l'.length) (Tm.cmps l l')) w) := by
  obtain ⟨a, c, rfl⟩ := sl_shape' h
  obtain ⟨a', c', rfl⟩ := sl_shape' h'
  obtain ⟨_, hm, bl, off, PA, A, PN, PC, N, C, Kd, Ix, ha, h1, h2, h3, h4, h5⟩ := sl_cells6 h
  obtain ⟨_, hm', bl', off', PA', A', PN', PC', N', C', Kd', Ix', ha', h1', h2', h3', h4', h5'⟩ := sl_cells6 h'
  clear h h'
  unfold maxLen at hm hm'
  have H3 : Hid (∀ i (h : i < l.length) (h' : i < l'.length) (w : World), Keep F w0 w → Keep F' w0' w → Calls Tryz.prog 76 #[.agg #[.slice (PA i) (PN i) (PC i), .int .i64 (Kd i), .int .i64 (Ix i), .slice (A i) (N i) (C i)], .agg #[.slice (PA' i) (PN' i) (PC' i), .int .i64 (Kd' i), .int .i64 (Ix' i), .slice (A' i) (N' i) (C' i)]] w (RetI (Tm.cmp l[i] l'[i]) w)) :=
    fun i h h' w hw hw' => hcmp _ (List.getElem_mem h) _ _ _ _ _ _ (h5 i h) _ _ _ _ _ _ _ (h5' i h') w hw hw' (hz _ (List.getElem_mem h)) (hz' _ (List.getElem_mem h'))
  clear h5 h5' hz hz' hcmp
  obtain ⟨r, hr⟩ : ∃ r, orl (sgn l.length l'.length) (Tm.cmps l l') = r := ⟨_, rfl⟩
  have Hr : Hid (r = orl (sgn l.length l'.length) (Tm.cmps l l')) := hr.symm
  rw [hr]
  clear hr
  go_enter Tryz.func116, Tryz.ntmps116
  go_wp2_with fail
  refine (compare_i _ _ _).mono ?_
  rintro e w3 ⟨rfl, hb3⟩
  have Hm : Hid (sgn l.length l'.length = 0 → l.length = l'.length) := fun h => by have := sgn_zero.1 h; omega
  generalize sgn l.length l'.length = m at *
  go_wp2_with fail
  go_loopw [7, 8] (fun x i wr => ∃ (k : Nat) (m : Int), i = .int .i64 k ∧ x = .int .i64 m ∧ k ≤ l.length ∧ Hid (m = 0 → l.length = l'.length) ∧ Hid (r = orl m (Tm.cmps (l.drop k) (l'.drop k))) ∧ Below w.heap.size w wr) (fun _ i _ => l.length - (intOf i).toNat)
  case atStart => exact ⟨0, m, rfl, rfl, by omega, Hm, Hr, hb3⟩
  case round =>
    clear Hm Hr hb3
    obtain ⟨k, m, rfl, hxm, hk, hm0, hr, hb⟩ := hrel
    have hxm := hxm.symm
    subst hxm
    by_cases hlt : k < l.length
    · have i1 : (k : Int) < (l.length : Int) := by omega
      by_cases hm0' : m = 0
      · have Hll := Lib.hid (hm0.out hm0')
        subst hm0'
        have hlt' : k < l'.length := by rw [← Hll.out]; exact hlt
        obtain ⟨rfl, hF⟩ := ha (by omega)
        obtain ⟨rfl, hF'⟩ := ha' (by omega)
        have e1 : wr.cell? ⟨bl, off + k * 4, none⟩ = some (.slice (PA k) (PN k) (PC k)) := (hw.below hb) _ _ _ hF (h1 k hlt)
        have e2 : wr.cell? ⟨bl, off + k * 4 + 1, none⟩ = some (.int .i64 (Kd k)) := (hw.below hb) _ _ _ hF (h2 k hlt)
        have e3 : wr.cell? ⟨bl, off + k * 4 + 2, none⟩ = some (.int .i64 (Ix k)) := (hw.below hb) _ _ _ hF (h3 k hlt)
        have e4 : wr.cell? ⟨bl, off + k * 4 + 3, none⟩ = some (.slice (A k) (N k) (C k)) := (hw.below hb) _ _ _ hF (h4 k hlt)
        have e1' : wr.cell? ⟨bl', off' + k * 4, none⟩ = some (.slice (PA' k) (PN' k) (PC' k)) := (hw'.below hb) _ _ _ hF' (h1' k hlt')
        have e2' : wr.cell? ⟨bl', off' + k * 4 + 1, none⟩ = some (.int .i64 (Kd' k)) := (hw'.below hb) _ _ _ hF' (h2' k hlt')
        have e3' : wr.cell? ⟨bl', off' + k * 4 + 2, none⟩ = some (.int .i64 (Ix' k)) := (hw'.below hb) _ _ _ hF' (h3' k hlt')
        have e4' : wr.cell? ⟨bl', off' + k * 4 + 3, none⟩ = some (.slice (A' k) (N' k) (C' k)) := (hw'.below hb) _ _ _ hF' (h4' k hlt')
        have i0 : (0 : Int) ≤ (k : Int) := Int.natCast_nonneg _
        have i2 : (k : Int) < (l'.length : Int) := by omega
        have Hd := Lib.hid (Tm.cmps_drop hlt hlt')
        go_wp2_with fail
        refine wp_region_noPanic (wp_region_need (S := fun w' => w'.cell? ⟨bl, off + k * 4, none⟩ = some (.slice (PA k) (PN k) (PC k)) ∧ w'.cell? ⟨bl, off + k * 4 + 1, none⟩ = some (.int .i64 (Kd k)) ∧ w'.cell? ⟨bl, off + k * 4 + 2, none⟩ = some (.int .i64 (Ix k)) ∧ w'.cell? ⟨bl, off + k * 4 + 3, none⟩ = some (.slice (A k) (N k) (C k)) ∧ w'.cell? ⟨bl', off' + k * 4, none⟩ = some (.slice (PA' k) (PN' k) (PC' k)) ∧ w'.cell? ⟨bl', off' + k * 4 + 1, none⟩ = some (.int .i64 (Kd' k)) ∧ w'.cell? ⟨bl', off' + k * 4 + 2, none⟩ = some (.int .i64 (Ix' k)) ∧ w'.cell? ⟨bl', off' + k * 4 + 3, none⟩ = some (.slice (A' k) (N' k) (C' k))) (by kernel_rfl) ?_)
        have hS : (wr.drew).cell? ⟨bl, off + k * 4, none⟩ = some (.slice (PA k) (PN k) (PC k)) ∧ (wr.drew).cell? ⟨bl, off + k * 4 + 1, none⟩ = some (.int .i64 (Kd k)) ∧ (wr.drew).cell? ⟨bl, off + k * 4 + 2, none⟩ = some (.int .i64 (Ix k)) ∧ (wr.drew).cell? ⟨bl, off + k * 4 + 3, none⟩ = some (.slice (A k) (N k) (C k)) ∧ (wr.drew).cell? ⟨bl', off' + k * 4, none⟩ = some (.slice (PA' k) (PN' k) (PC' k)) ∧ (wr.drew).cell? ⟨bl', off' + k * 4 + 1, none⟩ = some (.int .i64 (Kd' k)) ∧ (wr.drew).cell? ⟨bl', off' + k * 4 + 2, none⟩ = some (.int .i64 (Ix' k)) ∧ (wr.drew).cell? ⟨bl', off' + k * 4 + 3, none⟩ = some (.slice (A' k) (N' k) (C' k)) := ⟨e1, e2, e3, e4, e1', e2', e3', e4'⟩
        refine wpN_take (i := 0) (v := ?v10) rfl (by kernel_rfl) (fun _ _ _ h => h) hS (Or.inl ⟨by rfl, ?hy10⟩) ?hr10
        case hy10 => (intro wS hSw; (try dsimp only at hSw); go_simp; (try with_reducible rfl))
        try simp only [Act.put, List.setIfInBounds_toArray, List.set_cons_zero, List.set_cons_succ, List.getElem_toArray, List.getElem_cons_zero, List.getElem_cons_succ]
        refine wpN_take (i := 1) (v := ?v11) rfl (by kernel_rfl) (fun _ _ _ h => h) hS (Or.inl ⟨by rfl, ?hy11⟩) ?hr11
        case hy11 => (intro wS hSw; (try dsimp only at hSw); go_simp; (try with_reducible rfl))
        try simp only [Act.put, List.setIfInBounds_toArray, List.set_cons_zero, List.set_cons_succ, List.getElem_toArray, List.getElem_cons_zero, List.getElem_cons_succ]
        refine wpN_take (i := 2) (v := ?v12) rfl (by kernel_rfl) (fun _ _ _ h => h) hS (Or.inl ⟨by rfl, ?hy12⟩) ?hr12
        case hy12 => (intro wS hSw; (try dsimp only at hSw); go_simp; (try with_reducible rfl))
        try simp only [Act.put, List.setIfInBounds_toArray, List.set_cons_zero, List.set_cons_succ, List.getElem_toArray, List.getElem_cons_zero, List.getElem_cons_succ]
        refine wpN_take (i := 3) (v := ?v13) rfl (by kernel_rfl) (fun _ _ _ h => h) hS (Or.inl ⟨by rfl, ?hy13⟩) ?hr13
        case hy13 => (intro wS hSw; (try dsimp only at hSw); go_simp; (try with_reducible rfl))
        try simp only [Act.put, List.setIfInBounds_toArray, List.set_cons_zero, List.set_cons_succ, List.getElem_toArray, List.getElem_cons_zero, List.getElem_cons_succ]
        refine wpN_take (i := 4) (v := ?v14) rfl (by kernel_rfl) (fun _ _ _ h => h) hS (Or.inl ⟨by rfl, ?hy14⟩) ?hr14
        case hy14 => (intro wS hSw; (try dsimp only at hSw); go_simp; (try with_reducible rfl))
        try simp only [Act.put, List.setIfInBounds_toArray, List.set_cons_zero, List.set_cons_succ, List.getElem_toArray, List.getElem_cons_zero, List.getElem_cons_succ]
        refine wpN_take (i := 5) (v := ?v15) rfl (by kernel_rfl) (fun _ _ _ h => h) hS (Or.inl ⟨by rfl, ?hy15⟩) ?hr15
        case hy15 => (intro wS hSw; (try dsimp only at hSw); go_simp; (try with_reducible rfl))
        try simp only [Act.put, List.setIfInBounds_toArray, List.set_cons_zero, List.set_cons_succ, List.getElem_toArray, List.getElem_cons_zero, List.getElem_cons_succ]
        refine wpN_take (i := 6) (v := ?v16) rfl (by kernel_rfl) (fun _ _ _ h => h) hS (Or.inl ⟨by rfl, ?hy16⟩) ?hr16
        case hy16 => (intro wS hSw; (try dsimp only at hSw); go_simp; (try with_reducible rfl))
        try simp only [Act.put, List.setIfInBounds_toArray, List.set_cons_zero, List.set_cons_succ, List.getElem_toArray, List.getElem_cons_zero, List.getElem_cons_succ]
        refine wpN_take (i := 7) (v := ?v17) rfl (by kernel_rfl) (fun _ _ _ h => h) hS (Or.inl ⟨by rfl, ?hy17⟩) ?hr17
        case hy17 => (intro wS hSw; (try dsimp only at hSw); go_simp; (try with_reducible rfl))
        try simp only [Act.put, List.setIfInBounds_toArray, List.set_cons_zero, List.set_cons_succ, List.getElem_toArray, List.getElem_cons_zero, List.getElem_cons_succ]
        refine wpN_take (i := 8) (v := ?v18) rfl (by kernel_rfl) (fun _ _ _ h => h) hS (Or.inl ⟨by rfl, ?hy18⟩) ?hr18
        case hy18 => (intro wS hSw; (try dsimp only at hSw); go_simp; (try with_reducible rfl))
        try simp only [Act.put, List.setIfInBounds_toArray, List.set_cons_zero, List.set_cons_succ, List.getElem_toArray, List.getElem_cons_zero, List.getElem_cons_succ]
        refine wpN_step (i := 9) (by kernel_rfl) rfl (fun K hK => ?_)
        go_simp
        refine (H3.out k hlt hlt' _ (hw.below hb).drew (hw'.below hb).drew).mono ?_
        rintro e w1 ⟨rfl, hb1⟩
        have hB : Below w.heap.size w w1 := hb.drew.trans (hb1.mono (by have := hb.size; simp; omega))
        have hKp : Keep (fun _ => True) wr w1 := ((Keep.refl _ _).drew).below hb1
        have hS : (w1).cell? ⟨bl, off + k * 4, none⟩ = some (.slice (PA k) (PN k) (PC k)) ∧ (w1).cell? ⟨bl, off + k * 4 + 1, none⟩ = some (.int .i64 (Kd k)) ∧ (w1).cell? ⟨bl, off + k * 4 + 2, none⟩ = some (.int .i64 (Ix k)) ∧ (w1).cell? ⟨bl, off + k * 4 + 3, none⟩ = some (.slice (A k) (N k) (C k)) ∧ (w1).cell? ⟨bl', off' + k * 4, none⟩ = some (.slice (PA' k) (PN' k) (PC' k)) ∧ (w1).cell? ⟨bl', off' + k * 4 + 1, none⟩ = some (.int .i64 (Kd' k)) ∧ (w1).cell? ⟨bl', off' + k * 4 + 2, none⟩ = some (.int .i64 (Ix' k)) ∧ (w1).cell? ⟨bl', off' + k * 4 + 3, none⟩ = some (.slice (A' k) (N' k) (C' k)) := ⟨hKp _ _ _ trivial e1, hKp _ _ _ trivial e2, hKp _ _ _ trivial e3, hKp _ _ _ trivial e4, hKp _ _ _ trivial e1', hKp _ _ _ trivial e2', hKp _ _ _ trivial e3', hKp _ _ _ trivial e4'⟩
        rw [orl_zero, Hd.out] at hr
        clear Hd
        generalize Tm.cmp l[k] l'[k] = x at *
        refine hK.out _ _ (fun _ => hS) ?_
        clear hK K
        try simp only [Act.put, List.setIfInBounds_toArray, List.set_cons_zero, List.set_cons_succ, List.getElem_toArray, List.getElem_cons_zero, List.getElem_cons_succ]
        refine wpN_step (i := 10) (by kernel_rfl) rfl (fun K hK => ?_)
        go_simp
        refine hK.out _ _ (fun h => absurd h (by decide)) ?_
        clear hK K
        try simp only [Act.put, List.setIfInBounds_toArray, List.set_cons_zero, List.set_cons_succ, List.getElem_toArray, List.getElem_cons_zero, List.getElem_cons_succ]
        refine wpN_done (by kernel_rfl) ?_
        refine NoPanic.normal ?_
        go_wp2_with fail
        go_roundw
        case rel => exact ⟨k + 1, x, by go_num, rfl, by omega, fun _ => Hll.out, hr, hB⟩
        case measure => simp [intOf]; omega
      · have g1 : (m == 0) = false := by simpa using hm0'
        have hr2 : Hid (r = m) := by
          have h := hr.out
          rw [orl_ne hm0'] at h
          exact h
        go_wp2_with fail
        go_ret
        exact ⟨by rw [hr2.out]; rfl, hb⟩
    · have hr2 : Hid (r = m) := by
        have h := hr.out
        rw [List.drop_of_length_le (show l.length ≤ k by omega), Tm.cmps_nil, orl_zero_right] at h
        exact h
      have i1 : ¬ (k : Int) < (l.length : Int) := by omega
      go_wp2_with fail
      go_ret
      exact ⟨by rw [hr2.out]; rfl, hb⟩

end Go.Proofs.YtdmiekaeodcehaaGreat

namespace Go.Proofs.YtdmiekaeodcehaaGreat
open Go.RowKit

set_option maxRecDepth 100000 in
set_option maxHeartbeats 8000000 in
theorem compare6_k : ∀ t : Tm, CmpTm t := Tm.ind fun binds k i args ih => by
  intro F w0 b0 k0 i0 a0 ht F' w0' b0' k0' i0' a0' u hu w hw hw' hz hz'
  obtain ⟨binds', k', i', args'⟩ := u
  have Hs := Lib.hid fun (w : World) (hw : Keep F w0 w) => size6_k (ht.keep hw) (by omega)
  have Hs' := Lib.hid fun (w : World) (hw : Keep F' w0' w) => size6_k (hu.keep hw) (by omega)
  obtain ⟨rfl, rfl, hb, hs⟩ := ht.inv
  obtain ⟨rfl, rfl, hb', hs'⟩ := hu.inv
  simp only [Tm.binds, Tm.kind, Tm.index, Tm.args] at *
  have HB := Lib.hid fun (w : World) (hw : Keep F w0 w) (hw' : Keep F' w0' w) => allB_k hb hb' (fun t ht => by have := Ty.size_mem ht; rw [Tm.full_eq] at hz; omega) (fun t ht => by have := Ty.size_mem ht; rw [Tm.full_eq] at hz'; omega) w hw hw'
  have HT := Lib.hid fun (w : World) (hw : Keep F w0 w) (hw' : Keep F' w0' w) => allT_k hs hs' ih (fun t ht => by have := Tm.full_mem ht; rw [Tm.full_eq] at hz; omega) (fun t ht => by have := Tm.full_mem ht; rw [Tm.full_eq] at hz'; omega) w hw hw'
  obtain ⟨pa, pc, rfl⟩ := hb.shape
  obtain ⟨pa', pc', rfl⟩ := hb'.shape
  obtain ⟨a, c, rfl⟩ := hs.shape
  obtain ⟨a', c', rfl⟩ := hs'.shape
  clear hb hb' hs hs' ht hu ih hz hz'
  obtain ⟨z, hz0⟩ : ∃ z, (Tm.mk binds k i args).size = z := ⟨_, rfl⟩
  obtain ⟨z', hz0'⟩ : ∃ z', (Tm.mk binds' k' i' args').size = z' := ⟨_, rfl⟩
  obtain ⟨r, hr⟩ : ∃ r, Tm.cmp (.mk binds k i args) (.mk binds' k' i' args') = r := ⟨_, rfl⟩
  have Hr := Lib.hid (Tm.cmp_mk binds k i args binds' k' i' args')
  rw [hr, hz0, hz0'] at Hr
  rw [hz0] at Hs
  rw [hz0'] at Hs'
  rw [hr]
  clear hr hz0 hz0'
  obtain ⟨m1, hm1⟩ : ∃ m, Tm.cmpB binds binds' = m := ⟨_, rfl⟩
  obtain ⟨m2, hm2⟩ : ∃ m, orl (sgn args.length args'.length) (Tm.cmps args args') = m := ⟨_, rfl⟩
  rw [hm1, hm2] at Hr
  rw [hm1] at HB
  rw [hm2] at HT
  clear hm1 hm2
  obtain ⟨n1, hn1⟩ : ∃ n, binds.length = n := ⟨_, rfl⟩
  obtain ⟨n2, hn2⟩ : ∃ n, binds'.length = n := ⟨_, rfl⟩
  obtain ⟨n3, hn3⟩ : ∃ n, args.length = n := ⟨_, rfl⟩
  obtain ⟨n4, hn4⟩ : ∃ n, args'.length = n := ⟨_, rfl⟩
  rw [hn1, hn3] at Hs
  rw [hn2, hn4] at Hs'
  rw [hn1, hn2] at HB
  rw [hn3, hn4] at HT
  rw [hn1, hn2, hn3, hn4]
  clear hn1 hn2 hn3 hn4
  obtain ⟨wB, hwB⟩ : ∃ wB, (w.alloc (.cells #[.slice pa n1 pc, .int .i64 k, .int .i64 i, .slice a n3 c] 36)).alloc (.cells #[.slice pa' n2 pc', .int .i64 k', .int .i64 i', .slice a' n4 c'] 36) = wB := ⟨_, rfl⟩
  have B0 : Below w.heap.size w wB := by rw [← hwB]; exact ((Below.refl _ _).alloc (Nat.le_refl _) _).alloc (by simp) _
  have x0 : Blk wB w.heap.size #[.slice pa n1 pc, .int .i64 k, .int .i64 i, .slice a n3 c] 36 := by rw [← hwB]; exact (Blk.new _ _ _ rfl).alloc _
  have x1 : Blk wB (w.heap.size + 1) #[.slice pa' n2 pc', .int .i64 k', .int .i64 i', .slice a' n4 c'] 36 := by rw [← hwB]; exact Blk.new _ _ _ (by simp)
  go_enter Tryz.func76, Tryz.ntmps76
  go_wp2_with fail
  clear hwB
  refine wp_region_noPanic (wp_region_need (S := fun w' => w'.cell? ⟨w.heap.size, 0, none⟩ = some (.slice pa n1 pc) ∧ w'.cell? ⟨w.heap.size, 1, none⟩ = some (.int .i64 k) ∧ w'.cell? ⟨w.heap.size, 2, none⟩ = some (.int .i64 i) ∧ w'.cell? ⟨w.heap.size, 3, none⟩ = some (.slice a n3 c) ∧ w'.cell? ⟨w.heap.size + 1, 0, none⟩ = some (.slice pa' n2 pc') ∧ w'.cell? ⟨w.heap.size + 1, 1, none⟩ = some (.int .i64 k') ∧ w'.cell? ⟨w.heap.size + 1, 2, none⟩ = some (.int .i64 i') ∧ w'.cell? ⟨w.heap.size + 1, 3, none⟩ = some (.slice a' n4 c')) (by kernel_rfl) ?_)
  have hS : (wB.drew).cell? ⟨w.heap.size, 0, none⟩ = some (.slice pa n1 pc) ∧ (wB.drew).cell? ⟨w.heap.size, 1, none⟩ = some (.int .i64 k) ∧ (wB.drew).cell? ⟨w.heap.size, 2, none⟩ = some (.int .i64 i) ∧ (wB.drew).cell? ⟨w.heap.size, 3, none⟩ = some (.slice a n3 c) ∧ (wB.drew).cell? ⟨w.heap.size + 1, 0, none⟩ = some (.slice pa' n2 pc') ∧ (wB.drew).cell? ⟨w.heap.size + 1, 1, none⟩ = some (.int .i64 k') ∧ (wB.drew).cell? ⟨w.heap.size + 1, 2, none⟩ = some (.int .i64 i') ∧ (wB.drew).cell? ⟨w.heap.size + 1, 3, none⟩ = some (.slice a' n4 c') := ⟨x0.drew.cell rfl, x0.drew.cell rfl, x0.drew.cell rfl, x0.drew.cell rfl, x1.drew.cell rfl, x1.drew.cell rfl, x1.drew.cell rfl, x1.drew.cell rfl⟩
  refine wpN_take (i := 0) (v := ?v1) rfl (by kernel_rfl) (fun _ _ _ h => h) hS (Or.inl ⟨by rfl, ?hy1⟩) ?hr1
  case hy1 => (intro wS hSw; (try dsimp only at hSw); go_simp; (try with_reducible rfl))
  try simp only [Act.put, List.setIfInBounds_toArray, List.set_cons_zero, List.set_cons_succ, List.getElem_toArray, List.getElem_cons_zero, List.getElem_cons_succ]
  refine wpN_take (i := 2) (v := ?v2) rfl (by kernel_rfl) (fun _ _ _ h => h) hS (Or.inl ⟨by rfl, ?hy2⟩) ?hr2
  case hy2 => (intro wS hSw; (try dsimp only at hSw); go_simp; (try with_reducible rfl))
  try simp only [Act.put, List.setIfInBounds_toArray, List.set_cons_zero, List.set_cons_succ, List.getElem_toArray, List.getElem_cons_zero, List.getElem_cons_succ]
  refine wpN_take (i := 5) (v := ?v3) rfl (by kernel_rfl) (fun _ _ _ h => h) hS (Or.inl ⟨by rfl, ?hy3⟩) ?hr3
  case hy3 => (intro wS hSw; (try dsimp only at hSw); go_simp; (try with_reducible rfl))
  try simp only [Act.put, List.setIfInBounds_toArray, List.set_cons_zero, List.set_cons_succ, List.getElem_toArray, List.getElem_cons_zero, List.getElem_cons_succ]
  refine wpN_take (i := 6) (v := ?v4) rfl (by kernel_rfl) (fun _ _ _ h => h) hS (Or.inl ⟨by rfl, ?hy4⟩) ?hr4
  case hy4 => (intro wS hSw; (try dsimp only at hSw); go_simp; (try with_reducible rfl))
  try simp only [Act.put, List.setIfInBounds_toArray, List.set_cons_zero, List.set_cons_succ, List.getElem_toArray, List.getElem_cons_zero, List.getElem_cons_succ]
  refine wpN_take (i := 7) (v := ?v5) rfl (by kernel_rfl) (fun _ _ _ h => h) hS (Or.inl ⟨by rfl, ?hy5⟩) ?hr5
  case hy5 => (intro wS hSw; (try dsimp only at hSw); go_simp; (try with_reducible rfl))
  try simp only [Act.put, List.setIfInBounds_toArray, List.set_cons_zero, List.set_cons_succ, List.getElem_toArray, List.getElem_cons_zero, List.getElem_cons_succ]
  refine wpN_take (i := 8) (v := ?v6) rfl (by kernel_rfl) (fun _ _ _ h => h) hS (Or.inl ⟨by rfl, ?hy6⟩) ?hr6
  case hy6 => (intro wS hSw; (try dsimp only at hSw); go_simp; (try with_reducible rfl))
  try simp only [Act.put, List.setIfInBounds_toArray, List.set_cons_zero, List.set_cons_succ, List.getElem_toArray, List.getElem_cons_zero, List.getElem_cons_succ]
  refine wpN_take (i := 10) (v := ?v7) rfl (by kernel_rfl) (fun _ _ _ h => h) hS (Or.inl ⟨by rfl, ?hy7⟩) ?hr7
  case hy7 => (intro wS hSw; (try dsimp only at hSw); go_simp; (try with_reducible rfl))
  try simp only [Act.put, List.setIfInBounds_toArray, List.set_cons_zero, List.set_cons_succ, List.getElem_toArray, List.getElem_cons_zero, List.getElem_cons_succ]
  refine wpN_take (i := 11) (v := ?v8) rfl (by kernel_rfl) (fun _ _ _ h => h) hS (Or.inl ⟨by rfl, ?hy8⟩) ?hr8
  case hy8 => (intro wS hSw; (try dsimp only at hSw); go_simp; (try with_reducible rfl))
  try simp only [Act.put, List.setIfInBounds_toArray, List.set_cons_zero, List.set_cons_succ, List.getElem_toArray, List.getElem_cons_zero, List.getElem_cons_succ]
  refine wpN_take (i := 12) (v := ?v9) rfl (by kernel_rfl) (fun _ _ _ h => h) hS (Or.inl ⟨by rfl, ?hy9⟩) ?hr9
  case hy9 => (intro wS hSw; (try dsimp only at hSw); go_simp; (try with_reducible rfl))
  try simp only [Act.put, List.setIfInBounds_toArray, List.set_cons_zero, List.set_cons_succ, List.getElem_toArray, List.getElem_cons_zero, List.getElem_cons_succ]
  refine wpN_take (i := 13) (v := ?v10) rfl (by kernel_rfl) (fun _ _ _ h => h) hS (Or.inl ⟨by rfl, ?hy10⟩) ?hr10
  case hy10 => (intro wS hSw; (try dsimp only at hSw); go_simp; (try with_reducible rfl))
  try simp only [Act.put, List.setIfInBounds_toArray, List.set_cons_zero, List.set_cons_succ, List.getElem_toArray, List.getElem_cons_zero, List.getElem_cons_succ]
  refine wpN_take (i := 14) (v := ?v11) rfl (by kernel_rfl) (fun _ _ _ h => h) hS (Or.inl ⟨by rfl, ?hy11⟩) ?hr11
  case hy11 => (intro wS hSw; (try dsimp only at hSw); go_simp; (try with_reducible rfl))
  try simp only [Act.put, List.setIfInBounds_toArray, List.set_cons_zero, List.set_cons_succ, List.getElem_toArray, List.getElem_cons_zero, List.getElem_cons_succ]
  refine wpN_take (i := 15) (v := ?v12) rfl (by kernel_rfl) (fun _ _ _ h => h) hS (Or.inl ⟨by rfl, ?hy12⟩) ?hr12
  case hy12 => (intro wS hSw; (try dsimp only at hSw); go_simp; (try with_reducible rfl))
  try simp only [Act.put, List.setIfInBounds_toArray, List.set_cons_zero, List.set_cons_succ, List.getElem_toArray, List.getElem_cons_zero, List.getElem_cons_succ]
  refine wpN_take (i := 17) (v := ?v13) rfl (by kernel_rfl) (fun _ _ _ h => h) hS (Or.inl ⟨by rfl, ?hy13⟩) ?hr13
  case hy13 => (intro wS hSw; (try dsimp only at hSw); go_simp; (try with_reducible rfl))
  try simp only [Act.put, List.setIfInBounds_toArray, List.set_cons_zero, List.set_cons_succ, List.getElem_toArray, List.getElem_cons_zero, List.getElem_cons_succ]
  refine wpN_take (i := 18) (v := ?v14) rfl (by kernel_rfl) (fun _ _ _ h => h) hS (Or.inl ⟨by rfl, ?hy14⟩) ?hr14
  case hy14 => (intro wS hSw; (try dsimp only at hSw); go_simp; (try with_reducible rfl))
  try simp only [Act.put, List.setIfInBounds_toArray, List.set_cons_zero, List.set_cons_succ, List.getElem_toArray, List.getElem_cons_zero, List.getElem_cons_succ]
  refine wpN_take (i := 19) (v := ?v15) rfl (by kernel_rfl) (fun _ _ _ h => h) hS (Or.inl ⟨by rfl, ?hy15⟩) ?hr15
  case hy15 => (intro wS hSw; (try dsimp only at hSw); go_simp; (try with_reducible rfl))
  try simp only [Act.put, List.setIfInBounds_toArray, List.set_cons_zero, List.set_cons_succ, List.getElem_toArray, List.getElem_cons_zero, List.getElem_cons_succ]
  refine wpN_take (i := 20) (v := ?v16) rfl (by kernel_rfl) (fun _ _ _ h => h) hS (Or.inl ⟨by rfl, ?hy16⟩) ?hr16
  case hy16 => (intro wS hSw; (try dsimp only at hSw); go_simp; (try with_reducible rfl))
  try simp only [Act.put, List.setIfInBounds_toArray, List.set_cons_zero, List.set_cons_succ, List.getElem_toArray, List.getElem_cons_zero, List.getElem_cons_succ]
  refine wpN_take (i := 21) (v := ?v17) rfl (by kernel_rfl) (fun _ _ _ h => h) hS (Or.inl ⟨by rfl, ?hy17⟩) ?hr17
  case hy17 => (intro wS hSw; (try dsimp only at hSw); go_simp; (try with_reducible rfl))
  try simp only [Act.put, List.setIfInBounds_toArray, List.set_cons_zero, List.set_cons_succ, List.getElem_toArray, List.getElem_cons_zero, List.getElem_cons_succ]
  refine wpN_take (i := 22) (v := ?v18) rfl (by kernel_rfl) (fun _ _ _ h => h) hS (Or.inl ⟨by rfl, ?hy18⟩) ?hr18
  case hy18 => (intro wS hSw; (try dsimp only at hSw); go_simp; (try with_reducible rfl))
  try simp only [Act.put, List.setIfInBounds_toArray, List.set_cons_zero, List.set_cons_succ, List.getElem_toArray, List.getElem_cons_zero, List.getElem_cons_succ]
  refine wpN_take (i := 24) (v := ?v19) rfl (by kernel_rfl) (fun _ _ _ h => h) hS (Or.inl ⟨by rfl, ?hy19⟩) ?hr19
  case hy19 => (intro wS hSw; (try dsimp only at hSw); go_simp; (try with_reducible rfl))
  try simp only [Act.put, List.setIfInBounds_toArray, List.set_cons_zero, List.set_cons_succ, List.getElem_toArray, List.getElem_cons_zero, List.getElem_cons_succ]
  refine wpN_take (i := 25) (v := ?v20) rfl (by kernel_rfl) (fun _ _ _ h => h) hS (Or.inl ⟨by rfl, ?hy20⟩) ?hr20
  case hy20 => (intro wS hSw; (try dsimp only at hSw); go_simp; (try with_reducible rfl))
  try simp only [Act.put, List.setIfInBounds_toArray, List.set_cons_zero, List.set_cons_succ, List.getElem_toArray, List.getElem_cons_zero, List.getElem_cons_succ]
  refine wpN_take (i := 26) (v := ?v21) rfl (by kernel_rfl) (fun _ _ _ h => h) hS (Or.inl ⟨by rfl, ?hy21⟩) ?hr21
  case hy21 => (intro wS hSw; (try dsimp only at hSw); go_simp; (try with_reducible rfl))
  try simp only [Act.put, List.setIfInBounds_toArray, List.set_cons_zero, List.set_cons_succ, List.getElem_toArray, List.getElem_cons_zero, List.getElem_cons_succ]
  refine wpN_take (i := 27) (v := ?v22) rfl (by kernel_rfl) (fun _ _ _ h => h) hS (Or.inl ⟨by rfl, ?hy22⟩) ?hr22
  case hy22 => (intro wS hSw; (try dsimp only at hSw); go_simp; (try with_reducible rfl))
  try simp only [Act.put, List.setIfInBounds_toArray, List.set_cons_zero, List.set_cons_succ, List.getElem_toArray, List.getElem_cons_zero, List.getElem_cons_succ]
  refine wpN_step (i := 1) (by kernel_rfl) rfl (fun K hK => ?_)
  go_simp
  refine (Hs.out _ (hw.below B0).drew).mono ?_
  rintro e w1 ⟨rfl, hb0⟩
  have B1 := B0.drew.trans (hb0.mono B0.size)
  have y0 := x0.drew.below hb0
  have v0 := x1.drew.below hb0
  clear x0 x1 B0 hb0
  have hS : (w1).cell? ⟨w.heap.size, 0, none⟩ = some (.slice pa n1 pc) ∧ (w1).cell? ⟨w.heap.size, 1, none⟩ = some (.int .i64 k) ∧ (w1).cell? ⟨w.heap.size, 2, none⟩ = some (.int .i64 i) ∧ (w1).cell? ⟨w.heap.size, 3, none⟩ = some (.slice a n3 c) ∧ (w1).cell? ⟨w.heap.size + 1, 0, none⟩ = some (.slice pa' n2 pc') ∧ (w1).cell? ⟨w.heap.size + 1, 1, none⟩ = some (.int .i64 k') ∧ (w1).cell? ⟨w.heap.size + 1, 2, none⟩ = some (.int .i64 i') ∧ (w1).cell? ⟨w.heap.size + 1, 3, none⟩ = some (.slice a' n4 c') := ⟨y0.cell rfl, y0.cell rfl, y0.cell rfl, y0.cell rfl, v0.cell rfl, v0.cell rfl, v0.cell rfl, v0.cell rfl⟩
  refine hK.out _ _ (fun _ => hS) ?_
  clear hK K
  try simp only [Act.put, List.setIfInBounds_toArray, List.set_cons_zero, List.set_cons_succ, List.getElem_toArray, List.getElem_cons_zero, List.getElem_cons_succ]
  refine wpN_step (i := 3) (by kernel_rfl) rfl (fun K hK => ?_)
  go_simp
  refine (Hs'.out _ (hw'.below B1)).mono ?_
  rintro e w2 ⟨rfl, hb1⟩
  have B2 := B1.trans (hb1.mono B1.size)
  have y1 := y0.below hb1
  have v1 := v0.below hb1
  clear y0 v0 B1 hb1
  have hS : (w2).cell? ⟨w.heap.size, 0, none⟩ = some (.slice pa n1 pc) ∧ (w2).cell? ⟨w.heap.size, 1, none⟩ = some (.int .i64 k) ∧ (w2).cell? ⟨w.heap.size, 2, none⟩ = some (.int .i64 i) ∧ (w2).cell? ⟨w.heap.size, 3, none⟩ = some (.slice a n3 c) ∧ (w2).cell? ⟨w.heap.size + 1, 0, none⟩ = some (.slice pa' n2 pc') ∧ (w2).cell? ⟨w.heap.size + 1, 1, none⟩ = some (.int .i64 k') ∧ (w2).cell? ⟨w.heap.size + 1, 2, none⟩ = some (.int .i64 i') ∧ (w2).cell? ⟨w.heap.size + 1, 3, none⟩ = some (.slice a' n4 c') := ⟨y1.cell rfl, y1.cell rfl, y1.cell rfl, y1.cell rfl, v1.cell rfl, v1.cell rfl, v1.cell rfl, v1.cell rfl⟩
  refine hK.out _ _ (fun _ => hS) ?_
  clear hK K
  try simp only [Act.put, List.setIfInBounds_toArray, List.set_cons_zero, List.set_cons_succ, List.getElem_toArray, List.getElem_cons_zero, List.getElem_cons_succ]
  refine wpN_step (i := 4) (by kernel_rfl) rfl (fun K hK => ?_)
  go_simp
  refine (compare_i _ _ _).mono ?_
  rintro e w3 ⟨rfl, hb2⟩
  have B3 := B2.trans (hb2.mono B2.size)
  have y2 := y1.below hb2
  have v2 := v1.below hb2
  clear y1 v1 B2 hb2
  have hS : (w3).cell? ⟨w.heap.size, 0, none⟩ = some (.slice pa n1 pc) ∧ (w3).cell? ⟨w.heap.size, 1, none⟩ = some (.int .i64 k) ∧ (w3).cell? ⟨w.heap.size, 2, none⟩ = some (.int .i64 i) ∧ (w3).cell? ⟨w.heap.size, 3, none⟩ = some (.slice a n3 c) ∧ (w3).cell? ⟨w.heap.size + 1, 0, none⟩ = some (.slice pa' n2 pc') ∧ (w3).cell? ⟨w.heap.size + 1, 1, none⟩ = some (.int .i64 k') ∧ (w3).cell? ⟨w.heap.size + 1, 2, none⟩ = some (.int .i64 i') ∧ (w3).cell? ⟨w.heap.size + 1, 3, none⟩ = some (.slice a' n4 c') := ⟨y2.cell rfl, y2.cell rfl, y2.cell rfl, y2.cell rfl, v2.cell rfl, v2.cell rfl, v2.cell rfl, v2.cell rfl⟩
  refine hK.out _ _ (fun _ => hS) ?_
  clear hK K
  try simp only [Act.put, List.setIfInBounds_toArray, List.set_cons_zero, List.set_cons_succ, List.getElem_toArray, List.getElem_cons_zero, List.getElem_cons_succ]
  refine wpN_step (i := 9) (by kernel_rfl) rfl (fun K hK => ?_)
  go_simp
  refine (HB.out _ (hw.below B3) (hw'.below B3)).mono ?_
  rintro e w4 ⟨rfl, hb3⟩
  have B4 := B3.trans (hb3.mono B3.size)
  have y3 := y2.below hb3
  have v3 := v2.below hb3
  clear y2 v2 B3 hb3
  have hS : (w4).cell? ⟨w.heap.size, 0, none⟩ = some (.slice pa n1 pc) ∧ (w4).cell? ⟨w.heap.size, 1, none⟩ = some (.int .i64 k) ∧ (w4).cell? ⟨w.heap.size, 2, none⟩ = some (.int .i64 i) ∧ (w4).cell? ⟨w.heap.size, 3, none⟩ = some (.slice a n3 c) ∧ (w4).cell? ⟨w.heap.size + 1, 0, none⟩ = some (.slice pa' n2 pc') ∧ (w4).cell? ⟨w.heap.size + 1, 1, none⟩ = some (.int .i64 k') ∧ (w4).cell? ⟨w.heap.size + 1, 2, none⟩ = some (.int .i64 i') ∧ (w4).cell? ⟨w.heap.size + 1, 3, none⟩ = some (.slice a' n4 c') := ⟨y3.cell rfl, y3.cell rfl, y3.cell rfl, y3.cell rfl, v3.cell rfl, v3.cell rfl, v3.cell rfl, v3.cell rfl⟩
  refine hK.out _ _ (fun _ => hS) ?_
  clear hK K
  try simp only [Act.put, List.setIfInBounds_toArray, List.set_cons_zero, List.set_cons_succ, List.getElem_toArray, List.getElem_cons_zero, List.getElem_cons_succ]
  refine wpN_step (i := 16) (by kernel_rfl) rfl (fun K hK => ?_)
  go_simp
  refine (compare_i _ _ _).mono ?_
  rintro e w5 ⟨rfl, hb4⟩
  have B5 := B4.trans (hb4.mono B4.size)
  have y4 := y3.below hb4
  have v4 := v3.below hb4
  clear y3 v3 B4 hb4
  have hS : (w5).cell? ⟨w.heap.size, 0, none⟩ = some (.slice pa n1 pc) ∧ (w5).cell? ⟨w.heap.size, 1, none⟩ = some (.int .i64 k) ∧ (w5).cell? ⟨w.heap.size, 2, none⟩ = some (.int .i64 i) ∧ (w5).cell? ⟨w.heap.size, 3, none⟩ = some (.slice a n3 c) ∧ (w5).cell? ⟨w.heap.size + 1, 0, none⟩ = some (.slice pa' n2 pc') ∧ (w5).cell? ⟨w.heap.size + 1, 1, none⟩ = some (.int .i64 k') ∧ (w5).cell? ⟨w.heap.size + 1, 2, none⟩ = some (.int .i64 i') ∧ (w5).cell? ⟨w.heap.size + 1, 3, none⟩ = some (.slice a' n4 c') := ⟨y4.cell rfl, y4.cell rfl, y4.cell rfl, y4.cell rfl, v4.cell rfl, v4.cell rfl, v4.cell rfl, v4.cell rfl⟩
  refine hK.out _ _ (fun _ => hS) ?_
  clear hK K
  try simp only [Act.put, List.setIfInBounds_toArray, List.set_cons_zero, List.set_cons_succ, List.getElem_toArray, List.getElem_cons_zero, List.getElem_cons_succ]
  refine wpN_step (i := 23) (by kernel_rfl) rfl (fun K hK => ?_)
  go_simp
  refine (compare_i _ _ _).mono ?_
  rintro e w6 ⟨rfl, hb5⟩
  have B6 := B5.trans (hb5.mono B5.size)
  have y5 := y4.below hb5
  have v5 := v4.below hb5
  clear y4 v4 B5 hb5
  have hS : (w6).cell? ⟨w.heap.size, 0, none⟩ = some (.slice pa n1 pc) ∧ (w6).cell? ⟨w.heap.size, 1, none⟩ = some (.int .i64 k) ∧ (w6).cell? ⟨w.heap.size, 2, none⟩ = some (.int .i64 i) ∧ (w6).cell? ⟨w.heap.size, 3, none⟩ = some (.slice a n3 c) ∧ (w6).cell? ⟨w.heap.size + 1, 0, none⟩ = some (.slice pa' n2 pc') ∧ (w6).cell? ⟨w.heap.size + 1, 1, none⟩ = some (.int .i64 k') ∧ (w6).cell? ⟨w.heap.size + 1, 2, none⟩ = some (.int .i64 i') ∧ (w6).cell? ⟨w.heap.size + 1, 3, none⟩ = some (.slice a' n4 c') := ⟨y5.cell rfl, y5.cell rfl, y5.cell rfl, y5.cell rfl, v5.cell rfl, v5.cell rfl, v5.cell rfl, v5.cell rfl⟩
  refine hK.out _ _ (fun _ => hS) ?_
  clear hK K
  try simp only [Act.put, List.setIfInBounds_toArray, List.set_cons_zero, List.set_cons_succ, List.getElem_toArray, List.getElem_cons_zero, List.getElem_cons_succ]
  refine wpN_step (i := 28) (by kernel_rfl) rfl (fun K hK => ?_)
  go_simp
  refine (HT.out _ (hw.below B6) (hw'.below B6)).mono ?_
  rintro e w7 ⟨rfl, hb6⟩
  have B7 := B6.trans (hb6.mono B6.size)
  have y6 := y5.below hb6
  have v6 := v5.below hb6
  clear y5 v5 B6 hb6
  have hS : (w7).cell? ⟨w.heap.size, 0, none⟩ = some (.slice pa n1 pc) ∧ (w7).cell? ⟨w.heap.size, 1, none⟩ = some (.int .i64 k) ∧ (w7).cell? ⟨w.heap.size, 2, none⟩ = some (.int .i64 i) ∧ (w7).cell? ⟨w.heap.size, 3, none⟩ = some (.slice a n3 c) ∧ (w7).cell? ⟨w.heap.size + 1, 0, none⟩ = some (.slice pa' n2 pc') ∧ (w7).cell? ⟨w.heap.size + 1, 1, none⟩ = some (.int .i64 k') ∧ (w7).cell? ⟨w.heap.size + 1, 2, none⟩ = some (.int .i64 i') ∧ (w7).cell? ⟨w.heap.size + 1, 3, none⟩ = some (.slice a' n4 c') := ⟨y6.cell rfl, y6.cell rfl, y6.cell rfl, y6.cell rfl, v6.cell rfl, v6.cell rfl, v6.cell rfl, v6.cell rfl⟩
  refine hK.out _ _ (fun _ => hS) ?_
  clear hK K
  try simp only [Act.put, List.setIfInBounds_toArray, List.set_cons_zero, List.set_cons_succ, List.getElem_toArray, List.getElem_cons_zero, List.getElem_cons_succ]
  refine wpN_step (i := 29) (by kernel_rfl) rfl (fun K hK => ?_)
  go_simp
  have C0 := B7.alloc B7.size (.cells #[.int .i64 (sgn z z'), .int .i64 m1, .int .i64 (sgn k k'), .int .i64 (sgn i i'), .int .i64 m2] 3)
  have u0 := y6.alloc (.cells #[.int .i64 (sgn z z'), .int .i64 m1, .int .i64 (sgn k k'), .int .i64 (sgn i i'), .int .i64 m2] 3)
  have u1 := v6.alloc (.cells #[.int .i64 (sgn z z'), .int .i64 m1, .int .i64 (sgn k k'), .int .i64 (sgn i i'), .int .i64 m2] 3)
  have u2 := Blk.new w7 #[.int .i64 (sgn z z'), .int .i64 m1, .int .i64 (sgn k k'), .int .i64 (sgn i i'), .int .i64 m2] 3 rfl
  have hS : (w7.alloc (.cells #[.int .i64 (sgn z z'), .int .i64 m1, .int .i64 (sgn k k'), .int .i64 (sgn i i'), .int .i64 m2] 3)).cell? ⟨w.heap.size, 0, none⟩ = some (.slice pa n1 pc) ∧ (w7.alloc (.cells #[.int .i64 (sgn z z'), .int .i64 m1, .int .i64 (sgn k k'), .int .i64 (sgn i i'), .int .i64 m2] 3)).cell? ⟨w.heap.size, 1, none⟩ = some (.int .i64 k) ∧ (w7.alloc (.cells #[.int .i64 (sgn z z'), .int .i64 m1, .int .i64 (sgn k k'), .int .i64 (sgn i i'), .int .i64 m2] 3)).cell? ⟨w.heap.size, 2, none⟩ = some (.int .i64 i) ∧ (w7.alloc (.cells #[.int .i64 (sgn z z'), .int .i64 m1, .int .i64 (sgn k k'), .int .i64 (sgn i i'), .int .i64 m2] 3)).cell? ⟨w.heap.size, 3, none⟩ = some (.slice a n3 c) ∧ (w7.alloc (.cells #[.int .i64 (sgn z z'), .int .i64 m1, .int .i64 (sgn k k'), .int .i64 (sgn i i'), .int .i64 m2] 3)).cell? ⟨w.heap.size + 1, 0, none⟩ = some (.slice pa' n2 pc') ∧ (w7.alloc (.cells #[.int .i64 (sgn z z'), .int .i64 m1, .int .i64 (sgn k k'), .int .i64 (sgn i i'), .int .i64 m2] 3)).cell? ⟨w.heap.size + 1, 1, none⟩ = some (.int .i64 k') ∧ (w7.alloc (.cells #[.int .i64 (sgn z z'), .int .i64 m1, .int .i64 (sgn k k'), .int .i64 (sgn i i'), .int .i64 m2] 3)).cell? ⟨w.heap.size + 1, 2, none⟩ = some (.int .i64 i') ∧ (w7.alloc (.cells #[.int .i64 (sgn z z'), .int .i64 m1, .int .i64 (sgn k k'), .int .i64 (sgn i i'), .int .i64 m2] 3)).cell? ⟨w.heap.size + 1, 3, none⟩ = some (.slice a' n4 c') := ⟨u0.cell rfl, u0.cell rfl, u0.cell rfl, u0.cell rfl, u1.cell rfl, u1.cell rfl, u1.cell rfl, u1.cell rfl⟩
  refine hK.out _ _ (fun _ => hS) ?_
  clear hK K
  try simp only [Act.put, List.setIfInBounds_toArray, List.set_cons_zero, List.set_cons_succ, List.getElem_toArray, List.getElem_cons_zero, List.getElem_cons_succ]
  refine wpN_step (i := 30) (by kernel_rfl) rfl (fun K hK => ?_)
  go_simp
  refine (or_i _ _ 0 5 _ [sgn z z', m1, sgn k k', sgn i i', m2] rfl (by omega) (fun j hj => by
    match j, hj with
    | 0, _ => exact u2.cell rfl
    | 1, _ => exact u2.cell rfl
    | 2, _ => exact u2.cell rfl
    | 3, _ => exact u2.cell rfl
    | 4, _ => exact u2.cell rfl)).mono ?_
  rintro e w9 ⟨rfl, hb9⟩
  have C1 := C0.trans (hb9.mono C0.size)
  have v0 := u0.below hb9
  have v1 := u1.below hb9
  have hS : (w9).cell? ⟨w.heap.size, 0, none⟩ = some (.slice pa n1 pc) ∧ (w9).cell? ⟨w.heap.size, 1, none⟩ = some (.int .i64 k) ∧ (w9).cell? ⟨w.heap.size, 2, none⟩ = some (.int .i64 i) ∧ (w9).cell? ⟨w.heap.size, 3, none⟩ = some (.slice a n3 c) ∧ (w9).cell? ⟨w.heap.size + 1, 0, none⟩ = some (.slice pa' n2 pc') ∧ (w9).cell? ⟨w.heap.size + 1, 1, none⟩ = some (.int .i64 k') ∧ (w9).cell? ⟨w.heap.size + 1, 2, none⟩ = some (.int .i64 i') ∧ (w9).cell? ⟨w.heap.size + 1, 3, none⟩ = some (.slice a' n4 c') := ⟨v0.cell rfl, v0.cell rfl, v0.cell rfl, v0.cell rfl, v1.cell rfl, v1.cell rfl, v1.cell rfl, v1.cell rfl⟩
  have hrr : Hid (r = orls [sgn z z', m1, sgn k k', sgn i i', m2]) := by show _ = _; rw [Hr.out]; simp [orls]
  generalize orls [sgn z z', m1, sgn k k', sgn i i', m2] = rr at *
  refine hK.out _ _ (fun _ => hS) ?_
  clear hK K
  try simp only [Act.put, List.setIfInBounds_toArray, List.set_cons_zero, List.set_cons_succ, List.getElem_toArray, List.getElem_cons_zero, List.getElem_cons_succ]
  refine wpN_step (i := 31) (by kernel_rfl) rfl (fun K hK => ?_)
  go_simp
  refine hK.out _ _ (fun h => absurd h (by decide)) ?_
  clear hK K
  try simp only [Act.put, List.setIfInBounds_toArray, List.set_cons_zero, List.set_cons_succ, List.getElem_toArray, List.getElem_cons_zero, List.getElem_cons_succ]
  refine wpN_done (by kernel_rfl) ?_
  refine NoPanic.normal ?_
  go_wp2_with fail
  go_ret
  exact ⟨by rw [hrr.out]; rfl, C1⟩
end Go.Proofs.YtdmiekaeodcehaaGreat

namespace Go.Proofs.YtdmiekaeodcehaaGreat
open Go.RowKit
def TRJ_38 : TI := ⟨9, true, [Value.slice none 0 0, Value.int IntKind.i64 0, Value.int IntKind.i64 0, Value.slice none 0 0, Value.slice none 0 0, Value.int IntKind.i64 0, Value.int IntKind.i64 0, Value.slice none 0 0, Value.slice none 0 0], [(0, 4, true), (4, 4, true), (8, 1, false)], none, 152, 6, none, false⟩
theorem TRJ_38_ok : TypOk Tryz.prog 38 TRJ_38 := ⟨by kernel_rfl, by kernel_rfl, by kernel_rfl, by kernel_rfl, by kernel_rfl⟩
def TRJ_29 : TI := ⟨9, true, [Value.slice none 0 0, Value.int IntKind.i64 0, Value.int IntKind.i64 0, Value.slice none 0 0, Value.slice none 0 0, Value.int IntKind.i64 0, Value.int IntKind.i64 0, Value.slice none 0 0, Value.slice none 0 0], [(0, 4, true), (4, 4, true), (8, 1, false)], none, 152, 6, none, false⟩
theorem TRJ_29_ok : TypOk Tryz.prog 29 TRJ_29 := ⟨by kernel_rfl, by kernel_rfl, by kernel_rfl, by kernel_rfl, by kernel_rfl⟩
def TRJ_3 : TI := ⟨1, false, [Value.int IntKind.i64 0], [], none, 8, 2, none, false⟩
theorem TRJ_3_ok : TypOk Tryz.prog 3 TRJ_3 := ⟨by kernel_rfl, by kernel_rfl, by kernel_rfl, by kernel_rfl, by kernel_rfl⟩
def TRJ_36 : TI := ⟨4, true, [Value.slice none 0 0, Value.int IntKind.i64 0, Value.int IntKind.i64 0, Value.slice none 0 0], [(0, 1, false), (1, 2, true), (3, 1, false)], none, 64, 6, none, false⟩
theorem TRJ_36_ok : TypOk Tryz.prog 36 TRJ_36 := ⟨by kernel_rfl, by kernel_rfl, by kernel_rfl, by kernel_rfl, by kernel_rfl⟩
def TRJ_27 : TI := ⟨4, true, [Value.slice none 0 0, Value.int IntKind.i64 0, Value.int IntKind.i64 0, Value.slice none 0 0], [(0, 1, false), (1, 2, true), (3, 1, false)], none, 64, 6, none, false⟩
theorem TRJ_27_ok : TypOk Tryz.prog 27 TRJ_27 := ⟨by kernel_rfl, by kernel_rfl, by kernel_rfl, by kernel_rfl, by kernel_rfl⟩
def TRJ_22 : TI := ⟨1, false, [Value.slice none 0 0], [], some 91, 24, 5, none, false⟩
theorem TRJ_22_ok : TypOk Tryz.prog 22 TRJ_22 := ⟨by kernel_rfl, by kernel_rfl, by kernel_rfl, by kernel_rfl, by kernel_rfl⟩
def TRJ_32 : TI := ⟨1, false, [Value.slice none 0 0], [], some 75, 24, 5, none, false⟩
theorem TRJ_32_ok : TypOk Tryz.prog 32 TRJ_32 := ⟨by kernel_rfl, by kernel_rfl, by kernel_rfl, by kernel_rfl, by kernel_rfl⟩
def TRJ_75 : TI := ⟨2, true, [Value.slice none 0 0, Value.int IntKind.i64 0], [(0, 1, false), (1, 1, false)], none, 32, 6, none, false⟩
theorem TRJ_75_ok : TypOk Tryz.prog 75 TRJ_75 := ⟨by kernel_rfl, by kernel_rfl, by kernel_rfl, by kernel_rfl, by kernel_rfl⟩
def TRJ_82 : TI := ⟨1, false, [Value.slice none 0 0], [], some 3, 24, 5, none, false⟩
theorem TRJ_82_ok : TypOk Tryz.prog 82 TRJ_82 := ⟨by kernel_rfl, by kernel_rfl, by kernel_rfl, by kernel_rfl, by kernel_rfl⟩
def TRJ_91 : TI := ⟨2, true, [Value.slice none 0 0, Value.int IntKind.i64 0], [(0, 1, false), (1, 1, false)], none, 32, 6, none, false⟩
theorem TRJ_91_ok : TypOk Tryz.prog 91 TRJ_91 := ⟨by kernel_rfl, by kernel_rfl, by kernel_rfl, by kernel_rfl, by kernel_rfl⟩
def TRJ_59 : TI := ⟨1, false, [Value.slice none 0 0], [], some 29, 24, 5, none, false⟩
theorem TRJ_59_ok : TypOk Tryz.prog 59 TRJ_59 := ⟨by kernel_rfl, by kernel_rfl, by kernel_rfl, by kernel_rfl, by kernel_rfl⟩
def TRJ_4 : TI := ⟨1, false, [Value.bool false], [], none, 1, 1, none, false⟩
theorem TRJ_4_ok : TypOk Tryz.prog 4 TRJ_4 := ⟨by kernel_rfl, by kernel_rfl, by kernel_rfl, by kernel_rfl, by kernel_rfl⟩
def TRJ : List (Nat × TI) := [(38, TRJ_38), (29, TRJ_29), (3, TRJ_3), (36, TRJ_36), (27, TRJ_27), (22, TRJ_22), (32, TRJ_32), (75, TRJ_75), (82, TRJ_82), (91, TRJ_91), (59, TRJ_59), (4, TRJ_4)]
theorem TRJ_ok : TabOk Tryz.prog TRJ := (((((((((((((TabOk.nil _).cons TRJ_4_ok).cons TRJ_59_ok).cons TRJ_91_ok).cons TRJ_82_ok).cons TRJ_75_ok).cons TRJ_32_ok).cons TRJ_22_ok).cons TRJ_27_ok).cons TRJ_36_ok).cons TRJ_3_ok).cons TRJ_29_ok).cons TRJ_38_ok)

theorem tcmp_d (t u : Tm) (h1 : t.full ≤ 400000) (h2 : u.full ≤ 400000) : PureC Tryz.prog 76 [.ag (eTm t), .ag (eTm u)] (.v (.int .i64 (Tm.cmp t u))) := by
  refine pure_below (by kernel_rfl) fun m Im w vs hv => ?_
  match vs, hv with
  | [x1, x2], hv =>
    obtain ⟨b, k, i, a, rfl, ht⟩ := agTm hv.1
    obtain ⟨b', k', i', a', rfl, hu⟩ := agTm hv.2.1
    refine (compare6_k t _ w _ _ _ _ ht _ w _ _ _ _ u hu w (Keep.refl _ _) (Keep.refl _ _) h1 h2).mono ?_
    rintro e w' ⟨rfl, hb⟩
    exact ⟨_, rfl, hb, fun _ _ _ => .v _⟩
theorem rcmp6_d (t u : Tm) (h1 : t.full ≤ 400000) (h2 : u.full ≤ 400000) : PureC Tryz.prog 78 [.ag (eTm t), .ag (eTm u)] (.v (.int .i64 (Tm.cmp t u))) := by
  refine pure_below (by kernel_rfl) fun m Im w vs hv => ?_
  match vs, hv with
  | [x1, x2], hv =>
    obtain ⟨b, k, i, a, rfl, ht⟩ := agTm hv.1
    obtain ⟨b', k', i', a', rfl, hu⟩ := agTm hv.2.1
    refine (compare6_r t _ w _ _ _ _ ht _ w _ _ _ _ u hu w (Keep.refl _ _) (Keep.refl _ _) h1 h2).mono ?_
    rintro e w' ⟨rfl, hb⟩
    exact ⟨_, rfl, hb, fun _ _ _ => .v _⟩
theorem kcmp_d (t u : Ty) (h1 : t.size ≤ 400000) (h2 : u.size ≤ 400000) : PureC Tryz.prog 77 [.ag (eTy t), .ag (eTy u)] (.v (.int .i64 (Ty.cmp t u))) := by
  refine pure_below (by kernel_rfl) fun m Im w vs hv => ?_
  match vs, hv with
  | [x1, x2], hv =>
    obtain ⟨s, b, rfl, ht⟩ := agTy9 hv.1
    obtain ⟨s', b', rfl, hu⟩ := agTy9 hv.2.1
    refine (compare_k t _ w _ _ ht _ w _ _ u hu w (Keep.refl _ _) (Keep.refl _ _) (by omega) (by omega)).mono ?_
    rintro e w' ⟨rfl, hb⟩
    exact ⟨_, rfl, hb, fun _ _ _ => .v _⟩
theorem rcmp4_d (t u : Ty) (h1 : t.size ≤ 400000) (h2 : u.size ≤ 400000) : PureC Tryz.prog 79 [.ag (eTy t), .ag (eTy u)] (.v (.int .i64 (Ty.cmp t u))) := by
  refine pure_below (by kernel_rfl) fun m Im w vs hv => ?_
  match vs, hv with
  | [x1, x2], hv =>
    obtain ⟨s, b, rfl, ht⟩ := agTy9 hv.1
    obtain ⟨s', b', rfl, hu⟩ := agTy9 hv.2.1
    refine (compare_r t _ w _ _ ht _ w _ _ u hu w (Keep.refl _ _) (Keep.refl _ _) (by omega) (by omega)).mono ?_
    rintro e w' ⟨rfl, hb⟩
    exact ⟨_, rfl, hb, fun _ _ _ => .v _⟩
theorem tsize_d (t : Tm) (h : t.full ≤ 400000) : PureC Tryz.prog 80 [.ag (eTm t)] (.v (.int .i64 t.size)) := by
  refine pure_below (by kernel_rfl) fun m Im w vs hv => ?_
  match vs, hv with
  | [x1], hv =>
    obtain ⟨b, k, i, a, rfl, ht⟩ := agTm hv.1
    refine (size6_k ht (by omega)).mono ?_
    rintro e w' ⟨rfl, hb⟩
    exact ⟨_, rfl, hb, fun _ _ _ => .v _⟩
theorem rsize_d (t : Tm) (h : t.full ≤ 400000) : PureC Tryz.prog 81 [.ag (eTm t)] (.v (.int .i64 t.size)) := by
  refine pure_below (by kernel_rfl) fun m Im w vs hv => ?_
  match vs, hv with
  | [x1], hv =>
    obtain ⟨b, k, i, a, rfl, ht⟩ := agTm hv.1
    refine (size6_r t ht w (by have := Tm.size_le_full t; omega) (Keep.refl _ _)).mono ?_
    rintro e w' ⟨rfl, hb⟩
    exact ⟨_, rfl, hb, fun _ _ _ => .v _⟩
theorem cmpOr_d (l : List Int) (hl : l.length ≤ 1000) : PureC Tryz.prog 74 [.sl 1 (eIs l) none] (.v (.int .i64 (orls l))) := by
 refine calldw 0 18 [ResultVar.tmp 2] TRJ_ok Tryz.func74 rfl Tryz.ntmps74 rfl fun cx hnt hn0 => ?_
 ·skip
  refine dw_seq ?_; refine dwk [] TRJ_ok hnt fun K hK => ?_; refine hK _ _ ?_; clear hK K; refine dw_seq ?_; refine dwk [] TRJ_ok hnt fun K hK => ?_; refine hK _ _ ?_; clear hK K; refine dw_seq ?_; refine dw_seq ?_; refine dwk [(7, .v (.int .i64 (↑l.length)))] TRJ_ok hnt fun K hK => ?_; refine And.intro (dintE (by rw [eIs_len])) ?_; refine hK _ _ ?_; clear hK K; refine dw_block ?_
  refine dw_loop (ι := { j : Nat // orls l = orls (l.drop j) }) (fun j => [(.t 3, .v (.int .i64 0)), (.t 6, .sl 1 (eIs l) none), (.t 7, .v (.int .i64 ↑l.length)), (.t 8, .v (.int .i64 ↑j.1))]) 0 (fun j => l.length - j.1) (⟨0, rfl⟩) (VS.toA) fun j => ?_
  obtain ⟨j, hj⟩ := j
  dsimp only
  by_cases hlt : j < l.length
  ·rw [List.drop_eq_getElem_cons hlt, orls] at hj
   by_cases h0 : l[j] = 0
   ·rw [h0, orl_zero] at hj
    refine dw_seq ?_; refine dwk [(9, .v (.bool true))] TRJ_ok hnt fun K hK => ?_; refine And.intro auT ?_; refine hK _ _ ?_; clear hK K; refine dw_seq ?_; refine dw_cond (t := true) rfl ?_; rw [if_pos rfl]; refine dw_skip ?_; refine dw_seq ?_; refine dw_block ?_; refine dw_seq ?_; refine dwk [(10, .q [.v (.int .i64 (l[j]))])] TRJ_ok hnt fun K hK => ?_; refine And.intro (elo (eIs_len l)) ?_; refine And.intro (elv (eIs_getD l j) rfl) ?_
    refine hK _ _ ?_; clear hK K; refine dw_seq ?_; refine dwk [(14, .v (.bool false))] TRJ_ok hnt fun K hK => ?_; refine And.intro (bneF h0) ?_; refine hK _ _ ?_; clear hK K; refine dw_cond (t := false) rfl ?_; rw [if_neg (by simp)]; refine dw_skip ?_; refine dwk [(16, .v (.int .i64 (↑(j + 1))))] TRJ_ok hnt fun K hK => ?_; refine And.intro auI ?_; refine hK _ _ ?_; clear hK K
    refine ⟨⟨j + 1, hj⟩, by first | omega | (dsimp only; omega), VS.toA⟩
   ·rw [orl_ne h0] at hj
    rw [hj]
    refine dw_seq ?_; refine dwk [(9, .v (.bool true))] TRJ_ok hnt fun K hK => ?_; refine And.intro auT ?_; refine hK _ _ ?_; clear hK K; refine dw_seq ?_; refine dw_cond (t := true) rfl ?_; rw [if_pos rfl]; refine dw_skip ?_; refine dw_seq ?_; refine dw_block ?_; refine dw_seq ?_; refine dwk [(10, .q [.v (.int .i64 (l[j]))])] TRJ_ok hnt fun K hK => ?_; refine And.intro (elo (eIs_len l)) ?_; refine And.intro (elv (eIs_getD l j) rfl) ?_
    refine hK _ _ ?_; clear hK K; refine dw_seq ?_; refine dwk [(14, .v (.bool true))] TRJ_ok hnt fun K hK => ?_; refine And.intro (bneT h0) ?_; refine hK _ _ ?_; clear hK K; refine dw_cond (t := true) rfl ?_; rw [if_pos rfl]; refine dw_seq ?_; refine dwk [] TRJ_ok hnt fun K hK => ?_; refine hK _ _ ?_; clear hK K; refine dw_ret ?_
    exact reta rfl
  ·rw [List.drop_eq_nil_of_le (by omega), orls] at hj
   rw [hj]
   refine dw_seq ?_; refine dwk [(9, .v (.bool false))] TRJ_ok hnt fun K hK => ?_; refine And.intro auF ?_; refine hK _ _ ?_; clear hK K; refine dw_seq ?_; refine dw_cond (t := false) rfl ?_; rw [if_neg (by simp)]; refine dw_exit ?_; refine dw_seq ?_; refine dwk [] TRJ_ok hnt fun K hK => ?_; refine hK _ _ ?_; clear hK K; refine dw_ret ?_
   exact reta rfl
namespace Ru
def wt (p : Li.Pr) : Int := (p.l.size : Int) + (p.r.size : Int)
def cmp (a b : Li.Pr) : Int := orl (sgn (wt a) (wt b)) (orl (Tm.cmp a.l b.l) (orl (Tm.cmp a.r b.r) (Tm.cmpB a.m b.m)))
theorem cmp_neg (a b : Li.Pr) : cmp b a = - cmp a b := by
  unfold cmp
  rw [sgn_neg (wt a) (wt b), Tm.cmp_neg a.l b.l, Tm.cmp_neg a.r b.r, Tm.cmpB_neg a.m b.m, orl_neg, orl_neg, orl_neg]
theorem cmp_zero (a b : Li.Pr) : cmp a b = 0 ↔ a = b := by
  unfold cmp
  rw [orl_eq_zero, orl_eq_zero, orl_eq_zero, Tm.cmp_zero, Tm.cmp_zero, Tm.cmpB_zero, sgn_zero]
  constructor
  · rintro ⟨_, h1, h2, h3⟩
    obtain ⟨_, _, _⟩ := a
    obtain ⟨_, _, _⟩ := b
    dsimp only at h1 h2 h3
    subst h1 h2 h3; rfl
  · rintro rfl; exact ⟨rfl, rfl, rfl, rfl⟩
theorem sgn_range (x y : Int) : -1 ≤ sgn x y ∧ sgn x y ≤ 1 := by unfold sgn; split <;> (try split) <;> omega
theorem orl_range {x y : Int} (h1 : -1 ≤ x ∧ x ≤ 1) (h2 : -1 ≤ y ∧ y ≤ 1) : -1 ≤ orl x y ∧ orl x y ≤ 1 := by unfold orl; split <;> assumption
theorem tcmps_range_of {l : List Ty} (h : ∀ t ∈ l, ∀ u, -1 ≤ Ty.cmp t u ∧ Ty.cmp t u ≤ 1) : ∀ l', -1 ≤ Ty.cmps l l' ∧ Ty.cmps l l' ≤ 1 := by
  induction l with
  | nil => intro l'; simp [Ty.cmps]
  | cons t l ih =>
    intro l'
    cases l' with
    | nil => simp [Ty.cmps]
    | cons u l' => rw [Ty.cmps]; exact orl_range (h t (by simp) u) (ih (fun v hv => h v (by simp [hv])) l')
theorem tcmp_range (t : Ty) : ∀ u, -1 ≤ Ty.cmp t u ∧ Ty.cmp t u ≤ 1 := by
  induction t using Ty.ind with
  | h l b ih =>
    intro u
    obtain ⟨l', b'⟩ := u
    rw [Ty.cmp_mk]
    exact orl_range (orl_range (orl_range (sgn_range _ _) (sgn_range _ _)) (tcmps_range_of ih l')) (sgn_range _ _)
theorem cmpB_range (l l' : List Ty) : -1 ≤ Tm.cmpB l l' ∧ Tm.cmpB l l' ≤ 1 := by
  unfold Tm.cmpB
  exact orl_range (sgn_range _ _) (tcmps_range_of (fun t _ => tcmp_range t) l')
theorem mcmps_range_of {l : List Tm} (h : ∀ t ∈ l, ∀ u, -1 ≤ Tm.cmp t u ∧ Tm.cmp t u ≤ 1) : ∀ l', -1 ≤ Tm.cmps l l' ∧ Tm.cmps l l' ≤ 1 := by
  induction l with
  | nil => intro l'; simp [Tm.cmps]
  | cons t l ih =>
    intro l'
    cases l' with
    | nil => simp [Tm.cmps]
    | cons u l' => rw [Tm.cmps]; exact orl_range (h t (by simp) u) (ih (fun v hv => h v (by simp [hv])) l')
theorem mcmp_range (t : Tm) : ∀ u, -1 ≤ Tm.cmp t u ∧ Tm.cmp t u ≤ 1 := by
  induction t using Tm.ind with
  | h b k i a ih =>
    intro u
    obtain ⟨b', k', i', a'⟩ := u
    rw [Tm.cmp_mk]
    exact orl_range (sgn_range _ _) (orl_range (cmpB_range _ _) (orl_range (sgn_range _ _) (orl_range (sgn_range _ _) (orl_range (sgn_range _ _) (mcmps_range_of ih a')))))
theorem cmp_range (a b : Li.Pr) : -1 ≤ cmp a b ∧ cmp a b ≤ 1 := by
  unfold cmp
  exact orl_range (sgn_range _ _) (orl_range (mcmp_range _ _) (orl_range (mcmp_range _ _) (cmpB_range _ _)))
def Far (a b : List Ty) (T : Int) (j : Nat) (n : Int) : Prop := (n ≠ 0 → T = n) ∧ (n = 0 → a.length = b.length ∧ T = Ty.cmps (a.drop j) (b.drop j))
theorem Far.step {a b : List Ty} {T : Int} {j : Nat} (h : Far a b T j 0) (h1 : j < a.length) (h2 : j < b.length) : Far a b T (j + 1) (Ty.cmp a[j] b[j]) := by
  obtain ⟨hl, ht⟩ := h.2 rfl
  rw [List.drop_eq_getElem_cons h1, List.drop_eq_getElem_cons h2, Ty.cmps] at ht
  refine ⟨fun hn => ?_, fun hz => ⟨hl, ?_⟩⟩
  · rw [ht, orl_ne hn]
  · rw [ht, hz, orl_zero]
theorem Far.done {a b : List Ty} {T : Int} {j : Nat} {n : Int} (h : Far a b T j n) (h1 : n ≠ 0 ∨ ¬ j < a.length) : T = n := by
  by_cases hn : n = 0
  · obtain ⟨_, ht⟩ := h.2 hn
    rw [List.drop_eq_nil_of_le (by rcases h1 with h1 | h1; exact absurd hn h1; omega)] at ht
    rw [ht, hn]; simp [Ty.cmps]
  · exact h.1 hn
theorem far0 (a b : Li.Pr) : Far a.m b.m (cmp a b) 0 (orls [sgn (wt a) (wt b), Tm.cmp a.l b.l, Tm.cmp a.r b.r, sgn (a.m.length : Int) (b.m.length : Int)]) := by
  simp only [orls, orl_zero_right]
  unfold cmp Tm.cmpB
  by_cases h1 : sgn (wt a) (wt b) = 0
  · rw [h1]; simp only [orl_zero]
    by_cases h2 : Tm.cmp a.l b.l = 0
    · rw [h2]; simp only [orl_zero]
      by_cases h3 : Tm.cmp a.r b.r = 0
      · rw [h3]; simp only [orl_zero]
        refine ⟨fun hn => orl_ne hn, fun hz => ⟨?_, ?_⟩⟩
        · have := sgn_zero.1 hz; omega
        · rw [hz, orl_zero]; rfl
      · rw [orl_ne h3, orl_ne h3]; exact ⟨fun _ => rfl, fun h => absurd h h3⟩
    · rw [orl_ne h2, orl_ne h2]; exact ⟨fun _ => rfl, fun h => absurd h h2⟩
  · rw [orl_ne h1, orl_ne h1]; exact ⟨fun _ => rfl, fun h => absurd h h1⟩
end Ru
theorem ruwt_d (p : Li.Pr) (h1 : p.l.full ≤ 400000) (h2 : p.r.full ≤ 400000) : PureC Tryz.prog 30 [.ag (ePr p)] (.v (.int .i64 (Ru.wt p))) := by
 have c1 := tsize_d p.l h1
 have c2 := tsize_d p.r h2
 have z1 := Tm.size_le_full p.l
 have z2 := Tm.size_le_full p.r
 rw [ePr_at]
 rw [eTm_eq] at c1 c2
 unfold Ru.wt
 refine calldw 0 10 [ResultVar.tmp 2] TRJ_ok Tryz.func30 rfl Tryz.ntmps30 rfl fun cx hnt hn0 => ?_
 ·skip
  refine dw_seq ?_; refine dwk [] TRJ_ok hnt fun K hK => ?_; refine hK _ _ ?_; clear hK K; refine dw_seq ?_; refine dwkD [(9, .v (.int .i64 (((p.l.size) + (p.r.size)))))] TRJ_ok hnt fun K hK => ?_; refine dcl (c1) ?_; refine dcl (c2) ?_; refine And.intro auI ?_; refine hK _ _ (by kernel_rfl) ?_; clear hK K; refine dw_ret ?_
  exact reta rfl
theorem rwt_d (p : Li.Pr) (h1 : p.l.full ≤ 400000) (h2 : p.r.full ≤ 400000) : PureC Tryz.prog 31 [.ag (ePr p)] (.v (.int .i64 (Ru.wt p))) := by
 have c1 := rsize_d p.l h1
 have c2 := rsize_d p.r h2
 have z1 := Tm.size_le_full p.l
 have z2 := Tm.size_le_full p.r
 rw [ePr_at]
 rw [eTm_eq] at c1 c2
 unfold Ru.wt
 refine calldw 0 10 [ResultVar.tmp 2] TRJ_ok Tryz.func31 rfl Tryz.ntmps31 rfl fun cx hnt hn0 => ?_
 ·skip
  refine dw_seq ?_; refine dwk [] TRJ_ok hnt fun K hK => ?_; refine hK _ _ ?_; clear hK K; refine dw_seq ?_; refine dwkD [(9, .v (.int .i64 (((p.l.size) + (p.r.size)))))] TRJ_ok hnt fun K hK => ?_; refine dcl (c1) ?_; refine dcl (c2) ?_; refine And.intro auI ?_; refine hK _ _ (by kernel_rfl) ?_; clear hK K; refine dw_ret ?_
  exact reta rfl
set_option maxHeartbeats 4000000 in
theorem rucmp_d (a b : Li.Pr) (ha : a.l.full ≤ 400000 ∧ a.r.full ≤ 400000) (hb : b.l.full ≤ 400000 ∧ b.r.full ≤ 400000) (hma : ∀ t ∈ a.m, t.size ≤ 400000) (hmb : ∀ t ∈ b.m, t.size ≤ 400000) (hla : a.m.length ≤ 900000) (hlb : b.m.length ≤ 900000) : PureC Tryz.prog 28 [.ag (ePr a), .ag (ePr b)] (.v (.int .i64 (Ru.cmp a b))) := by
 have w1 := ruwt_d a ha.1 ha.2
 have w2 := ruwt_d b hb.1 hb.2
 have c0 := compare_d (Ru.wt a) (Ru.wt b)
 have c1 := tcmp_d a.l b.l ha.1 hb.1
 have c2 := tcmp_d a.r b.r ha.2 hb.2
 have c3 := compare_d (a.m.length : Nat) (b.m.length : Nat)
 rw [show cmpI (Ru.wt a) (Ru.wt b) = sgn (Ru.wt a) (Ru.wt b) from rfl] at c0
 rw [show cmpI (a.m.length : Nat) (b.m.length : Nat) = sgn (a.m.length : Nat) (b.m.length : Nat) from rfl] at c3
 have f0 := Ru.far0 a b
 obtain ⟨L, hL⟩ : ∃ L, [sgn (Ru.wt a) (Ru.wt b), Tm.cmp a.l b.l, Tm.cmp a.r b.r, sgn (a.m.length : Int) (b.m.length : Int)] = L := ⟨_, rfl⟩
 have hor := cmpOr_d L (by rw [← hL]; simp)
 have eL : eIs L = [[.v (.int .i64 (sgn (Ru.wt a) (Ru.wt b)))], [.v (.int .i64 (Tm.cmp a.l b.l))], [.v (.int .i64 (Tm.cmp a.r b.r))], [.v (.int .i64 (sgn (a.m.length : Nat) (b.m.length : Nat)))]] := by rw [← hL]; rfl
 rw [hL] at f0
 obtain ⟨n0, hn0'⟩ : ∃ n0, orls L = n0 := ⟨_, rfl⟩
 rw [hn0'] at f0 hor
 obtain ⟨T, hT⟩ : ∃ T, Ru.cmp a b = T := ⟨_, rfl⟩
 rw [hT] at f0 ⊢
 rw [ePr_at] at w1 w2 ⊢
 rw [ePr_at b]
 rw [eTm_eq, eTm_eq] at c1 c2
 refine calldw 0 54 [ResultVar.tmp 4] TRJ_ok Tryz.func28 rfl Tryz.ntmps28 rfl fun cx hnt hn0 => ?_
 ·skip
  refine dw_seq ?_; refine dwk [] TRJ_ok hnt fun K hK => ?_; refine hK _ _ ?_; clear hK K; refine dw_seq ?_; refine dwkD [(24, .v (.int .i64 (↑a.m.length))), (27, .v (.int .i64 (↑b.m.length))), (29, .sl 1 (eIs L) none)] TRJ_ok hnt fun K hK => ?_; refine dcl (w1) ?_; refine dcl (w2) ?_; refine dcl (c0) ?_; refine dcl (c1) ?_; refine dcl (c2) ?_; refine And.intro (dintE (by rw [eTys_len])) ?_; refine And.intro (dintE (by rw [eTys_len])) ?_
  refine dcl (c3) ?_; refine And.intro ((by rw [eL]; exact VLe.untag _ _ _)) ?_; refine dcl (hor) ?_; refine hK _ _ (by kernel_rfl) ?_; clear hK K; refine dw_seq ?_; refine dw_seq ?_; refine dwk [] TRJ_ok hnt fun K hK => ?_; refine hK _ _ ?_; clear hK K; refine dw_block ?_
  refine dw_loop (ι := { q : Nat × Int // Ru.Far a.m b.m T q.1 q.2 }) (fun q => [(.t 2, .p 0 0), (.t 3, .p 1 0), (.c 0 0, .sl 2 (eTys a.l.binds) none), (.c 0 1, .v (.int .i64 a.l.kind)), (.c 0 2, .v (.int .i64 a.l.index)), (.c 0 3, .sl 4 (eTms a.l.args) none), (.c 0 4, .sl 2 (eTys a.r.binds) none), (.c 0 5, .v (.int .i64 a.r.kind)), (.c 0 6, .v (.int .i64 a.r.index)), (.c 0 7, .sl 4 (eTms a.r.args) none), (.c 0 8, .sl 2 (eTys a.m) none), (.c 1 0, .sl 2 (eTys b.l.binds) none), (.c 1 1, .v (.int .i64 b.l.kind)), (.c 1 2, .v (.int .i64 b.l.index)), (.c 1 3, .sl 4 (eTms b.l.args) none), (.c 1 4, .sl 2 (eTys b.r.binds) none), (.c 1 5, .v (.int .i64 b.r.kind)), (.c 1 6, .v (.int .i64 b.r.index)), (.c 1 7, .sl 4 (eTms b.r.args) none), (.c 1 8, .sl 2 (eTys b.m) none), (.t 5, .v (.int .i64 q.1.2)), (.t 6, .v (.int .i64 ↑q.1.1))]) 2 (fun q => a.m.length - q.1.1) (⟨(0, n0), f0⟩) (VS.toA) fun q => ?_
  obtain ⟨⟨j, n⟩, hq⟩ := q
  dsimp only at hq ⊢
  by_cases hlt : j < a.m.length
  ·by_cases hn : n = 0
   ·subst hn
    have hl := (hq.2 rfl).1
    have hlt2 : j < b.m.length := by omega
    have hc := kcmp_d a.m[j] b.m[j] (hma _ (List.getElem_mem hlt)) (hmb _ (List.getElem_mem hlt2))
    rw [eTy_eq, eTy_eq] at hc
    refine dw_seq ?_; refine dw_seq ?_; refine dwk [(34, .v (.int .i64 (↑a.m.length))), (35, .v (.bool true)), (38, .v (.bool true))] TRJ_ok hnt fun K hK => ?_; refine And.intro (dintE (by rw [eTys_len])) ?_; refine And.intro auT ?_; refine And.intro (VLe.refl _) ?_; refine hK _ _ ?_; clear hK K; refine dw_cond (t := true) rfl ?_; rw [if_pos rfl]; refine dw_skip ?_; refine dw_seq ?_; refine dw_block ?_
    refine dwkD [(45, .q [.sl 2 (eTys a.m[j].args) none, .v (.int .i64 a.m[j].base)]), (50, .q [.sl 2 (eTys b.m[j].args) none, .v (.int .i64 b.m[j].base)])] TRJ_ok hnt fun K hK => ?_; refine And.intro (elo (eTys_len a.m)) ?_; refine And.intro (elv (eTys_getD a.m j) (eTy_eq _)) ?_; refine And.intro (elo (eTys_len b.m)) ?_; refine And.intro (elv (eTys_getD b.m j) (eTy_eq _)) ?_; refine dcl (hc) ?_; refine hK _ _ (by kernel_rfl) ?_; clear hK K
    refine dwk [(41, .v (.int .i64 (↑(j + 1))))] TRJ_ok hnt fun K hK => ?_; refine And.intro auI ?_; refine hK _ _ ?_; clear hK K
    refine ⟨⟨(j + 1, _), hq.step hlt hlt2⟩, by first | omega | (dsimp only; omega), VS.toA⟩
   ·rw [hq.done (.inl hn)]
    refine dw_seq ?_; refine dw_seq ?_; refine dwk [(34, .v (.int .i64 (↑a.m.length))), (35, .v (.bool true)), (38, .v (.bool false))] TRJ_ok hnt fun K hK => ?_; refine And.intro (dintE (by rw [eTys_len])) ?_; refine And.intro auT ?_; refine And.intro (beqF hn) ?_; refine hK _ _ ?_; clear hK K; refine dw_cond (t := false) rfl ?_; rw [if_neg (by simp)]; refine dw_exit ?_; refine dw_seq ?_; refine dwk [] TRJ_ok hnt fun K hK => ?_
    refine hK _ _ ?_; clear hK K; refine dw_ret ?_
    exact reta rfl
  ·rw [hq.done (.inr hlt)]
   refine dw_seq ?_; refine dw_seq ?_; refine dwk [(34, .v (.int .i64 (↑a.m.length))), (35, .v (.bool false))] TRJ_ok hnt fun K hK => ?_; refine And.intro (dintE (by rw [eTys_len])) ?_; refine And.intro auF ?_; refine hK _ _ ?_; clear hK K; refine dw_cond (t := false) rfl ?_; rw [if_neg (by simp)]; refine dw_exit ?_; refine dw_seq ?_; refine dwk [] TRJ_ok hnt fun K hK => ?_; refine hK _ _ ?_; clear hK K
   refine dw_ret ?_
   exact reta rfl
set_option maxHeartbeats 4000000 in
theorem rcmp17_d (a b : Li.Pr) (ha : a.l.full ≤ 400000 ∧ a.r.full ≤ 400000) (hb : b.l.full ≤ 400000 ∧ b.r.full ≤ 400000) (hma : ∀ t ∈ a.m, t.size ≤ 400000) (hmb : ∀ t ∈ b.m, t.size ≤ 400000) (hla : a.m.length ≤ 900000) (hlb : b.m.length ≤ 900000) : PureC Tryz.prog 29 [.ag (ePr a), .ag (ePr b)] (.v (.int .i64 (Ru.cmp a b))) := by
 have w1 := rwt_d a ha.1 ha.2
 have w2 := rwt_d b hb.1 hb.2
 have c1 := rcmp6_d a.l b.l ha.1 hb.1
 have c2 := rcmp6_d a.r b.r ha.2 hb.2
 have f0 := Ru.far0 a b
 simp only [orls, orl_zero_right] at f0
 obtain ⟨T, hT⟩ : ∃ T, Ru.cmp a b = T := ⟨_, rfl⟩
 rw [hT] at f0 ⊢
 generalize Ru.wt a = x at w1 f0
 generalize Ru.wt b = y at w2 f0
 rw [ePr_at] at w1 w2 ⊢
 rw [ePr_at b]
 rw [eTm_eq, eTm_eq] at c1 c2
 by_cases h1 : x < y
 ·have hs : sgn x y = -1 := by unfold sgn; rw [if_pos h1]
  rw [hs, orl_ne (by decide)] at f0
  rw [f0.1 (by decide)]
  refine calldw 0 72 [ResultVar.tmp 4] TRJ_ok Tryz.func29 rfl Tryz.ntmps29 rfl fun cx hnt hn0 => ?_
  ·skip
   refine dw_seq ?_; refine dwk [] TRJ_ok hnt fun K hK => ?_; refine hK _ _ ?_; clear hK K; refine dw_seq ?_; refine dw_block ?_; refine dw_seq ?_; refine dwkD [(12, .v (.bool true))] TRJ_ok hnt fun K hK => ?_; refine dcl (w1) ?_; refine dcl (w2) ?_; refine And.intro auT ?_; refine hK _ _ (by kernel_rfl) ?_; clear hK K; refine dw_cond (t := true) rfl ?_; rw [if_pos rfl]; refine dw_seq ?_; refine dwk [] TRJ_ok hnt fun K hK => ?_
   refine hK _ _ ?_; clear hK K; refine dw_ret ?_
   exact reta rfl
 ·by_cases h2 : y < x
  ·have hs : sgn x y = 1 := by unfold sgn; rw [if_neg h1, if_pos h2]
   rw [hs, orl_ne (by decide)] at f0
   rw [f0.1 (by decide)]
   refine calldw 0 72 [ResultVar.tmp 4] TRJ_ok Tryz.func29 rfl Tryz.ntmps29 rfl fun cx hnt hn0 => ?_
   ·skip
    refine dw_seq ?_; refine dwk [] TRJ_ok hnt fun K hK => ?_; refine hK _ _ ?_; clear hK K; refine dw_seq ?_; refine dw_block ?_; refine dw_seq ?_; refine dwkD [(12, .v (.bool false))] TRJ_ok hnt fun K hK => ?_; refine dcl (w1) ?_; refine dcl (w2) ?_; refine And.intro auF ?_; refine hK _ _ (by kernel_rfl) ?_; clear hK K; refine dw_cond (t := false) rfl ?_; rw [if_neg (by simp)]; refine dw_seq ?_; refine dwkD [(18, .v (.bool true))] TRJ_ok hnt fun K hK => ?_
    refine dcl (w1) ?_; refine dcl (w2) ?_; refine And.intro auT ?_; refine hK _ _ (by kernel_rfl) ?_; clear hK K; refine dw_cond (t := true) rfl ?_; rw [if_pos rfl]; refine dw_seq ?_; refine dwk [] TRJ_ok hnt fun K hK => ?_; refine hK _ _ ?_; clear hK K; refine dw_ret ?_
    exact reta rfl
  ·have hs : sgn x y = 0 := by unfold sgn; rw [if_neg h1, if_neg h2]
   rw [hs, orl_zero] at f0
   by_cases k1 : Tm.cmp a.l b.l = 0
   ·rw [k1] at c1 f0
    rw [orl_zero] at f0
    have f1 := f0
    generalize Tm.cmp a.r b.r = n0 at c2 f1
    by_cases hk : n0 = 0
    ·rw [hk, orl_zero] at f1
     have hu : ∀ z : Int, a.m.length ≠ b.m.length → sgn (a.m.length : Int) (b.m.length : Int) = z → z ≠ 0 → T = z := fun z _ hz h => by rw [hz] at f1; exact f1.1 h
     by_cases hl1 : a.m.length < b.m.length
     ·rw [hu (-1) (by omega) (by unfold sgn; rw [if_pos (by omega)]) (by decide)]
      refine calldw 0 72 [ResultVar.tmp 4] TRJ_ok Tryz.func29 rfl Tryz.ntmps29 rfl fun cx hnt hn0 => ?_
      ·skip
       refine dw_seq ?_; refine dwk [] TRJ_ok hnt fun K hK => ?_; refine hK _ _ ?_; clear hK K; refine dw_seq ?_; refine dw_block ?_; refine dw_seq ?_; refine dwkD [(12, .v (.bool false))] TRJ_ok hnt fun K hK => ?_; refine dcl (w1) ?_; refine dcl (w2) ?_; refine And.intro auF ?_; refine hK _ _ (by kernel_rfl) ?_; clear hK K; refine dw_cond (t := false) rfl ?_; rw [if_neg (by simp)]; refine dw_seq ?_; refine dwkD [(18, .v (.bool false))] TRJ_ok hnt fun K hK => ?_
       refine dcl (w1) ?_; refine dcl (w2) ?_; refine And.intro auF ?_; refine hK _ _ (by kernel_rfl) ?_; clear hK K; refine dw_cond (t := false) rfl ?_; rw [if_neg (by simp)]; refine dw_skip ?_; refine dw_seq ?_; refine dwk [] TRJ_ok hnt fun K hK => ?_; refine dcl (c1) ?_; refine hK _ _ ?_; clear hK K; refine dw_seq ?_; refine dw_seq ?_; refine dwk [(25, .v (.bool true))] TRJ_ok hnt fun K hK => ?_; refine And.intro (VLe.refl _) ?_
       refine hK _ _ ?_; clear hK K; refine dw_cond (t := true) rfl ?_; rw [if_pos rfl]; refine dwk [] TRJ_ok hnt fun K hK => ?_; refine dcl (c2) ?_; refine hK _ _ ?_; clear hK K; refine dw_seq ?_; refine dw_seq ?_; refine dwk [(32, .v (.bool true)), (36, .v (.int .i64 (↑a.m.length))), (39, .v (.int .i64 (↑b.m.length))), (40, .v (.bool true))] TRJ_ok hnt fun K hK => ?_; refine And.intro (beqT hk) ?_; refine And.intro (dintE (by rw [eTys_len])) ?_
       refine And.intro (dintE (by rw [eTys_len])) ?_; refine And.intro (bneT (by omega)) ?_; refine hK _ _ ?_; clear hK K; refine dw_cond (t := true) rfl ?_; rw [if_pos rfl]; refine dw_seq ?_; refine dw_seq ?_; refine dwk [(44, .v (.int .i64 (↑a.m.length))), (47, .v (.int .i64 (↑b.m.length))), (48, .v (.bool true))] TRJ_ok hnt fun K hK => ?_; refine And.intro (dintE (by rw [eTys_len])) ?_; refine And.intro (dintE (by rw [eTys_len])) ?_
       refine And.intro auT ?_; refine hK _ _ ?_; clear hK K; refine dw_cond (t := true) rfl ?_; rw [if_pos rfl]; refine dw_seq ?_; refine dwk [] TRJ_ok hnt fun K hK => ?_; refine hK _ _ ?_; clear hK K; refine dw_ret ?_
       exact reta rfl
     ·by_cases hl2 : b.m.length < a.m.length
      ·rw [hu 1 (by omega) (by unfold sgn; rw [if_neg (by omega), if_pos (by omega)]) (by decide)]
       refine calldw 0 72 [ResultVar.tmp 4] TRJ_ok Tryz.func29 rfl Tryz.ntmps29 rfl fun cx hnt hn0 => ?_
       ·skip
        refine dw_seq ?_; refine dwk [] TRJ_ok hnt fun K hK => ?_; refine hK _ _ ?_; clear hK K; refine dw_seq ?_; refine dw_block ?_; refine dw_seq ?_; refine dwkD [(12, .v (.bool false))] TRJ_ok hnt fun K hK => ?_; refine dcl (w1) ?_; refine dcl (w2) ?_; refine And.intro auF ?_; refine hK _ _ (by kernel_rfl) ?_; clear hK K; refine dw_cond (t := false) rfl ?_; rw [if_neg (by simp)]; refine dw_seq ?_; refine dwkD [(18, .v (.bool false))] TRJ_ok hnt fun K hK => ?_
        refine dcl (w1) ?_; refine dcl (w2) ?_; refine And.intro auF ?_; refine hK _ _ (by kernel_rfl) ?_; clear hK K; refine dw_cond (t := false) rfl ?_; rw [if_neg (by simp)]; refine dw_skip ?_; refine dw_seq ?_; refine dwk [] TRJ_ok hnt fun K hK => ?_; refine dcl (c1) ?_; refine hK _ _ ?_; clear hK K; refine dw_seq ?_; refine dw_seq ?_; refine dwk [(25, .v (.bool true))] TRJ_ok hnt fun K hK => ?_; refine And.intro (VLe.refl _) ?_
        refine hK _ _ ?_; clear hK K; refine dw_cond (t := true) rfl ?_; rw [if_pos rfl]; refine dwk [] TRJ_ok hnt fun K hK => ?_; refine dcl (c2) ?_; refine hK _ _ ?_; clear hK K; refine dw_seq ?_; refine dw_seq ?_; refine dwk [(32, .v (.bool true)), (36, .v (.int .i64 (↑a.m.length))), (39, .v (.int .i64 (↑b.m.length))), (40, .v (.bool true))] TRJ_ok hnt fun K hK => ?_; refine And.intro (beqT hk) ?_; refine And.intro (dintE (by rw [eTys_len])) ?_
        refine And.intro (dintE (by rw [eTys_len])) ?_; refine And.intro (bneT (by omega)) ?_; refine hK _ _ ?_; clear hK K; refine dw_cond (t := true) rfl ?_; rw [if_pos rfl]; refine dw_seq ?_; refine dw_seq ?_; refine dwk [(44, .v (.int .i64 (↑a.m.length))), (47, .v (.int .i64 (↑b.m.length))), (48, .v (.bool false))] TRJ_ok hnt fun K hK => ?_; refine And.intro (dintE (by rw [eTys_len])) ?_; refine And.intro (dintE (by rw [eTys_len])) ?_
        refine And.intro auF ?_; refine hK _ _ ?_; clear hK K; refine dw_cond (t := false) rfl ?_; rw [if_neg (by simp)]; refine dw_skip ?_; refine dw_seq ?_; refine dwk [] TRJ_ok hnt fun K hK => ?_; refine hK _ _ ?_; clear hK K; refine dw_ret ?_
        exact reta rfl
      ·have hl3 : sgn (a.m.length : Int) (b.m.length : Int) = 0 := sgn_zero.2 (by omega)
       rw [hl3] at f1
       have f2 : Ru.Far a.m b.m T 0 n0 := by rw [hk]; exact f1
       refine calldw 0 72 [ResultVar.tmp 4] TRJ_ok Tryz.func29 rfl Tryz.ntmps29 rfl fun cx hnt hn0 => ?_
       ·skip
        refine dw_seq ?_; refine dwk [] TRJ_ok hnt fun K hK => ?_; refine hK _ _ ?_; clear hK K; refine dw_seq ?_; refine dw_block ?_; refine dw_seq ?_; refine dwkD [(12, .v (.bool false))] TRJ_ok hnt fun K hK => ?_; refine dcl (w1) ?_; refine dcl (w2) ?_; refine And.intro auF ?_; refine hK _ _ (by kernel_rfl) ?_; clear hK K; refine dw_cond (t := false) rfl ?_; rw [if_neg (by simp)]; refine dw_seq ?_; refine dwkD [(18, .v (.bool false))] TRJ_ok hnt fun K hK => ?_
        refine dcl (w1) ?_; refine dcl (w2) ?_; refine And.intro auF ?_; refine hK _ _ (by kernel_rfl) ?_; clear hK K; refine dw_cond (t := false) rfl ?_; rw [if_neg (by simp)]; refine dw_skip ?_; refine dw_seq ?_; refine dwk [] TRJ_ok hnt fun K hK => ?_; refine dcl (c1) ?_; refine hK _ _ ?_; clear hK K; refine dw_seq ?_; refine dw_seq ?_; refine dwk [(25, .v (.bool true))] TRJ_ok hnt fun K hK => ?_; refine And.intro (VLe.refl _) ?_
        refine hK _ _ ?_; clear hK K; refine dw_cond (t := true) rfl ?_; rw [if_pos rfl]; refine dwk [] TRJ_ok hnt fun K hK => ?_; refine dcl (c2) ?_; refine hK _ _ ?_; clear hK K; refine dw_seq ?_; refine dw_seq ?_; refine dwk [(32, .v (.bool true)), (36, .v (.int .i64 (↑a.m.length))), (39, .v (.int .i64 (↑b.m.length))), (40, .v (.bool false))] TRJ_ok hnt fun K hK => ?_; refine And.intro (beqT hk) ?_; refine And.intro (dintE (by rw [eTys_len])) ?_
        refine And.intro (dintE (by rw [eTys_len])) ?_; refine And.intro (bneF (by omega)) ?_; refine hK _ _ ?_; clear hK K; refine dw_cond (t := false) rfl ?_; rw [if_neg (by simp)]; refine dw_skip ?_; refine dw_seq ?_; refine dw_seq ?_; refine dwk [] TRJ_ok hnt fun K hK => ?_; refine hK _ _ ?_; clear hK K; refine dw_block ?_
        refine dw_loop (ι := { q : Nat × Int // Ru.Far a.m b.m T q.1 q.2 }) (fun q => [(.t 2, .p 0 0), (.t 3, .p 1 0), (.c 0 0, .sl 2 (eTys a.l.binds) none), (.c 0 1, .v (.int .i64 a.l.kind)), (.c 0 2, .v (.int .i64 a.l.index)), (.c 0 3, .sl 4 (eTms a.l.args) none), (.c 0 4, .sl 2 (eTys a.r.binds) none), (.c 0 5, .v (.int .i64 a.r.kind)), (.c 0 6, .v (.int .i64 a.r.index)), (.c 0 7, .sl 4 (eTms a.r.args) none), (.c 0 8, .sl 2 (eTys a.m) none), (.c 1 0, .sl 2 (eTys b.l.binds) none), (.c 1 1, .v (.int .i64 b.l.kind)), (.c 1 2, .v (.int .i64 b.l.index)), (.c 1 3, .sl 4 (eTms b.l.args) none), (.c 1 4, .sl 2 (eTys b.r.binds) none), (.c 1 5, .v (.int .i64 b.r.kind)), (.c 1 6, .v (.int .i64 b.r.index)), (.c 1 7, .sl 4 (eTms b.r.args) none), (.c 1 8, .sl 2 (eTys b.m) none), (.t 5, .v (.int .i64 q.1.2)), (.t 6, .v (.int .i64 ↑q.1.1))]) 2 (fun q => a.m.length - q.1.1) (⟨(0, n0), f2⟩) (VS.toA) fun q => ?_
        obtain ⟨⟨j, n⟩, hq⟩ := q
        dsimp only at hq ⊢
        by_cases hn : n = 0
        ·subst hn
         have hl := (hq.2 rfl).1
         by_cases hlt : j < a.m.length
         ·have hlt2 : j < b.m.length := by omega
          have hc := rcmp4_d a.m[j] b.m[j] (hma _ (List.getElem_mem hlt)) (hmb _ (List.getElem_mem hlt2))
          rw [eTy_eq, eTy_eq] at hc
          refine dw_seq ?_; refine dw_seq ?_; refine dwk [(50, .v (.bool true)), (55, .v (.int .i64 (↑a.m.length))), (56, .v (.bool true))] TRJ_ok hnt fun K hK => ?_; refine And.intro (VLe.refl _) ?_; refine And.intro (dintE (by rw [eTys_len])) ?_; refine And.intro auT ?_; refine hK _ _ ?_; clear hK K; refine dw_cond (t := true) rfl ?_; rw [if_pos rfl]; refine dw_skip ?_; refine dw_seq ?_; refine dw_block ?_
          refine dwkD [(63, .q [.sl 2 (eTys a.m[j].args) none, .v (.int .i64 a.m[j].base)]), (68, .q [.sl 2 (eTys b.m[j].args) none, .v (.int .i64 b.m[j].base)])] TRJ_ok hnt fun K hK => ?_; refine And.intro (elo (eTys_len a.m)) ?_; refine And.intro (elv (eTys_getD a.m j) (eTy_eq _)) ?_; refine And.intro (elo (eTys_len b.m)) ?_; refine And.intro (elv (eTys_getD b.m j) (eTy_eq _)) ?_; refine dcl (hc) ?_; refine hK _ _ (by kernel_rfl) ?_; clear hK K
          refine dwk [(59, .v (.int .i64 (↑(j + 1))))] TRJ_ok hnt fun K hK => ?_; refine And.intro auI ?_; refine hK _ _ ?_; clear hK K
          refine ⟨⟨(j + 1, _), hq.step hlt hlt2⟩, by first | omega | (dsimp only; omega), VS.toA⟩
         ·rw [hq.done (.inr hlt)]
          refine dw_seq ?_; refine dw_seq ?_; refine dwk [(50, .v (.bool true)), (55, .v (.int .i64 (↑a.m.length))), (56, .v (.bool false))] TRJ_ok hnt fun K hK => ?_; refine And.intro (VLe.refl _) ?_; refine And.intro (dintE (by rw [eTys_len])) ?_; refine And.intro auF ?_; refine hK _ _ ?_; clear hK K; refine dw_cond (t := false) rfl ?_; rw [if_neg (by simp)]; refine dw_exit ?_; refine dw_seq ?_; refine dwk [] TRJ_ok hnt fun K hK => ?_
          refine hK _ _ ?_; clear hK K; refine dw_ret ?_
          exact reta rfl
        ·rw [hq.done (.inl hn)]
         refine dw_seq ?_; refine dw_seq ?_; refine dwk [(50, .v (.bool false))] TRJ_ok hnt fun K hK => ?_; refine And.intro (beqF hn) ?_; refine hK _ _ ?_; clear hK K; refine dw_cond (t := false) rfl ?_; rw [if_neg (by simp)]; refine dw_exit ?_; refine dw_seq ?_; refine dwk [] TRJ_ok hnt fun K hK => ?_; refine hK _ _ ?_; clear hK K; refine dw_ret ?_
         exact reta rfl
    ·rw [orl_ne hk] at f1
     refine calldw 0 72 [ResultVar.tmp 4] TRJ_ok Tryz.func29 rfl Tryz.ntmps29 rfl fun cx hnt hn0 => ?_
     ·skip
      refine dw_seq ?_; refine dwk [] TRJ_ok hnt fun K hK => ?_; refine hK _ _ ?_; clear hK K; refine dw_seq ?_; refine dw_block ?_; refine dw_seq ?_; refine dwkD [(12, .v (.bool false))] TRJ_ok hnt fun K hK => ?_; refine dcl (w1) ?_; refine dcl (w2) ?_; refine And.intro auF ?_; refine hK _ _ (by kernel_rfl) ?_; clear hK K; refine dw_cond (t := false) rfl ?_; rw [if_neg (by simp)]; refine dw_seq ?_; refine dwkD [(18, .v (.bool false))] TRJ_ok hnt fun K hK => ?_
      refine dcl (w1) ?_; refine dcl (w2) ?_; refine And.intro auF ?_; refine hK _ _ (by kernel_rfl) ?_; clear hK K; refine dw_cond (t := false) rfl ?_; rw [if_neg (by simp)]; refine dw_skip ?_; refine dw_seq ?_; refine dwk [] TRJ_ok hnt fun K hK => ?_; refine dcl (c1) ?_; refine hK _ _ ?_; clear hK K; refine dw_seq ?_; refine dw_seq ?_; refine dwk [(25, .v (.bool true))] TRJ_ok hnt fun K hK => ?_; refine And.intro (VLe.refl _) ?_
      refine hK _ _ ?_; clear hK K; refine dw_cond (t := true) rfl ?_; rw [if_pos rfl]; refine dwk [] TRJ_ok hnt fun K hK => ?_; refine dcl (c2) ?_; refine hK _ _ ?_; clear hK K; refine dw_seq ?_; refine dw_seq ?_; refine dwk [(32, .v (.bool false))] TRJ_ok hnt fun K hK => ?_; refine And.intro (beqF hk) ?_; refine hK _ _ ?_; clear hK K; refine dw_cond (t := false) rfl ?_; rw [if_neg (by simp)]; refine dw_skip ?_
      refine dw_seq ?_; refine dw_seq ?_; refine dwk [] TRJ_ok hnt fun K hK => ?_; refine hK _ _ ?_; clear hK K; refine dw_block ?_
      refine dw_loop (ι := { q : Nat × Int // Ru.Far a.m b.m T q.1 q.2 }) (fun q => [(.t 2, .p 0 0), (.t 3, .p 1 0), (.c 0 0, .sl 2 (eTys a.l.binds) none), (.c 0 1, .v (.int .i64 a.l.kind)), (.c 0 2, .v (.int .i64 a.l.index)), (.c 0 3, .sl 4 (eTms a.l.args) none), (.c 0 4, .sl 2 (eTys a.r.binds) none), (.c 0 5, .v (.int .i64 a.r.kind)), (.c 0 6, .v (.int .i64 a.r.index)), (.c 0 7, .sl 4 (eTms a.r.args) none), (.c 0 8, .sl 2 (eTys a.m) none), (.c 1 0, .sl 2 (eTys b.l.binds) none), (.c 1 1, .v (.int .i64 b.l.kind)), (.c 1 2, .v (.int .i64 b.l.index)), (.c 1 3, .sl 4 (eTms b.l.args) none), (.c 1 4, .sl 2 (eTys b.r.binds) none), (.c 1 5, .v (.int .i64 b.r.kind)), (.c 1 6, .v (.int .i64 b.r.index)), (.c 1 7, .sl 4 (eTms b.r.args) none), (.c 1 8, .sl 2 (eTys b.m) none), (.t 5, .v (.int .i64 q.1.2)), (.t 6, .v (.int .i64 ↑q.1.1))]) 2 (fun q => a.m.length - q.1.1) (⟨(0, n0), f1⟩) (VS.toA) fun q => ?_
      obtain ⟨⟨j, n⟩, hq⟩ := q
      dsimp only at hq ⊢
      by_cases hn : n = 0
      ·subst hn
       have hl := (hq.2 rfl).1
       by_cases hlt : j < a.m.length
       ·have hlt2 : j < b.m.length := by omega
        have hc := rcmp4_d a.m[j] b.m[j] (hma _ (List.getElem_mem hlt)) (hmb _ (List.getElem_mem hlt2))
        rw [eTy_eq, eTy_eq] at hc
        refine dw_seq ?_; refine dw_seq ?_; refine dwk [(50, .v (.bool true)), (55, .v (.int .i64 (↑a.m.length))), (56, .v (.bool true))] TRJ_ok hnt fun K hK => ?_; refine And.intro (VLe.refl _) ?_; refine And.intro (dintE (by rw [eTys_len])) ?_; refine And.intro auT ?_; refine hK _ _ ?_; clear hK K; refine dw_cond (t := true) rfl ?_; rw [if_pos rfl]; refine dw_skip ?_; refine dw_seq ?_; refine dw_block ?_
        refine dwkD [(63, .q [.sl 2 (eTys a.m[j].args) none, .v (.int .i64 a.m[j].base)]), (68, .q [.sl 2 (eTys b.m[j].args) none, .v (.int .i64 b.m[j].base)])] TRJ_ok hnt fun K hK => ?_; refine And.intro (elo (eTys_len a.m)) ?_; refine And.intro (elv (eTys_getD a.m j) (eTy_eq _)) ?_; refine And.intro (elo (eTys_len b.m)) ?_; refine And.intro (elv (eTys_getD b.m j) (eTy_eq _)) ?_; refine dcl (hc) ?_; refine hK _ _ (by kernel_rfl) ?_; clear hK K
        refine dwk [(59, .v (.int .i64 (↑(j + 1))))] TRJ_ok hnt fun K hK => ?_; refine And.intro auI ?_; refine hK _ _ ?_; clear hK K
        refine ⟨⟨(j + 1, _), hq.step hlt hlt2⟩, by first | omega | (dsimp only; omega), VS.toA⟩
       ·rw [hq.done (.inr hlt)]
        refine dw_seq ?_; refine dw_seq ?_; refine dwk [(50, .v (.bool true)), (55, .v (.int .i64 (↑a.m.length))), (56, .v (.bool false))] TRJ_ok hnt fun K hK => ?_; refine And.intro (VLe.refl _) ?_; refine And.intro (dintE (by rw [eTys_len])) ?_; refine And.intro auF ?_; refine hK _ _ ?_; clear hK K; refine dw_cond (t := false) rfl ?_; rw [if_neg (by simp)]; refine dw_exit ?_; refine dw_seq ?_; refine dwk [] TRJ_ok hnt fun K hK => ?_
        refine hK _ _ ?_; clear hK K; refine dw_ret ?_
        exact reta rfl
      ·rw [hq.done (.inl hn)]
       refine dw_seq ?_; refine dw_seq ?_; refine dwk [(50, .v (.bool false))] TRJ_ok hnt fun K hK => ?_; refine And.intro (beqF hn) ?_; refine hK _ _ ?_; clear hK K; refine dw_cond (t := false) rfl ?_; rw [if_neg (by simp)]; refine dw_exit ?_; refine dw_seq ?_; refine dwk [] TRJ_ok hnt fun K hK => ?_; refine hK _ _ ?_; clear hK K; refine dw_ret ?_
       exact reta rfl
   ·have f1 : Ru.Far a.m b.m T 0 (orl (Tm.cmp a.l b.l) (sgn (a.m.length : Int) (b.m.length : Int))) := by rw [orl_ne k1] at f0 ⊢; exact f0
    generalize Tm.cmp a.l b.l = n0 at c1 f1 k1
    by_cases hk : n0 = 0
    ·rw [hk, orl_zero] at f1
     have hu : ∀ z : Int, a.m.length ≠ b.m.length → sgn (a.m.length : Int) (b.m.length : Int) = z → z ≠ 0 → T = z := fun z _ hz h => by rw [hz] at f1; exact f1.1 h
     by_cases hl1 : a.m.length < b.m.length
     ·rw [hu (-1) (by omega) (by unfold sgn; rw [if_pos (by omega)]) (by decide)]
      refine calldw 0 72 [ResultVar.tmp 4] TRJ_ok Tryz.func29 rfl Tryz.ntmps29 rfl fun cx hnt hn0 => ?_
      ·skip
       refine dw_seq ?_; refine dwk [] TRJ_ok hnt fun K hK => ?_; refine hK _ _ ?_; clear hK K; refine dw_seq ?_; refine dw_block ?_; refine dw_seq ?_; refine dwkD [(12, .v (.bool false))] TRJ_ok hnt fun K hK => ?_; refine dcl (w1) ?_; refine dcl (w2) ?_; refine And.intro auF ?_; refine hK _ _ (by kernel_rfl) ?_; clear hK K; refine dw_cond (t := false) rfl ?_; rw [if_neg (by simp)]; refine dw_seq ?_; refine dwkD [(18, .v (.bool false))] TRJ_ok hnt fun K hK => ?_
       refine dcl (w1) ?_; refine dcl (w2) ?_; refine And.intro auF ?_; refine hK _ _ (by kernel_rfl) ?_; clear hK K; refine dw_cond (t := false) rfl ?_; rw [if_neg (by simp)]; refine dw_skip ?_; refine dw_seq ?_; refine dwk [] TRJ_ok hnt fun K hK => ?_; refine dcl (c1) ?_; refine hK _ _ ?_; clear hK K; refine dw_seq ?_; refine dw_seq ?_; refine dwk [(25, .v (.bool false))] TRJ_ok hnt fun K hK => ?_; refine And.intro (beqF k1) ?_
       refine hK _ _ ?_; clear hK K; refine dw_cond (t := false) rfl ?_; rw [if_neg (by simp)]; refine dw_skip ?_; refine dw_seq ?_; refine dw_seq ?_; refine dwk [(32, .v (.bool true)), (36, .v (.int .i64 (↑a.m.length))), (39, .v (.int .i64 (↑b.m.length))), (40, .v (.bool true))] TRJ_ok hnt fun K hK => ?_; refine And.intro (beqT hk) ?_; refine And.intro (dintE (by rw [eTys_len])) ?_; refine And.intro (dintE (by rw [eTys_len])) ?_
       refine And.intro (bneT (by omega)) ?_; refine hK _ _ ?_; clear hK K; refine dw_cond (t := true) rfl ?_; rw [if_pos rfl]; refine dw_seq ?_; refine dw_seq ?_; refine dwk [(44, .v (.int .i64 (↑a.m.length))), (47, .v (.int .i64 (↑b.m.length))), (48, .v (.bool true))] TRJ_ok hnt fun K hK => ?_; refine And.intro (dintE (by rw [eTys_len])) ?_; refine And.intro (dintE (by rw [eTys_len])) ?_; refine And.intro auT ?_
       refine hK _ _ ?_; clear hK K; refine dw_cond (t := true) rfl ?_; rw [if_pos rfl]; refine dw_seq ?_; refine dwk [] TRJ_ok hnt fun K hK => ?_; refine hK _ _ ?_; clear hK K; refine dw_ret ?_
       exact reta rfl
     ·by_cases hl2 : b.m.length < a.m.length
      ·rw [hu 1 (by omega) (by unfold sgn; rw [if_neg (by omega), if_pos (by omega)]) (by decide)]
       refine calldw 0 72 [ResultVar.tmp 4] TRJ_ok Tryz.func29 rfl Tryz.ntmps29 rfl fun cx hnt hn0 => ?_
       ·skip
        refine dw_seq ?_; refine dwk [] TRJ_ok hnt fun K hK => ?_; refine hK _ _ ?_; clear hK K; refine dw_seq ?_; refine dw_block ?_; refine dw_seq ?_; refine dwkD [(12, .v (.bool false))] TRJ_ok hnt fun K hK => ?_; refine dcl (w1) ?_; refine dcl (w2) ?_; refine And.intro auF ?_; refine hK _ _ (by kernel_rfl) ?_; clear hK K; refine dw_cond (t := false) rfl ?_; rw [if_neg (by simp)]; refine dw_seq ?_; refine dwkD [(18, .v (.bool false))] TRJ_ok hnt fun K hK => ?_
        refine dcl (w1) ?_; refine dcl (w2) ?_; refine And.intro auF ?_; refine hK _ _ (by kernel_rfl) ?_; clear hK K; refine dw_cond (t := false) rfl ?_; rw [if_neg (by simp)]; refine dw_skip ?_; refine dw_seq ?_; refine dwk [] TRJ_ok hnt fun K hK => ?_; refine dcl (c1) ?_; refine hK _ _ ?_; clear hK K; refine dw_seq ?_; refine dw_seq ?_; refine dwk [(25, .v (.bool false))] TRJ_ok hnt fun K hK => ?_; refine And.intro (beqF k1) ?_
        refine hK _ _ ?_; clear hK K; refine dw_cond (t := false) rfl ?_; rw [if_neg (by simp)]; refine dw_skip ?_; refine dw_seq ?_; refine dw_seq ?_; refine dwk [(32, .v (.bool true)), (36, .v (.int .i64 (↑a.m.length))), (39, .v (.int .i64 (↑b.m.length))), (40, .v (.bool true))] TRJ_ok hnt fun K hK => ?_; refine And.intro (beqT hk) ?_; refine And.intro (dintE (by rw [eTys_len])) ?_; refine And.intro (dintE (by rw [eTys_len])) ?_
        refine And.intro (bneT (by omega)) ?_; refine hK _ _ ?_; clear hK K; refine dw_cond (t := true) rfl ?_; rw [if_pos rfl]; refine dw_seq ?_; refine dw_seq ?_; refine dwk [(44, .v (.int .i64 (↑a.m.length))), (47, .v (.int .i64 (↑b.m.length))), (48, .v (.bool false))] TRJ_ok hnt fun K hK => ?_; refine And.intro (dintE (by rw [eTys_len])) ?_; refine And.intro (dintE (by rw [eTys_len])) ?_; refine And.intro auF ?_
        refine hK _ _ ?_; clear hK K; refine dw_cond (t := false) rfl ?_; rw [if_neg (by simp)]; refine dw_skip ?_; refine dw_seq ?_; refine dwk [] TRJ_ok hnt fun K hK => ?_; refine hK _ _ ?_; clear hK K; refine dw_ret ?_
        exact reta rfl
      ·have hl3 : sgn (a.m.length : Int) (b.m.length : Int) = 0 := sgn_zero.2 (by omega)
       rw [hl3] at f1
       have f2 : Ru.Far a.m b.m T 0 n0 := by rw [hk]; exact f1
       refine calldw 0 72 [ResultVar.tmp 4] TRJ_ok Tryz.func29 rfl Tryz.ntmps29 rfl fun cx hnt hn0 => ?_
       ·skip
        refine dw_seq ?_; refine dwk [] TRJ_ok hnt fun K hK => ?_; refine hK _ _ ?_; clear hK K; refine dw_seq ?_; refine dw_block ?_; refine dw_seq ?_; refine dwkD [(12, .v (.bool false))] TRJ_ok hnt fun K hK => ?_; refine dcl (w1) ?_; refine dcl (w2) ?_; refine And.intro auF ?_; refine hK _ _ (by kernel_rfl) ?_; clear hK K; refine dw_cond (t := false) rfl ?_; rw [if_neg (by simp)]; refine dw_seq ?_; refine dwkD [(18, .v (.bool false))] TRJ_ok hnt fun K hK => ?_
        refine dcl (w1) ?_; refine dcl (w2) ?_; refine And.intro auF ?_; refine hK _ _ (by kernel_rfl) ?_; clear hK K; refine dw_cond (t := false) rfl ?_; rw [if_neg (by simp)]; refine dw_skip ?_; refine dw_seq ?_; refine dwk [] TRJ_ok hnt fun K hK => ?_; refine dcl (c1) ?_; refine hK _ _ ?_; clear hK K; refine dw_seq ?_; refine dw_seq ?_; refine dwk [(25, .v (.bool false))] TRJ_ok hnt fun K hK => ?_; refine And.intro (beqF k1) ?_
        refine hK _ _ ?_; clear hK K; refine dw_cond (t := false) rfl ?_; rw [if_neg (by simp)]; refine dw_skip ?_; refine dw_seq ?_; refine dw_seq ?_; refine dwk [(32, .v (.bool true)), (36, .v (.int .i64 (↑a.m.length))), (39, .v (.int .i64 (↑b.m.length))), (40, .v (.bool false))] TRJ_ok hnt fun K hK => ?_; refine And.intro (beqT hk) ?_; refine And.intro (dintE (by rw [eTys_len])) ?_; refine And.intro (dintE (by rw [eTys_len])) ?_
        refine And.intro (bneF (by omega)) ?_; refine hK _ _ ?_; clear hK K; refine dw_cond (t := false) rfl ?_; rw [if_neg (by simp)]; refine dw_skip ?_; refine dw_seq ?_; refine dw_seq ?_; refine dwk [] TRJ_ok hnt fun K hK => ?_; refine hK _ _ ?_; clear hK K; refine dw_block ?_
        refine dw_loop (ι := { q : Nat × Int // Ru.Far a.m b.m T q.1 q.2 }) (fun q => [(.t 2, .p 0 0), (.t 3, .p 1 0), (.c 0 0, .sl 2 (eTys a.l.binds) none), (.c 0 1, .v (.int .i64 a.l.kind)), (.c 0 2, .v (.int .i64 a.l.index)), (.c 0 3, .sl 4 (eTms a.l.args) none), (.c 0 4, .sl 2 (eTys a.r.binds) none), (.c 0 5, .v (.int .i64 a.r.kind)), (.c 0 6, .v (.int .i64 a.r.index)), (.c 0 7, .sl 4 (eTms a.r.args) none), (.c 0 8, .sl 2 (eTys a.m) none), (.c 1 0, .sl 2 (eTys b.l.binds) none), (.c 1 1, .v (.int .i64 b.l.kind)), (.c 1 2, .v (.int .i64 b.l.index)), (.c 1 3, .sl 4 (eTms b.l.args) none), (.c 1 4, .sl 2 (eTys b.r.binds) none), (.c 1 5, .v (.int .i64 b.r.kind)), (.c 1 6, .v (.int .i64 b.r.index)), (.c 1 7, .sl 4 (eTms b.r.args) none), (.c 1 8, .sl 2 (eTys b.m) none), (.t 5, .v (.int .i64 q.1.2)), (.t 6, .v (.int .i64 ↑q.1.1))]) 2 (fun q => a.m.length - q.1.1) (⟨(0, n0), f2⟩) (VS.toA) fun q => ?_
        obtain ⟨⟨j, n⟩, hq⟩ := q
        dsimp only at hq ⊢
        by_cases hn : n = 0
        ·subst hn
         have hl := (hq.2 rfl).1
         by_cases hlt : j < a.m.length
         ·have hlt2 : j < b.m.length := by omega
          have hc := rcmp4_d a.m[j] b.m[j] (hma _ (List.getElem_mem hlt)) (hmb _ (List.getElem_mem hlt2))
          rw [eTy_eq, eTy_eq] at hc
          refine dw_seq ?_; refine dw_seq ?_; refine dwk [(50, .v (.bool true)), (55, .v (.int .i64 (↑a.m.length))), (56, .v (.bool true))] TRJ_ok hnt fun K hK => ?_; refine And.intro (VLe.refl _) ?_; refine And.intro (dintE (by rw [eTys_len])) ?_; refine And.intro auT ?_; refine hK _ _ ?_; clear hK K; refine dw_cond (t := true) rfl ?_; rw [if_pos rfl]; refine dw_skip ?_; refine dw_seq ?_; refine dw_block ?_
          refine dwkD [(63, .q [.sl 2 (eTys a.m[j].args) none, .v (.int .i64 a.m[j].base)]), (68, .q [.sl 2 (eTys b.m[j].args) none, .v (.int .i64 b.m[j].base)])] TRJ_ok hnt fun K hK => ?_; refine And.intro (elo (eTys_len a.m)) ?_; refine And.intro (elv (eTys_getD a.m j) (eTy_eq _)) ?_; refine And.intro (elo (eTys_len b.m)) ?_; refine And.intro (elv (eTys_getD b.m j) (eTy_eq _)) ?_; refine dcl (hc) ?_; refine hK _ _ (by kernel_rfl) ?_; clear hK K
          refine dwk [(59, .v (.int .i64 (↑(j + 1))))] TRJ_ok hnt fun K hK => ?_; refine And.intro auI ?_; refine hK _ _ ?_; clear hK K
          refine ⟨⟨(j + 1, _), hq.step hlt hlt2⟩, by first | omega | (dsimp only; omega), VS.toA⟩
         ·rw [hq.done (.inr hlt)]
          refine dw_seq ?_; refine dw_seq ?_; refine dwk [(50, .v (.bool true)), (55, .v (.int .i64 (↑a.m.length))), (56, .v (.bool false))] TRJ_ok hnt fun K hK => ?_; refine And.intro (VLe.refl _) ?_; refine And.intro (dintE (by rw [eTys_len])) ?_; refine And.intro auF ?_; refine hK _ _ ?_; clear hK K; refine dw_cond (t := false) rfl ?_; rw [if_neg (by simp)]; refine dw_exit ?_; refine dw_seq ?_; refine dwk [] TRJ_ok hnt fun K hK => ?_
          refine hK _ _ ?_; clear hK K; refine dw_ret ?_
          exact reta rfl
        ·rw [hq.done (.inl hn)]
         refine dw_seq ?_; refine dw_seq ?_; refine dwk [(50, .v (.bool false))] TRJ_ok hnt fun K hK => ?_; refine And.intro (beqF hn) ?_; refine hK _ _ ?_; clear hK K; refine dw_cond (t := false) rfl ?_; rw [if_neg (by simp)]; refine dw_exit ?_; refine dw_seq ?_; refine dwk [] TRJ_ok hnt fun K hK => ?_; refine hK _ _ ?_; clear hK K; refine dw_ret ?_
         exact reta rfl
    ·rw [orl_ne hk] at f1
     refine calldw 0 72 [ResultVar.tmp 4] TRJ_ok Tryz.func29 rfl Tryz.ntmps29 rfl fun cx hnt hn0 => ?_
     ·skip
      refine dw_seq ?_; refine dwk [] TRJ_ok hnt fun K hK => ?_; refine hK _ _ ?_; clear hK K; refine dw_seq ?_; refine dw_block ?_; refine dw_seq ?_; refine dwkD [(12, .v (.bool false))] TRJ_ok hnt fun K hK => ?_; refine dcl (w1) ?_; refine dcl (w2) ?_; refine And.intro auF ?_; refine hK _ _ (by kernel_rfl) ?_; clear hK K; refine dw_cond (t := false) rfl ?_; rw [if_neg (by simp)]; refine dw_seq ?_; refine dwkD [(18, .v (.bool false))] TRJ_ok hnt fun K hK => ?_
      refine dcl (w1) ?_; refine dcl (w2) ?_; refine And.intro auF ?_; refine hK _ _ (by kernel_rfl) ?_; clear hK K; refine dw_cond (t := false) rfl ?_; rw [if_neg (by simp)]; refine dw_skip ?_; refine dw_seq ?_; refine dwk [] TRJ_ok hnt fun K hK => ?_; refine dcl (c1) ?_; refine hK _ _ ?_; clear hK K; refine dw_seq ?_; refine dw_seq ?_; refine dwk [(25, .v (.bool false))] TRJ_ok hnt fun K hK => ?_; refine And.intro (beqF k1) ?_
      refine hK _ _ ?_; clear hK K; refine dw_cond (t := false) rfl ?_; rw [if_neg (by simp)]; refine dw_skip ?_; refine dw_seq ?_; refine dw_seq ?_; refine dwk [(32, .v (.bool false))] TRJ_ok hnt fun K hK => ?_; refine And.intro (beqF hk) ?_; refine hK _ _ ?_; clear hK K; refine dw_cond (t := false) rfl ?_; rw [if_neg (by simp)]; refine dw_skip ?_; refine dw_seq ?_; refine dw_seq ?_; refine dwk [] TRJ_ok hnt fun K hK => ?_
      refine hK _ _ ?_; clear hK K; refine dw_block ?_
      refine dw_loop (ι := { q : Nat × Int // Ru.Far a.m b.m T q.1 q.2 }) (fun q => [(.t 2, .p 0 0), (.t 3, .p 1 0), (.c 0 0, .sl 2 (eTys a.l.binds) none), (.c 0 1, .v (.int .i64 a.l.kind)), (.c 0 2, .v (.int .i64 a.l.index)), (.c 0 3, .sl 4 (eTms a.l.args) none), (.c 0 4, .sl 2 (eTys a.r.binds) none), (.c 0 5, .v (.int .i64 a.r.kind)), (.c 0 6, .v (.int .i64 a.r.index)), (.c 0 7, .sl 4 (eTms a.r.args) none), (.c 0 8, .sl 2 (eTys a.m) none), (.c 1 0, .sl 2 (eTys b.l.binds) none), (.c 1 1, .v (.int .i64 b.l.kind)), (.c 1 2, .v (.int .i64 b.l.index)), (.c 1 3, .sl 4 (eTms b.l.args) none), (.c 1 4, .sl 2 (eTys b.r.binds) none), (.c 1 5, .v (.int .i64 b.r.kind)), (.c 1 6, .v (.int .i64 b.r.index)), (.c 1 7, .sl 4 (eTms b.r.args) none), (.c 1 8, .sl 2 (eTys b.m) none), (.t 5, .v (.int .i64 q.1.2)), (.t 6, .v (.int .i64 ↑q.1.1))]) 2 (fun q => a.m.length - q.1.1) (⟨(0, n0), f1⟩) (VS.toA) fun q => ?_
      obtain ⟨⟨j, n⟩, hq⟩ := q
      dsimp only at hq ⊢
      by_cases hn : n = 0
      ·subst hn
       have hl := (hq.2 rfl).1
       by_cases hlt : j < a.m.length
       ·have hlt2 : j < b.m.length := by omega
        have hc := rcmp4_d a.m[j] b.m[j] (hma _ (List.getElem_mem hlt)) (hmb _ (List.getElem_mem hlt2))
        rw [eTy_eq, eTy_eq] at hc
        refine dw_seq ?_; refine dw_seq ?_; refine dwk [(50, .v (.bool true)), (55, .v (.int .i64 (↑a.m.length))), (56, .v (.bool true))] TRJ_ok hnt fun K hK => ?_; refine And.intro (VLe.refl _) ?_; refine And.intro (dintE (by rw [eTys_len])) ?_; refine And.intro auT ?_; refine hK _ _ ?_; clear hK K; refine dw_cond (t := true) rfl ?_; rw [if_pos rfl]; refine dw_skip ?_; refine dw_seq ?_; refine dw_block ?_
        refine dwkD [(63, .q [.sl 2 (eTys a.m[j].args) none, .v (.int .i64 a.m[j].base)]), (68, .q [.sl 2 (eTys b.m[j].args) none, .v (.int .i64 b.m[j].base)])] TRJ_ok hnt fun K hK => ?_; refine And.intro (elo (eTys_len a.m)) ?_; refine And.intro (elv (eTys_getD a.m j) (eTy_eq _)) ?_; refine And.intro (elo (eTys_len b.m)) ?_; refine And.intro (elv (eTys_getD b.m j) (eTy_eq _)) ?_; refine dcl (hc) ?_; refine hK _ _ (by kernel_rfl) ?_; clear hK K
        refine dwk [(59, .v (.int .i64 (↑(j + 1))))] TRJ_ok hnt fun K hK => ?_; refine And.intro auI ?_; refine hK _ _ ?_; clear hK K
        refine ⟨⟨(j + 1, _), hq.step hlt hlt2⟩, by first | omega | (dsimp only; omega), VS.toA⟩
       ·rw [hq.done (.inr hlt)]
        refine dw_seq ?_; refine dw_seq ?_; refine dwk [(50, .v (.bool true)), (55, .v (.int .i64 (↑a.m.length))), (56, .v (.bool false))] TRJ_ok hnt fun K hK => ?_; refine And.intro (VLe.refl _) ?_; refine And.intro (dintE (by rw [eTys_len])) ?_; refine And.intro auF ?_; refine hK _ _ ?_; clear hK K; refine dw_cond (t := false) rfl ?_; rw [if_neg (by simp)]; refine dw_exit ?_; refine dw_seq ?_; refine dwk [] TRJ_ok hnt fun K hK => ?_
        refine hK _ _ ?_; clear hK K; refine dw_ret ?_
        exact reta rfl
      ·rw [hq.done (.inl hn)]
       refine dw_seq ?_; refine dw_seq ?_; refine dwk [(50, .v (.bool false))] TRJ_ok hnt fun K hK => ?_; refine And.intro (beqF hn) ?_; refine hK _ _ ?_; clear hK K; refine dw_cond (t := false) rfl ?_; rw [if_neg (by simp)]; refine dw_exit ?_; refine dw_seq ?_; refine dwk [] TRJ_ok hnt fun K hK => ?_; refine hK _ _ ?_; clear hK K; refine dw_ret ?_
       exact reta rfl
end Go.Proofs.YtdmiekaeodcehaaGreat

namespace Go.Proofs.YtdmiekaeodcehaaGreat
open Go.RowKit
def TRK_38 : TI := ⟨9, true, [Value.slice none 0 0, Value.int IntKind.i64 0, Value.int IntKind.i64 0, Value.slice none 0 0, Value.slice none 0 0, Value.int IntKind.i64 0, Value.int IntKind.i64 0, Value.slice none 0 0, Value.slice none 0 0], [(0, 4, true), (4, 4, true), (8, 1, false)], none, 152, 6, none, false⟩
theorem TRK_38_ok : TypOk Tryz.prog 38 TRK_38 := ⟨by kernel_rfl, by kernel_rfl, by kernel_rfl, by kernel_rfl, by kernel_rfl⟩
def TRK_29 : TI := ⟨9, true, [Value.slice none 0 0, Value.int IntKind.i64 0, Value.int IntKind.i64 0, Value.slice none 0 0, Value.slice none 0 0, Value.int IntKind.i64 0, Value.int IntKind.i64 0, Value.slice none 0 0, Value.slice none 0 0], [(0, 4, true), (4, 4, true), (8, 1, false)], none, 152, 6, none, false⟩
theorem TRK_29_ok : TypOk Tryz.prog 29 TRK_29 := ⟨by kernel_rfl, by kernel_rfl, by kernel_rfl, by kernel_rfl, by kernel_rfl⟩
def TRK_36 : TI := ⟨4, true, [Value.slice none 0 0, Value.int IntKind.i64 0, Value.int IntKind.i64 0, Value.slice none 0 0], [(0, 1, false), (1, 2, true), (3, 1, false)], none, 64, 6, none, false⟩
theorem TRK_36_ok : TypOk Tryz.prog 36 TRK_36 := ⟨by kernel_rfl, by kernel_rfl, by kernel_rfl, by kernel_rfl, by kernel_rfl⟩
def TRK_27 : TI := ⟨4, true, [Value.slice none 0 0, Value.int IntKind.i64 0, Value.int IntKind.i64 0, Value.slice none 0 0], [(0, 1, false), (1, 2, true), (3, 1, false)], none, 64, 6, none, false⟩
theorem TRK_27_ok : TypOk Tryz.prog 27 TRK_27 := ⟨by kernel_rfl, by kernel_rfl, by kernel_rfl, by kernel_rfl, by kernel_rfl⟩
def TRK_3 : TI := ⟨1, false, [Value.int IntKind.i64 0], [], none, 8, 2, none, false⟩
theorem TRK_3_ok : TypOk Tryz.prog 3 TRK_3 := ⟨by kernel_rfl, by kernel_rfl, by kernel_rfl, by kernel_rfl, by kernel_rfl⟩
def TRK_32 : TI := ⟨1, false, [Value.slice none 0 0], [], some 75, 24, 5, none, false⟩
theorem TRK_32_ok : TypOk Tryz.prog 32 TRK_32 := ⟨by kernel_rfl, by kernel_rfl, by kernel_rfl, by kernel_rfl, by kernel_rfl⟩
def TRK_75 : TI := ⟨2, true, [Value.slice none 0 0, Value.int IntKind.i64 0], [(0, 1, false), (1, 1, false)], none, 32, 6, none, false⟩
theorem TRK_75_ok : TypOk Tryz.prog 75 TRK_75 := ⟨by kernel_rfl, by kernel_rfl, by kernel_rfl, by kernel_rfl, by kernel_rfl⟩
def TRK_59 : TI := ⟨1, false, [Value.slice none 0 0], [], some 29, 24, 5, none, false⟩
theorem TRK_59_ok : TypOk Tryz.prog 59 TRK_59 := ⟨by kernel_rfl, by kernel_rfl, by kernel_rfl, by kernel_rfl, by kernel_rfl⟩
def TRK_4 : TI := ⟨1, false, [Value.bool false], [], none, 1, 1, none, false⟩
theorem TRK_4_ok : TypOk Tryz.prog 4 TRK_4 := ⟨by kernel_rfl, by kernel_rfl, by kernel_rfl, by kernel_rfl, by kernel_rfl⟩
def TRK_22 : TI := ⟨1, false, [Value.slice none 0 0], [], some 91, 24, 5, none, false⟩
theorem TRK_22_ok : TypOk Tryz.prog 22 TRK_22 := ⟨by kernel_rfl, by kernel_rfl, by kernel_rfl, by kernel_rfl, by kernel_rfl⟩
def TRK_91 : TI := ⟨2, true, [Value.slice none 0 0, Value.int IntKind.i64 0], [(0, 1, false), (1, 1, false)], none, 32, 6, none, false⟩
theorem TRK_91_ok : TypOk Tryz.prog 91 TRK_91 := ⟨by kernel_rfl, by kernel_rfl, by kernel_rfl, by kernel_rfl, by kernel_rfl⟩
def TRK : List (Nat × TI) := [(38, TRK_38), (29, TRK_29), (36, TRK_36), (27, TRK_27), (3, TRK_3), (32, TRK_32), (75, TRK_75), (59, TRK_59), (4, TRK_4), (22, TRK_22), (91, TRK_91)]
theorem TRK_ok : TabOk Tryz.prog TRK := ((((((((((((TabOk.nil _).cons TRK_91_ok).cons TRK_22_ok).cons TRK_4_ok).cons TRK_59_ok).cons TRK_75_ok).cons TRK_32_ok).cons TRK_3_ok).cons TRK_27_ok).cons TRK_36_ok).cons TRK_29_ok).cons TRK_38_ok)
namespace Ru
def swap (p : Li.Pr) : Li.Pr := ⟨p.r, p.l, p.m⟩
theorem swap_swap (p : Li.Pr) : swap (swap p) = p := rfl
theorem swap_at (p : Li.Pr) : ePr (swap p) = [.sl 2 (eTys p.r.binds) none, .v (.int .i64 p.r.kind), .v (.int .i64 p.r.index), .sl 4 (eTms p.r.args) none, .sl 2 (eTys p.l.binds) none, .v (.int .i64 p.l.kind), .v (.int .i64 p.l.index), .sl 4 (eTms p.l.args) none, .sl 2 (eTys p.m) none] := rfl
end Ru
theorem rutypes_d (M : List Ty) (h : Ty.sizes M ≤ 800000) : PureC Tryz.prog 73 [.sl 2 (eTys M) none] (.sl 2 (eTys M) none) := by
 have ha := arrow_d (.mk [] 0) M (by rw [ty_size]; simp [Ty.sizes]; omega)
 simp only [eTy_eq, args_mk', base_mk', List.append_nil] at ha
 refine calldw 0 7 [ResultVar.tmp 2] TRK_ok Tryz.func73 rfl Tryz.ntmps73 rfl fun cx hnt hn0 => ?_
 ·skip
  refine dw_seq ?_; refine dwk [] TRK_ok hnt fun K hK => ?_; refine hK _ _ ?_; clear hK K; refine dw_seq ?_; refine dwk [(3, .ag [.sl 2 (eTys []) none, .v (.int .i64 0)])] TRK_ok hnt fun K hK => ?_; refine And.intro (auV) ?_; refine dcl (ha) ?_; refine hK _ _ ?_; clear hK K; refine dw_ret ?_
  exact reta rfl
theorem rucopied_d (p : Li.Pr) (h1 : p.l.full ≤ 900000 ∧ p.l.Fit) (h2 : p.r.full ≤ 900000 ∧ p.r.Fit) (h3 : Ty.sizes p.m ≤ 800000) : PureC Tryz.prog 82 [.ag (ePr p)] (.ag (ePr p)) := by
 have c1 := copyW_d p.l h1.1 h1.2
 have c2 := copyW_d p.r h2.1 h2.2
 have c3 := rutypes_d p.m h3
 rw [eTm_eq] at c1 c2
 rw [ePr_at]
 refine calldw 0 13 [ResultVar.cell 2 38] TRK_ok Tryz.func82 rfl Tryz.ntmps82 rfl fun cx hnt hn0 => ?_
 ·skip
  refine dw_seq ?_; refine dwk [] TRK_ok hnt fun K hK => ?_; refine hK _ _ ?_; clear hK K; refine dw_seq ?_; refine dwkD [] TRK_ok hnt fun K hK => ?_; refine dcl (c1) ?_; refine dcl (c2) ?_; refine dcl (c3) ?_; refine hK _ _ (by kernel_rfl) ?_; clear hK K; refine dw_ret ?_
  exact reta rfl
theorem ruswap_d (p : Li.Pr) (h1 : p.l.full ≤ 900000 ∧ p.l.Fit) (h2 : p.r.full ≤ 900000 ∧ p.r.Fit) (h3 : Ty.sizes p.m ≤ 800000) : PureC Tryz.prog 32 [.ag (ePr p)] (.ag (ePr (Ru.swap p))) := by
 have c := rucopied_d (Ru.swap p) h2 h1 h3
 rw [Ru.swap_at] at c ⊢
 rw [ePr_at]
 refine calldw 0 11 [ResultVar.cell 2 38] TRK_ok Tryz.func32 rfl Tryz.ntmps32 rfl fun cx hnt hn0 => ?_
 ·skip
  refine dw_seq ?_; refine dwk [] TRK_ok hnt fun K hK => ?_; refine hK _ _ ?_; clear hK K; refine dw_seq ?_; refine dwk [] TRK_ok hnt fun K hK => ?_; refine dcl (c) ?_; refine hK _ _ ?_; clear hK K; refine dw_ret ?_
  exact reta rfl
theorem rswap_d (p : Li.Pr) : PureC Tryz.prog 33 [.ag (ePr p)] (.ag (ePr (Ru.swap p))) := by
 rw [Ru.swap_at, ePr_at]
 refine calldw 0 10 [ResultVar.cell 2 29] TRK_ok Tryz.func33 rfl Tryz.ntmps33 rfl fun cx hnt hn0 => ?_
 ·skip
  refine dw_seq ?_; refine dwk [] TRK_ok hnt fun K hK => ?_; refine hK _ _ ?_; clear hK K; refine dw_seq ?_; refine dwk [] TRK_ok hnt fun K hK => ?_; refine hK _ _ ?_; clear hK K; refine dw_ret ?_
  exact reta rfl
theorem rutriv_d (p : Li.Pr) : PureC Tryz.prog 34 [.ag (ePr p)] (.v (.bool (decide (p.l = p.r)))) := by
 have c := equal2_d p.l p.r
 rw [eTm_eq, eTm_eq] at c
 rw [ePr_at]
 refine calldw 0 8 [ResultVar.tmp 2] TRK_ok Tryz.func34 rfl Tryz.ntmps34 rfl fun cx hnt hn0 => ?_
 ·skip
  refine dw_seq ?_; refine dwk [] TRK_ok hnt fun K hK => ?_; refine hK _ _ ?_; clear hK K; refine dw_seq ?_; refine dwk [] TRK_ok hnt fun K hK => ?_; refine dcl (c) ?_; refine hK _ _ ?_; clear hK K; refine dw_ret ?_
  exact reta rfl
set_option maxHeartbeats 8000000 in
theorem ruleOrders_d (a b : Li.Pr) (ha : a.l.Fit ∧ a.r.Fit) (hb : b.l.Fit ∧ b.r.Fit) : PureC Tryz.prog 5 [.ag (ePr a), .ag (ePr b)] (.v (.bool true)) := by
 have hk := known17_d
 have hF := few17_d [a, b] (by simp)
 have eP : ePrs [a, b] = [ePr a, ePr b] := rfl
 rw [ePr_at, ePr_at b] at eP
 cases hf : [a, b].all fewP with
 | false =>
  rw [hf] at hF
  rw [ePr_at, ePr_at b]
  refine calldw 0 77 [ResultVar.tmp 4] TRK_ok Tryz.func5 rfl Tryz.ntmps5 rfl fun cx hnt hn0 => ?_
  ·skip
   refine dw_seq ?_; refine dwk [] TRK_ok hnt fun K hK => ?_; refine hK _ _ ?_; clear hK K; refine dw_seq ?_; refine dw_seq ?_; refine dwk [(10, .sl 9 (ePrs [a, b]) none)] TRK_ok hnt fun K hK => ?_; refine And.intro ((by rw [eP]; exact VLe.untag _ _ _)) ?_; refine dcl (hF) ?_; refine hK _ _ ?_; clear hK K; refine dw_cond (t := true) rfl ?_; rw [if_pos rfl]; refine dw_seq ?_; refine dwk [] TRK_ok hnt fun K hK => ?_
   refine dcl (hk) ?_; refine hK _ _ ?_; clear hK K; refine dw_ret ?_
   exact reta rfl
 | true =>
 rw [hf] at hF
 simp only [List.all_cons, List.all_nil, Bool.and_true, Bool.and_eq_true] at hf
 obtain ⟨a1, a2, a3⟩ := fewP_ok hf.1
 obtain ⟨b1, b2, b3⟩ := fewP_ok hf.2
 have za : Ty.sizes a.m ≤ 1200 := by have := sizes_le22 a3; omega
 have zb : Ty.sizes b.m ≤ 1200 := by have := sizes_le22 b3; omega
 have tA := to17_d a (by omega) (by omega) (by omega)
 have tB := to17_d b (by omega) (by omega) (by omega)
 have ma : ∀ t ∈ a.m, t.size ≤ 400000 := fun t h => by have := a3 t h; omega
 have mb : ∀ t ∈ b.m, t.size ≤ 400000 := fun t h => by have := b3 t h; omega
 have n1 := rucmp_d a b ⟨by omega, by omega⟩ ⟨by omega, by omega⟩ ma mb (by omega) (by omega)
 have n2 := rucmp_d b a ⟨by omega, by omega⟩ ⟨by omega, by omega⟩ mb ma (by omega) (by omega)
 have n3 := rcmp17_d a b ⟨by omega, by omega⟩ ⟨by omega, by omega⟩ ma mb (by omega) (by omega)
 rw [Ru.cmp_neg a b] at n2
 have s1 := same17_d a b (by omega) (by omega)
 rw [show decide (a = b) = decide (Ru.cmp a b = 0) by rw [decide_eq_decide]; exact (Ru.cmp_zero a b).symm] at s1
 have hrange : -1 ≤ Ru.cmp a b ∧ Ru.cmp a b ≤ 1 := Ru.cmp_range a b
 obtain ⟨n, hn⟩ : ∃ n, Ru.cmp a b = n := ⟨_, rfl⟩
 rw [hn] at n1 n2 n3 s1 hrange
 have w1 := ruwt_d a (by omega) (by omega)
 have w2 := rwt_d a (by omega) (by omega)
 have p1 := ruswap_d a ⟨by omega, ha.1⟩ ⟨by omega, ha.2⟩ (by omega)
 have p2 := rswap_d a
 have p3 := ruswap_d (Ru.swap a) ⟨by show a.r.full ≤ _; omega, ha.2⟩ ⟨by show a.l.full ≤ _; omega, ha.1⟩ (by show Ty.sizes a.m ≤ _; omega)
 have o1 := of17_d (Ru.swap a) (by show a.r.full ≤ _; omega) (by show a.l.full ≤ _; omega) (by show Ty.sizes a.m ≤ _; omega)
 have s2 := same17_d (Ru.swap a) (Ru.swap a) (by show a.m.length ≤ _; omega) (by show a.m.length ≤ _; omega)
 rw [decide_eq_true rfl] at s2
 have e1 := ruequal_d a a
 rw [decide_eq_true rfl] at e1
 have t1 := rutriv_d a
 have t2 := same2_d a.l a.r
 rw [Ru.swap_swap] at p3
 rw [Ru.swap_at] at p1 p2 p3 o1 s2
 rw [ePr_at a] at p1 p2 p3 tA n1 n2 n3 s1 w1 w2 e1 t1
 rw [ePr_at b] at tB n1 n2 n3 s1
 rw [ePr_at, ePr_at b]
 rw [eTm_eq, eTm_eq] at t2
 refine calldw 0 77 [ResultVar.tmp 4] TRK_ok Tryz.func5 rfl Tryz.ntmps5 rfl fun cx hnt hn0 => ?_
 ·skip
  refine dw_seq ?_; refine dwk [] TRK_ok hnt fun K hK => ?_; refine hK _ _ ?_; clear hK K; refine dw_seq ?_; refine dw_seq ?_; refine dwk [(10, .sl 9 (ePrs [a, b]) none)] TRK_ok hnt fun K hK => ?_; refine And.intro ((by rw [eP]; exact VLe.untag _ _ _)) ?_; refine dcl (hF) ?_; refine hK _ _ ?_; clear hK K; refine dw_cond (t := false) rfl ?_; rw [if_neg (by simp)]; refine dw_skip ?_; refine dw_seq ?_; refine dwkD [] TRK_ok hnt fun K hK => ?_
  refine dcl (tA) ?_; refine dcl (tB) ?_; refine hK _ _ (by kernel_rfl) ?_; clear hK K; refine dw_seq ?_; refine dwk [] TRK_ok hnt fun K hK => ?_; refine dcl (n1) ?_; refine hK _ _ ?_; clear hK K; refine dw_seq ?_; refine dwkD [(27, .v (.bool true)), (34, .v (.int .i64 ((-n)))), (35, .v (.bool true)), (39, .v (.bool (decide (n = 0)))), (43, .v (.bool true)), (50, .v (.bool true)), (75, .v (.bool true))] TRK_ok hnt fun K hK => ?_
  refine dcl (hk) ?_; refine dcl (n3) ?_; refine And.intro (beqT rfl) ?_; refine dcl (n2) ?_; refine And.intro auI ?_; refine And.intro (beqT rfl) ?_; refine And.intro (VLe.of_eq (by by_cases h : n = 0 <;> simp [h])) ?_; refine dcl (s1) ?_; refine And.intro (VLe.of_eq (by simp)) ?_; refine dcl (w1) ?_; refine dcl (w2) ?_; refine And.intro (beqT rfl) ?_; refine dcl (p1) ?_; refine dcl (o1) ?_; refine dcl (p2) ?_
  refine dcl (s2) ?_; refine dcl (p1) ?_; refine dcl (p3) ?_; refine dcl (e1) ?_; refine dcl (t1) ?_; refine dcl (t2) ?_; refine And.intro (VLe.of_eq (by simp)) ?_; refine hK _ _ (by kernel_rfl) ?_; clear hK K; refine dw_ret ?_
  exact reta rfl
end Go.Proofs.YtdmiekaeodcehaaGreat

