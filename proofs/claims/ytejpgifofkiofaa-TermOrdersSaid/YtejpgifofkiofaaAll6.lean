/-
  term.all: which of two lists is less.
-/
import Derived.Test.YtejpgifofkiofaaCmpT6
import Derived.Test.YtejpgifofkiofaaCmpK
import Derived.Test.YtejpgifofkiofaaEqualK6
namespace Go.Proofs.Ytejpgifofkiofaa
open Go.RowKit

/-- term.Compare tells which is less -/
def CmpTm (t : Tm) : Prop := ∀ (F : Nat → Prop) (w0 : World) (b k i a : Value), IsTm F w0 b k i a t → ∀ (F' : Nat → Prop) (w0' : World) (b' k' i' a' : Value) (u : Tm), IsTm F' w0' b' k' i' a' u → ∀ w : World, Keep F w0 w → Keep F' w0' w → t.full ≤ 400000 → u.full ≤ 400000 →
    Calls Try.prog 50 #[.agg #[b, k, i, a], .agg #[b', k', i', a']] w (RetI (Tm.cmp t u) w)

set_option maxRecDepth 100000 in
set_option maxHeartbeats 1600000 in
theorem allB_k {F F' : Nat → Prop} {w0 w0' : World} {v v' : Value} {l l' : List Ty} (h : IsSl rpTy F w0 v l) (h' : IsSl rpTy F' w0' v' l') (hz : ∀ t ∈ l, t.size ≤ 500000) (hz' : ∀ t ∈ l', t.size ≤ 500000) (w : World) (hw : Keep F w0 w) (hw' : Keep F' w0' w) :
    Calls Try.prog 101 #[v, v', .func (.func 53) #[] #[]] w (RetI (Tm.cmpB l l') w) := by
  obtain ⟨a, c, rfl⟩ := sl_shape' h
  obtain ⟨a', c', rfl⟩ := sl_shape' h'
  obtain ⟨_, hm, bl, off, A, N, C, B, ha, h1, h2, h5⟩ := sl_cells' h
  obtain ⟨_, hm', bl', off', A', N', C', B', ha', h1', h2', h5'⟩ := sl_cells' h'
  clear h h'
  unfold maxLen at hm hm'
  have H3 : Hid (∀ i (h : i < l.length) (h' : i < l'.length) (w : World), Keep F w0 w → Keep F' w0' w → Calls Try.prog 53 #[.agg #[.slice (A i) (N i) (C i), .int .i64 (B i)], .agg #[.slice (A' i) (N' i) (C' i), .int .i64 (B' i)]] w (RetI (Ty.cmp l[i] l'[i]) w)) :=
    fun i h h' w hw hw' => compare_k _ _ _ _ _ (h5 i h) _ _ _ _ _ (h5' i h') w hw hw' (hz _ (List.getElem_mem h)) (hz' _ (List.getElem_mem h'))
  clear h5 h5' hz hz'
  obtain ⟨r, hr⟩ : ∃ r, Tm.cmpB l l' = r := ⟨_, rfl⟩
  have Hr : Hid (r = orl (sgn l.length l'.length) (Ty.cmps l l')) := hr.symm
  rw [hr]
  clear hr
  go_enter Try.func101, Try.ntmps101
  go_wp2_with fail
  refine (compare_i _ _ _).mono ?_
  rintro e w3 ⟨rfl, hb3⟩
  have Hm : Hid (sgn l.length l'.length = 0 → l.length = l'.length) := fun h => by have := sgn_zero.1 h; omega
  generalize sgn l.length l'.length = m at *
  go_wp2_with fail
  go_loopw [7, 8] (fun x i wr => ∃ (k : Nat) (m : Int), i = .int .i64 k ∧ x = .int .i64 m ∧ k ≤ l.length ∧ Hid (m = 0 → l.length = l'.length) ∧ Hid (r = orl m (Ty.cmps (l.drop k) (l'.drop k))) ∧ Below w.heap.size w wr) (fun _ i _ => l.length - (intOf i).toNat)
  case atStart => exact ⟨0, m, rfl, rfl, by omega, Hm, Hr, hb3⟩
  case round =>
    clear Hm Hr hb3
    obtain ⟨k, m, rfl, hxm, hk, hm0, hr, hb⟩ := hrel
    have hxm := hxm.symm
    subst hxm
    by_cases hlt : k < l.length
    · have i1 : (k : Int) < (l.length : Int) := by omega
      by_cases hm0' : m = 0
      · have Hll := Lib.hid (hm0.out hm0')
        subst hm0'
        have hlt' : k < l'.length := by rw [← Hll.out]; exact hlt
        obtain ⟨rfl, hF⟩ := ha (by omega)
        obtain ⟨rfl, hF'⟩ := ha' (by omega)
        have e1 : wr.cell? ⟨bl, off + k * 2, none⟩ = some (.slice (A k) (N k) (C k)) := (hw.below hb) _ _ _ hF (h1 k hlt)
        have e2 : wr.cell? ⟨bl, off + k * 2 + 1, none⟩ = some (.int .i64 (B k)) := (hw.below hb) _ _ _ hF (h2 k hlt)
        have e1' : wr.cell? ⟨bl', off' + k * 2, none⟩ = some (.slice (A' k) (N' k) (C' k)) := (hw'.below hb) _ _ _ hF' (h1' k hlt')
        have e2' : wr.cell? ⟨bl', off' + k * 2 + 1, none⟩ = some (.int .i64 (B' k)) := (hw'.below hb) _ _ _ hF' (h2' k hlt')
        have i0 : (0 : Int) ≤ (k : Int) := Int.natCast_nonneg _
        have i2 : (k : Int) < (l'.length : Int) := by omega
        have Hd := Lib.hid (Ty.cmps_drop hlt hlt')
        go_wp2_with fail
        refine wp_region_noPanic (wp_region_need (S := fun w' => w'.cell? ⟨bl, off + k * 2, none⟩ = some (.slice (A k) (N k) (C k)) ∧ w'.cell? ⟨bl, off + k * 2 + 1, none⟩ = some (.int .i64 (B k)) ∧ w'.cell? ⟨bl', off' + k * 2, none⟩ = some (.slice (A' k) (N' k) (C' k)) ∧ w'.cell? ⟨bl', off' + k * 2 + 1, none⟩ = some (.int .i64 (B' k))) (by kernel_rfl) ?_)
        have hS : (wr.drew).cell? ⟨bl, off + k * 2, none⟩ = some (.slice (A k) (N k) (C k)) ∧ (wr.drew).cell? ⟨bl, off + k * 2 + 1, none⟩ = some (.int .i64 (B k)) ∧ (wr.drew).cell? ⟨bl', off' + k * 2, none⟩ = some (.slice (A' k) (N' k) (C' k)) ∧ (wr.drew).cell? ⟨bl', off' + k * 2 + 1, none⟩ = some (.int .i64 (B' k)) := ⟨e1, e2, e1', e2'⟩
        refine wpN_take (i := 0) (v := ?v1) rfl (by kernel_rfl) (fun _ _ _ h => h) hS (Or.inl ⟨by rfl, ?hy1⟩) ?hr1
        case hy1 => (intro wS hSw; (try dsimp only at hSw); go_simp; (try with_reducible rfl))
        try simp only [Act.put, List.setIfInBounds_toArray, List.set_cons_zero, List.set_cons_succ, List.getElem_toArray, List.getElem_cons_zero, List.getElem_cons_succ]
        refine wpN_take (i := 1) (v := ?v2) rfl (by kernel_rfl) (fun _ _ _ h => h) hS (Or.inl ⟨by rfl, ?hy2⟩) ?hr2
        case hy2 => (intro wS hSw; (try dsimp only at hSw); go_simp; (try with_reducible rfl))
        try simp only [Act.put, List.setIfInBounds_toArray, List.set_cons_zero, List.set_cons_succ, List.getElem_toArray, List.getElem_cons_zero, List.getElem_cons_succ]
        refine wpN_take (i := 2) (v := ?v3) rfl (by kernel_rfl) (fun _ _ _ h => h) hS (Or.inl ⟨by rfl, ?hy3⟩) ?hr3
        case hy3 => (intro wS hSw; (try dsimp only at hSw); go_simp; (try with_reducible rfl))
        try simp only [Act.put, List.setIfInBounds_toArray, List.set_cons_zero, List.set_cons_succ, List.getElem_toArray, List.getElem_cons_zero, List.getElem_cons_succ]
        refine wpN_take (i := 3) (v := ?v4) rfl (by kernel_rfl) (fun _ _ _ h => h) hS (Or.inl ⟨by rfl, ?hy4⟩) ?hr4
        case hy4 => (intro wS hSw; (try dsimp only at hSw); go_simp; (try with_reducible rfl))
        try simp only [Act.put, List.setIfInBounds_toArray, List.set_cons_zero, List.set_cons_succ, List.getElem_toArray, List.getElem_cons_zero, List.getElem_cons_succ]
        refine wpN_take (i := 4) (v := ?v5) rfl (by kernel_rfl) (fun _ _ _ h => h) hS (Or.inl ⟨by rfl, ?hy5⟩) ?hr5
        case hy5 => (intro wS hSw; (try dsimp only at hSw); go_simp; (try with_reducible rfl))
        try simp only [Act.put, List.setIfInBounds_toArray, List.set_cons_zero, List.set_cons_succ, List.getElem_toArray, List.getElem_cons_zero, List.getElem_cons_succ]
        refine wpN_take (i := 5) (v := ?v6) rfl (by kernel_rfl) (fun _ _ _ h => h) hS (Or.inl ⟨by rfl, ?hy6⟩) ?hr6
        case hy6 => (intro wS hSw; (try dsimp only at hSw); go_simp; (try with_reducible rfl))
        try simp only [Act.put, List.setIfInBounds_toArray, List.set_cons_zero, List.set_cons_succ, List.getElem_toArray, List.getElem_cons_zero, List.getElem_cons_succ]
        refine wpN_take (i := 6) (v := ?v7) rfl (by kernel_rfl) (fun _ _ _ h => h) hS (Or.inl ⟨by rfl, ?hy7⟩) ?hr7
        case hy7 => (intro wS hSw; (try dsimp only at hSw); go_simp; (try with_reducible rfl))
        try simp only [Act.put, List.setIfInBounds_toArray, List.set_cons_zero, List.set_cons_succ, List.getElem_toArray, List.getElem_cons_zero, List.getElem_cons_succ]
        refine wpN_take (i := 7) (v := ?v8) rfl (by kernel_rfl) (fun _ _ _ h => h) hS (Or.inl ⟨by rfl, ?hy8⟩) ?hr8
        case hy8 => (intro wS hSw; (try dsimp only at hSw); go_simp; (try with_reducible rfl))
        try simp only [Act.put, List.setIfInBounds_toArray, List.set_cons_zero, List.set_cons_succ, List.getElem_toArray, List.getElem_cons_zero, List.getElem_cons_succ]
        refine wpN_take (i := 8) (v := ?v9) rfl (by kernel_rfl) (fun _ _ _ h => h) hS (Or.inl ⟨by rfl, ?hy9⟩) ?hr9
        case hy9 => (intro wS hSw; (try dsimp only at hSw); go_simp; (try with_reducible rfl))
        try simp only [Act.put, List.setIfInBounds_toArray, List.set_cons_zero, List.set_cons_succ, List.getElem_toArray, List.getElem_cons_zero, List.getElem_cons_succ]
        refine wpN_step (i := 9) (by kernel_rfl) rfl (fun K hK => ?_)
        go_simp
        refine (H3.out k hlt hlt' _ (hw.below hb).drew (hw'.below hb).drew).mono ?_
        rintro e w1 ⟨rfl, hb1⟩
        have hB : Below w.heap.size w w1 := hb.drew.trans (hb1.mono (by have := hb.size; simp; omega))
        have hKp : Keep (fun _ => True) wr w1 := ((Keep.refl _ _).drew).below hb1
        have hS : (w1).cell? ⟨bl, off + k * 2, none⟩ = some (.slice (A k) (N k) (C k)) ∧ (w1).cell? ⟨bl, off + k * 2 + 1, none⟩ = some (.int .i64 (B k)) ∧ (w1).cell? ⟨bl', off' + k * 2, none⟩ = some (.slice (A' k) (N' k) (C' k)) ∧ (w1).cell? ⟨bl', off' + k * 2 + 1, none⟩ = some (.int .i64 (B' k)) := ⟨hKp _ _ _ trivial e1, hKp _ _ _ trivial e2, hKp _ _ _ trivial e1', hKp _ _ _ trivial e2'⟩
        rw [orl_zero, Hd.out] at hr
        clear Hd
        generalize Ty.cmp l[k] l'[k] = x at *
        refine hK.out _ _ (fun _ => hS) ?_
        clear hK K
        try simp only [Act.put, List.setIfInBounds_toArray, List.set_cons_zero, List.set_cons_succ, List.getElem_toArray, List.getElem_cons_zero, List.getElem_cons_succ]
        refine wpN_step (i := 10) (by kernel_rfl) rfl (fun K hK => ?_)
        go_simp
        refine hK.out _ _ (fun h => absurd h (by decide)) ?_
        clear hK K
        try simp only [Act.put, List.setIfInBounds_toArray, List.set_cons_zero, List.set_cons_succ, List.getElem_toArray, List.getElem_cons_zero, List.getElem_cons_succ]
        refine wpN_done (by kernel_rfl) ?_
        refine NoPanic.normal ?_
        go_wp2_with fail
        go_roundw
        case rel => exact ⟨k + 1, x, by go_num, rfl, by omega, fun _ => Hll.out, hr, hB⟩
        case measure => simp [intOf]; omega
      · have g1 : (m == 0) = false := by simpa using hm0'
        have hr2 : Hid (r = m) := by
          have h := hr.out
          rw [orl_ne hm0'] at h
          exact h
        go_wp2_with fail
        go_ret
        exact ⟨by rw [hr2.out]; rfl, hb⟩
    · have hr2 : Hid (r = m) := by
        have h := hr.out
        rw [List.drop_of_length_le (show l.length ≤ k by omega), Ty.cmps_nil, orl_zero_right] at h
        exact h
      have i1 : ¬ (k : Int) < (l.length : Int) := by omega
      go_wp2_with fail
      go_ret
      exact ⟨by rw [hr2.out]; rfl, hb⟩

set_option maxRecDepth 100000 in
set_option maxHeartbeats 1600000 in
theorem allT_k {F F' : Nat → Prop} {w0 w0' : World} {v v' : Value} {l l' : List Tm} (h : IsSl rpTm F w0 v l) (h' : IsSl rpTm F' w0' v' l') (hcmp : ∀ t ∈ l, CmpTm t) (hz : ∀ t ∈ l, t.full ≤ 400000) (hz' : ∀ t ∈ l', t.full ≤ 400000) (w : World) (hw : Keep F w0 w) (hw' : Keep F' w0' w) :
    Calls Try.prog 102 #[v, v', .func (.func 50) #[] #[]] w (RetI (orl (sgn l.length l'.length) (Tm.cmps l l')) w) := by
  obtain ⟨a, c, rfl⟩ := sl_shape' h
  obtain ⟨a', c', rfl⟩ := sl_shape' h'
  obtain ⟨_, hm, bl, off, PA, A, PN, PC, N, C, Kd, Ix, ha, h1, h2, h3, h4, h5⟩ := sl_cells6 h
  obtain ⟨_, hm', bl', off', PA', A', PN', PC', N', C', Kd', Ix', ha', h1', h2', h3', h4', h5'⟩ := sl_cells6 h'
  clear h h'
  unfold maxLen at hm hm'
  have H3 : Hid (∀ i (h : i < l.length) (h' : i < l'.length) (w : World), Keep F w0 w → Keep F' w0' w → Calls Try.prog 50 #[.agg #[.slice (PA i) (PN i) (PC i), .int .i64 (Kd i), .int .i64 (Ix i), .slice (A i) (N i) (C i)], .agg #[.slice (PA' i) (PN' i) (PC' i), .int .i64 (Kd' i), .int .i64 (Ix' i), .slice (A' i) (N' i) (C' i)]] w (RetI (Tm.cmp l[i] l'[i]) w)) :=
    fun i h h' w hw hw' => hcmp _ (List.getElem_mem h) _ _ _ _ _ _ (h5 i h) _ _ _ _ _ _ _ (h5' i h') w hw hw' (hz _ (List.getElem_mem h)) (hz' _ (List.getElem_mem h'))
  clear h5 h5' hz hz' hcmp
  obtain ⟨r, hr⟩ : ∃ r, orl (sgn l.length l'.length) (Tm.cmps l l') = r := ⟨_, rfl⟩
  have Hr : Hid (r = orl (sgn l.length l'.length) (Tm.cmps l l')) := hr.symm
  rw [hr]
  clear hr
  go_enter Try.func102, Try.ntmps102
  go_wp2_with fail
  refine (compare_i _ _ _).mono ?_
  rintro e w3 ⟨rfl, hb3⟩
  have Hm : Hid (sgn l.length l'.length = 0 → l.length = l'.length) := fun h => by have := sgn_zero.1 h; omega
  generalize sgn l.length l'.length = m at *
  go_wp2_with fail
  go_loopw [7, 8] (fun x i wr => ∃ (k : Nat) (m : Int), i = .int .i64 k ∧ x = .int .i64 m ∧ k ≤ l.length ∧ Hid (m = 0 → l.length = l'.length) ∧ Hid (r = orl m (Tm.cmps (l.drop k) (l'.drop k))) ∧ Below w.heap.size w wr) (fun _ i _ => l.length - (intOf i).toNat)
  case atStart => exact ⟨0, m, rfl, rfl, by omega, Hm, Hr, hb3⟩
  case round =>
    clear Hm Hr hb3
    obtain ⟨k, m, rfl, hxm, hk, hm0, hr, hb⟩ := hrel
    have hxm := hxm.symm
    subst hxm
    by_cases hlt : k < l.length
    · have i1 : (k : Int) < (l.length : Int) := by omega
      by_cases hm0' : m = 0
      · have Hll := Lib.hid (hm0.out hm0')
        subst hm0'
        have hlt' : k < l'.length := by rw [← Hll.out]; exact hlt
        obtain ⟨rfl, hF⟩ := ha (by omega)
        obtain ⟨rfl, hF'⟩ := ha' (by omega)
        have e1 : wr.cell? ⟨bl, off + k * 4, none⟩ = some (.slice (PA k) (PN k) (PC k)) := (hw.below hb) _ _ _ hF (h1 k hlt)
        have e2 : wr.cell? ⟨bl, off + k * 4 + 1, none⟩ = some (.int .i64 (Kd k)) := (hw.below hb) _ _ _ hF (h2 k hlt)
        have e3 : wr.cell? ⟨bl, off + k * 4 + 2, none⟩ = some (.int .i64 (Ix k)) := (hw.below hb) _ _ _ hF (h3 k hlt)
        have e4 : wr.cell? ⟨bl, off + k * 4 + 3, none⟩ = some (.slice (A k) (N k) (C k)) := (hw.below hb) _ _ _ hF (h4 k hlt)
        have e1' : wr.cell? ⟨bl', off' + k * 4, none⟩ = some (.slice (PA' k) (PN' k) (PC' k)) := (hw'.below hb) _ _ _ hF' (h1' k hlt')
        have e2' : wr.cell? ⟨bl', off' + k * 4 + 1, none⟩ = some (.int .i64 (Kd' k)) := (hw'.below hb) _ _ _ hF' (h2' k hlt')
        have e3' : wr.cell? ⟨bl', off' + k * 4 + 2, none⟩ = some (.int .i64 (Ix' k)) := (hw'.below hb) _ _ _ hF' (h3' k hlt')
        have e4' : wr.cell? ⟨bl', off' + k * 4 + 3, none⟩ = some (.slice (A' k) (N' k) (C' k)) := (hw'.below hb) _ _ _ hF' (h4' k hlt')
        have i0 : (0 : Int) ≤ (k : Int) := Int.natCast_nonneg _
        have i2 : (k : Int) < (l'.length : Int) := by omega
        have Hd := Lib.hid (Tm.cmps_drop hlt hlt')
        go_wp2_with fail
        refine wp_region_noPanic (wp_region_need (S := fun w' => w'.cell? ⟨bl, off + k * 4, none⟩ = some (.slice (PA k) (PN k) (PC k)) ∧ w'.cell? ⟨bl, off + k * 4 + 1, none⟩ = some (.int .i64 (Kd k)) ∧ w'.cell? ⟨bl, off + k * 4 + 2, none⟩ = some (.int .i64 (Ix k)) ∧ w'.cell? ⟨bl, off + k * 4 + 3, none⟩ = some (.slice (A k) (N k) (C k)) ∧ w'.cell? ⟨bl', off' + k * 4, none⟩ = some (.slice (PA' k) (PN' k) (PC' k)) ∧ w'.cell? ⟨bl', off' + k * 4 + 1, none⟩ = some (.int .i64 (Kd' k)) ∧ w'.cell? ⟨bl', off' + k * 4 + 2, none⟩ = some (.int .i64 (Ix' k)) ∧ w'.cell? ⟨bl', off' + k * 4 + 3, none⟩ = some (.slice (A' k) (N' k) (C' k))) (by kernel_rfl) ?_)
        have hS : (wr.drew).cell? ⟨bl, off + k * 4, none⟩ = some (.slice (PA k) (PN k) (PC k)) ∧ (wr.drew).cell? ⟨bl, off + k * 4 + 1, none⟩ = some (.int .i64 (Kd k)) ∧ (wr.drew).cell? ⟨bl, off + k * 4 + 2, none⟩ = some (.int .i64 (Ix k)) ∧ (wr.drew).cell? ⟨bl, off + k * 4 + 3, none⟩ = some (.slice (A k) (N k) (C k)) ∧ (wr.drew).cell? ⟨bl', off' + k * 4, none⟩ = some (.slice (PA' k) (PN' k) (PC' k)) ∧ (wr.drew).cell? ⟨bl', off' + k * 4 + 1, none⟩ = some (.int .i64 (Kd' k)) ∧ (wr.drew).cell? ⟨bl', off' + k * 4 + 2, none⟩ = some (.int .i64 (Ix' k)) ∧ (wr.drew).cell? ⟨bl', off' + k * 4 + 3, none⟩ = some (.slice (A' k) (N' k) (C' k)) := ⟨e1, e2, e3, e4, e1', e2', e3', e4'⟩
        refine wpN_take (i := 0) (v := ?v10) rfl (by kernel_rfl) (fun _ _ _ h => h) hS (Or.inl ⟨by rfl, ?hy10⟩) ?hr10
        case hy10 => (intro wS hSw; (try dsimp only at hSw); go_simp; (try with_reducible rfl))
        try simp only [Act.put, List.setIfInBounds_toArray, List.set_cons_zero, List.set_cons_succ, List.getElem_toArray, List.getElem_cons_zero, List.getElem_cons_succ]
        refine wpN_take (i := 1) (v := ?v11) rfl (by kernel_rfl) (fun _ _ _ h => h) hS (Or.inl ⟨by rfl, ?hy11⟩) ?hr11
        case hy11 => (intro wS hSw; (try dsimp only at hSw); go_simp; (try with_reducible rfl))
        try simp only [Act.put, List.setIfInBounds_toArray, List.set_cons_zero, List.set_cons_succ, List.getElem_toArray, List.getElem_cons_zero, List.getElem_cons_succ]
        refine wpN_take (i := 2) (v := ?v12) rfl (by kernel_rfl) (fun _ _ _ h => h) hS (Or.inl ⟨by rfl, ?hy12⟩) ?hr12
        case hy12 => (intro wS hSw; (try dsimp only at hSw); go_simp; (try with_reducible rfl))
        try simp only [Act.put, List.setIfInBounds_toArray, List.set_cons_zero, List.set_cons_succ, List.getElem_toArray, List.getElem_cons_zero, List.getElem_cons_succ]
        refine wpN_take (i := 3) (v := ?v13) rfl (by kernel_rfl) (fun _ _ _ h => h) hS (Or.inl ⟨by rfl, ?hy13⟩) ?hr13
        case hy13 => (intro wS hSw; (try dsimp only at hSw); go_simp; (try with_reducible rfl))
        try simp only [Act.put, List.setIfInBounds_toArray, List.set_cons_zero, List.set_cons_succ, List.getElem_toArray, List.getElem_cons_zero, List.getElem_cons_succ]
        refine wpN_take (i := 4) (v := ?v14) rfl (by kernel_rfl) (fun _ _ _ h => h) hS (Or.inl ⟨by rfl, ?hy14⟩) ?hr14
        case hy14 => (intro wS hSw; (try dsimp only at hSw); go_simp; (try with_reducible rfl))
        try simp only [Act.put, List.setIfInBounds_toArray, List.set_cons_zero, List.set_cons_succ, List.getElem_toArray, List.getElem_cons_zero, List.getElem_cons_succ]
        refine wpN_take (i := 5) (v := ?v15) rfl (by kernel_rfl) (fun _ _ _ h => h) hS (Or.inl ⟨by rfl, ?hy15⟩) ?hr15
        case hy15 => (intro wS hSw; (try dsimp only at hSw); go_simp; (try with_reducible rfl))
        try simp only [Act.put, List.setIfInBounds_toArray, List.set_cons_zero, List.set_cons_succ, List.getElem_toArray, List.getElem_cons_zero, List.getElem_cons_succ]
        refine wpN_take (i := 6) (v := ?v16) rfl (by kernel_rfl) (fun _ _ _ h => h) hS (Or.inl ⟨by rfl, ?hy16⟩) ?hr16
        case hy16 => (intro wS hSw; (try dsimp only at hSw); go_simp; (try with_reducible rfl))
        try simp only [Act.put, List.setIfInBounds_toArray, List.set_cons_zero, List.set_cons_succ, List.getElem_toArray, List.getElem_cons_zero, List.getElem_cons_succ]
        refine wpN_take (i := 7) (v := ?v17) rfl (by kernel_rfl) (fun _ _ _ h => h) hS (Or.inl ⟨by rfl, ?hy17⟩) ?hr17
        case hy17 => (intro wS hSw; (try dsimp only at hSw); go_simp; (try with_reducible rfl))
        try simp only [Act.put, List.setIfInBounds_toArray, List.set_cons_zero, List.set_cons_succ, List.getElem_toArray, List.getElem_cons_zero, List.getElem_cons_succ]
        refine wpN_take (i := 8) (v := ?v18) rfl (by kernel_rfl) (fun _ _ _ h => h) hS (Or.inl ⟨by rfl, ?hy18⟩) ?hr18
        case hy18 => (intro wS hSw; (try dsimp only at hSw); go_simp; (try with_reducible rfl))
        try simp only [Act.put, List.setIfInBounds_toArray, List.set_cons_zero, List.set_cons_succ, List.getElem_toArray, List.getElem_cons_zero, List.getElem_cons_succ]
        refine wpN_step (i := 9) (by kernel_rfl) rfl (fun K hK => ?_)
        go_simp
        refine (H3.out k hlt hlt' _ (hw.below hb).drew (hw'.below hb).drew).mono ?_
        rintro e w1 ⟨rfl, hb1⟩
        have hB : Below w.heap.size w w1 := hb.drew.trans (hb1.mono (by have := hb.size; simp; omega))
        have hKp : Keep (fun _ => True) wr w1 := ((Keep.refl _ _).drew).below hb1
        have hS : (w1).cell? ⟨bl, off + k * 4, none⟩ = some (.slice (PA k) (PN k) (PC k)) ∧ (w1).cell? ⟨bl, off + k * 4 + 1, none⟩ = some (.int .i64 (Kd k)) ∧ (w1).cell? ⟨bl, off + k * 4 + 2, none⟩ = some (.int .i64 (Ix k)) ∧ (w1).cell? ⟨bl, off + k * 4 + 3, none⟩ = some (.slice (A k) (N k) (C k)) ∧ (w1).cell? ⟨bl', off' + k * 4, none⟩ = some (.slice (PA' k) (PN' k) (PC' k)) ∧ (w1).cell? ⟨bl', off' + k * 4 + 1, none⟩ = some (.int .i64 (Kd' k)) ∧ (w1).cell? ⟨bl', off' + k * 4 + 2, none⟩ = some (.int .i64 (Ix' k)) ∧ (w1).cell? ⟨bl', off' + k * 4 + 3, none⟩ = some (.slice (A' k) (N' k) (C' k)) := ⟨hKp _ _ _ trivial e1, hKp _ _ _ trivial e2, hKp _ _ _ trivial e3, hKp _ _ _ trivial e4, hKp _ _ _ trivial e1', hKp _ _ _ trivial e2', hKp _ _ _ trivial e3', hKp _ _ _ trivial e4'⟩
        rw [orl_zero, Hd.out] at hr
        clear Hd
        generalize Tm.cmp l[k] l'[k] = x at *
        refine hK.out _ _ (fun _ => hS) ?_
        clear hK K
        try simp only [Act.put, List.setIfInBounds_toArray, List.set_cons_zero, List.set_cons_succ, List.getElem_toArray, List.getElem_cons_zero, List.getElem_cons_succ]
        refine wpN_step (i := 10) (by kernel_rfl) rfl (fun K hK => ?_)
        go_simp
        refine hK.out _ _ (fun h => absurd h (by decide)) ?_
        clear hK K
        try simp only [Act.put, List.setIfInBounds_toArray, List.set_cons_zero, List.set_cons_succ, List.getElem_toArray, List.getElem_cons_zero, List.getElem_cons_succ]
        refine wpN_done (by kernel_rfl) ?_
        refine NoPanic.normal ?_
        go_wp2_with fail
        go_roundw
        case rel => exact ⟨k + 1, x, by go_num, rfl, by omega, fun _ => Hll.out, hr, hB⟩
        case measure => simp [intOf]; omega
      · have g1 : (m == 0) = false := by simpa using hm0'
        have hr2 : Hid (r = m) := by
          have h := hr.out
          rw [orl_ne hm0'] at h
          exact h
        go_wp2_with fail
        go_ret
        exact ⟨by rw [hr2.out]; rfl, hb⟩
    · have hr2 : Hid (r = m) := by
        have h := hr.out
        rw [List.drop_of_length_le (show l.length ≤ k by omega), Tm.cmps_nil, orl_zero_right] at h
        exact h
      have i1 : ¬ (k : Int) < (l.length : Int) := by omega
      go_wp2_with fail
      go_ret
      exact ⟨by rw [hr2.out]; rfl, hb⟩

end Go.Proofs.Ytejpgifofkiofaa
