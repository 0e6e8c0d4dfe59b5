/-
  term.Equal, and slices.EqualFunc with it.
-/
import Derived.Test.YtejpgifofkiofaaEqualK
import Derived.Test.YtejpgifofkiofaaSame6
namespace Go.Proofs.Ytejpgifofkiofaa
open Go.RowKit

/-- term.Equal tells whether it is this term -/
def EqT (t : Tm) : Prop := ∀ (F : Nat → Prop) (w0 : World) (b k i a : Value), IsTm F w0 b k i a t → ∀ (F' : Nat → Prop) (w0' : World) (b' k' i' a' : Value) (u : Tm), IsTm F' w0' b' k' i' a' u → ∀ w : World, Keep F w0 w → Keep F' w0' w →
    Calls Try.prog 51 #[.agg #[b, k, i, a], .agg #[b', k', i', a']] w (RetB (t = u) w)

set_option maxRecDepth 100000 in
set_option maxHeartbeats 1600000 in
theorem equalFunc6_k {F F' : Nat → Prop} {w0 w0' : World} {v v' : Value} {l l' : List Tm} (h : IsSl rpTm F w0 v l) (h' : IsSl rpTm F' w0' v' l') (heq : ∀ t ∈ l, EqT t) (w : World) (hw : Keep F w0 w) (hw' : Keep F' w0' w) :
    Calls Try.prog 103 #[v, v', .func (.func 51) #[] #[]] w (RetB (l = l') w) := by
  obtain ⟨a, c, rfl⟩ := sl_shape' h
  obtain ⟨a', c', rfl⟩ := sl_shape' h'
  obtain ⟨_, hm, bl, off, PA, A, PN, PC, N, C, Kd, Ix, ha, h1, h2, h3, h4, h5⟩ := sl_cells6 h
  obtain ⟨_, hm', bl', off', PA', A', PN', PC', N', C', Kd', Ix', ha', h1', h2', h3', h4', h5'⟩ := sl_cells6 h'
  clear h h'
  unfold maxLen at hm hm'
  have H3 : Hid (∀ i (h : i < l.length) (h' : i < l'.length) (w : World), Keep F w0 w → Keep F' w0' w → Calls Try.prog 51 #[.agg #[.slice (PA i) (PN i) (PC i), .int .i64 (Kd i), .int .i64 (Ix i), .slice (A i) (N i) (C i)], .agg #[.slice (PA' i) (PN' i) (PC' i), .int .i64 (Kd' i), .int .i64 (Ix' i), .slice (A' i) (N' i) (C' i)]] w (RetB (l[i] = l'[i]) w)) :=
    fun i h h' w hw hw' => heq _ (List.getElem_mem h) _ _ _ _ _ _ (h5 i h) _ _ _ _ _ _ _ (h5' i h') w hw hw'
  clear h5 h5' heq
  by_cases hll : l.length = l'.length
  rotate_left
  · have hg : ((l.length : Int) == (l'.length : Int)) = false := by simpa using by omega
    have hg' : ((l.length : Int) != (l'.length : Int)) = true := by simpa using by omega
    go_enter Try.func103, Try.ntmps103
    go_wp2_with fail
    go_ret
    refine ⟨false, ?_, rfl, Below.refl _ _⟩
    simp; intro h; rw [h] at hll; exact hll rfl
  have Hll := Lib.hid hll
  have hg : ((l.length : Int) == (l'.length : Int)) = true := by simpa using by omega
  have hg' : ((l.length : Int) != (l'.length : Int)) = false := by simpa using by omega
  clear hll
  go_enter Try.func103, Try.ntmps103
  go_wp2_with fail
  go_loopw [17] (fun i wr => ∃ k : Nat, i = .int .i64 k ∧ k ≤ l.length ∧ Hid (l.take k = l'.take k) ∧ Below w.heap.size w wr) (fun i _ => l.length - (intOf i).toNat)
  case atStart => exact ⟨0, rfl, by omega, rfl, Below.refl _ _⟩
  case round =>
    obtain ⟨k, rfl, hk, hall, hb⟩ := hrel
    have hsz := hb.size
    by_cases hlt : k < l.length
    · have hlt' : k < l'.length := by rw [← Hll.out]; exact hlt
      obtain ⟨rfl, hF⟩ := ha (by omega)
      obtain ⟨rfl, hF'⟩ := ha' (by omega)
      have e1 := (hw.below hb) _ _ _ hF (h1 k hlt)
      have e2 := (hw.below hb) _ _ _ hF (h2 k hlt)
      have e3 := (hw.below hb) _ _ _ hF (h3 k hlt)
      have e4 := (hw.below hb) _ _ _ hF (h4 k hlt)
      have e1' := (hw'.below hb) _ _ _ hF' (h1' k hlt')
      have e2' := (hw'.below hb) _ _ _ hF' (h2' k hlt')
      have e3' := (hw'.below hb) _ _ _ hF' (h3' k hlt')
      have e4' := (hw'.below hb) _ _ _ hF' (h4' k hlt')
      have i0 : (0 : Int) ≤ (k : Int) := Int.natCast_nonneg _
      have i1 : (k : Int) < (l.length : Int) := by omega
      have i2 : (k : Int) < (l'.length : Int) := by omega
      have q1 : bl < wr.heap.size := Keep.lt e1
      have q1' : bl' < wr.heap.size := Keep.lt e1'
      go_wp2_with fail
      have hB2 := (hb.alloc hb.size (.cells #[.slice (PA k) (PN k) (PC k), .int .i64 (Kd k), .int .i64 (Ix k), .slice (A k) (N k) (C k)] 37)).alloc (by simp; omega) (.cells #[.slice (PA' k) (PN' k) (PC' k), .int .i64 (Kd' k), .int .i64 (Ix' k), .slice (A' k) (N' k) (C' k)] 37)
      refine (H3.out k hlt hlt' _ (hw.below hB2) (hw'.below hB2)).mono ?_
      rintro e w1 ⟨r, hr, rfl, hb1⟩
      have hB := hB2.trans (hb1.mono (by simp; omega))
      cases r
      · have Hr := Lib.hid (no_of hr); clear hr
        go_wp2_with fail
        go_ret
        refine ⟨false, ?_, rfl, hB⟩
        simp
        intro h
        subst h
        exact Hr.out rfl
      · have Hr := Lib.hid (yes_of hr); clear hr
        go_wp2_with fail
        go_roundw
        case rel => exact ⟨k + 1, by go_num, by omega, take_eq_succ hlt hlt' hall.out Hr.out, hB⟩
        case measure => simp [intOf]; omega
    · go_wp2_with fail
      go_ret
      refine ⟨true, ?_, rfl, hb⟩
      have h := hall.out
      rw [List.take_of_length_le (by omega), List.take_of_length_le (by rw [← Hll.out]; omega)] at h
      simp [h]

set_option maxRecDepth 100000 in
set_option maxHeartbeats 1600000 in
theorem equal6_k : ∀ t : Tm, EqT t := Tm.ind fun binds k i1 args ih => by
  intro F w0 b k0 i0 a ht F' w0' b' k0' i0' a' u hu w hw hw'
  obtain ⟨binds', k', i', args'⟩ := u
  obtain ⟨rfl, rfl, hb, hs⟩ := ht.inv
  obtain ⟨rfl, rfl, hb', hs'⟩ := hu.inv
  have Hty := Lib.hid fun (w : World) (hw : Keep F w0 w) (hw' : Keep F' w0' w) => equalFunc_k hb hb' (fun t _ => equal_k t) w hw hw'
  have Hts := Lib.hid fun (w : World) (hw : Keep F w0 w) (hw' : Keep F' w0' w) => equalFunc6_k hs hs' ih w hw hw'
  obtain ⟨pa, pc, rfl⟩ := hb.shape
  obtain ⟨pa', pc', rfl⟩ := hb'.shape
  obtain ⟨a, c, rfl⟩ := hs.shape
  obtain ⟨a', c', rfl⟩ := hs'.shape
  clear hb hb' hs hs' ht hu ih
  simp only [Tm.binds, Tm.kind, Tm.index, Tm.args] at *
  obtain ⟨pr, hpr⟩ : ∃ pr : Prop, (Tm.mk binds k i1 args = Tm.mk binds' k' i' args') = pr := ⟨_, rfl⟩
  have Ht : Hid (pr ↔ binds = binds' ∧ k = k' ∧ i1 = i' ∧ args = args') := by rw [← hpr]; exact tm_eq
  rw [hpr]
  clear hpr
  obtain ⟨l, hl⟩ : ∃ l, args.length = l := ⟨_, rfl⟩
  obtain ⟨l', hl'⟩ : ∃ l, args'.length = l := ⟨_, rfl⟩
  obtain ⟨m, hm⟩ : ∃ l, binds.length = l := ⟨_, rfl⟩
  obtain ⟨m', hm'⟩ : ∃ l, binds'.length = l := ⟨_, rfl⟩
  rw [hm, hm'] at Hty
  rw [hl, hl'] at Hts
  rw [hl, hl', hm, hm']
  clear hl hl' hm hm'
  by_cases hk : k = k'
  rotate_left
  · have hg : (k == k') = false := by simpa using hk
    go_enter Try.func51, Try.ntmps51
    go_wp2_with fail
    go_ret
    exact ⟨false, by rw [Ht.out]; simp [hk], rfl, ((Below.refl _ _).alloc (Nat.le_refl _) _).alloc (by simp) _⟩
  subst hk
  by_cases hi : i1 = i'
  rotate_left
  · have hg : (i1 == i') = false := by simpa using hi
    go_enter Try.func51, Try.ntmps51
    go_wp2_with fail
    go_ret
    exact ⟨false, by rw [Ht.out]; simp [hi], rfl, ((Below.refl _ _).alloc (Nat.le_refl _) _).alloc (by simp) _⟩
  subst hi
  go_enter Try.func51, Try.ntmps51
  go_wp2_with fail
  have B2 := ((Below.refl w.heap.size w).alloc (Nat.le_refl _) (.cells #[.slice pa m pc, .int .i64 k, .int .i64 i1, .slice a l c] 37)).alloc (by simp) (.cells #[.slice pa' m' pc', .int .i64 k, .int .i64 i1, .slice a' l' c'] 37)
  have X0 := (Blk.new w #[.slice pa m pc, .int .i64 k, .int .i64 i1, .slice a l c] 37 rfl).alloc (.cells #[.slice pa' m' pc', .int .i64 k, .int .i64 i1, .slice a' l' c'] 37)
  have X1 := Blk.new (w.alloc (.cells #[.slice pa m pc, .int .i64 k, .int .i64 i1, .slice a l c] 37)) #[.slice pa' m' pc', .int .i64 k, .int .i64 i1, .slice a' l' c'] 37 (n := w.heap.size + 1) (by simp)
  refine (Hty.out _ (hw.below B2) (hw'.below B2)).mono ?_
  rintro e w3 ⟨r, hr, rfl, hb3⟩
  have B3 := B2.trans (hb3.mono (by simp; omega))
  have x0 := X0.below hb3
  have x1 := X1.below hb3
  have c0 : w3.cell? ⟨w.heap.size, 3, none⟩ = some (.slice a l c) := x0.cell rfl
  have c1 : w3.cell? ⟨w.heap.size + 1, 3, none⟩ = some (.slice a' l' c') := x1.cell rfl
  cases r
  · have Hr := Lib.hid (no_of hr); clear hr
    go_wp2_with fail
    go_ret
    exact ⟨false, by rw [Ht.out]; simp; intro h; exact absurd h Hr.out, rfl, B3⟩
  · have Hr := Lib.hid (yes_of hr); clear hr
    go_wp2_with fail
    refine (Hts.out _ (hw.below B3) (hw'.below B3)).mono ?_
    rintro e w4 ⟨r, hr, rfl, hb4⟩
    have Hr2 := Lib.hid hr; clear hr
    go_wp2_with fail
    go_ret
    exact ⟨r, by rw [Ht.out]; simp [Hr.out]; exact Hr2.out, rfl, B3.trans (hb4.mono B3.size)⟩
end Go.Proofs.Ytejpgifofkiofaa
