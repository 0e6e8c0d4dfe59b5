/-
  kind.Equal, and slices.EqualFunc with it.
-/
import Derived.Test.YtejpgifofkiofaaRefSame
namespace Go.Proofs.Ytejpgifofkiofaa
open Go.RowKit

theorem args_mk' (l : List Ty) (b : Int) : (Ty.mk l b).args = l := rfl
theorem base_mk' (l : List Ty) (b : Int) : (Ty.mk l b).base = b := rfl

/-- kind.Equal tells whether it is this type -/
def EqK (t : Ty) : Prop := ∀ (F : Nat → Prop) (w0 : World) (s b : Value), IsTy F w0 s b t → ∀ (F' : Nat → Prop) (w0' : World) (s' b' : Value) (u : Ty), IsTy F' w0' s' b' u → ∀ w : World, Keep F w0 w → Keep F' w0' w →
    Calls Try.prog 54 #[.agg #[s, b], .agg #[s', b']] w (RetB (t = u) w)

theorem sl_cells' {F : Nat → Prop} {w : World} {a : Option Addr} {n c : Nat} {l : List Ty} (h : IsSl rpTy F w (.slice a n c) l) : n = l.length ∧ (l.length ≤ maxLen ∧ l.length ≤ c) ∧ ∃ (bl off : Nat) (A : Nat → Option Addr) (N C : Nat → Nat) (B : Nat → Int),
    (0 < l.length → a = some ⟨bl, off, none⟩ ∧ F bl) ∧ (∀ i, i < l.length → w.cell? ⟨bl, off + i * 2, none⟩ = some (.slice (A i) (N i) (C i))) ∧ (∀ i, i < l.length → w.cell? ⟨bl, off + i * 2 + 1, none⟩ = some (.int .i64 (B i))) ∧
    ∀ i (h : i < l.length), IsTy F w (.slice (A i) (N i) (C i)) (.int .i64 (B i)) l[i] := by
  have ht := isTy_mk h 0
  cases ht with
  | mk a n c b args bl off A N C B hn hm ha h1 h2 h3 =>
  subst hn
  exact ⟨rfl, hm, bl, off, A, N, C, B, ha, h1, h2, h3⟩
theorem sl_shape' {α : Type} {r : Rp α} {F : Nat → Prop} {w : World} {v : Value} {l : List α} (h : IsSl r F w v l) : ∃ a c, v = .slice a l.length c := by
  obtain ⟨a, c, _, _, _, hv, _⟩ := h
  exact ⟨a, c, hv⟩

set_option maxRecDepth 100000 in
set_option maxHeartbeats 1600000 in
theorem equalFunc_k {F F' : Nat → Prop} {w0 w0' : World} {v v' : Value} {l l' : List Ty} (h : IsSl rpTy F w0 v l) (h' : IsSl rpTy F' w0' v' l') (heq : ∀ t ∈ l, EqK t) (w : World) (hw : Keep F w0 w) (hw' : Keep F' w0' w) :
    Calls Try.prog 88 #[v, v', .func (.func 54) #[] #[]] w (RetB (l = l') w) := by
  obtain ⟨a, c, rfl⟩ := sl_shape' h
  obtain ⟨a', c', rfl⟩ := sl_shape' h'
  obtain ⟨_, hm, bl, off, A, N, C, B, ha, h1, h2, h3⟩ := sl_cells' h
  obtain ⟨_, hm', bl', off', A', N', C', B', ha', h1', h2', h3'⟩ := sl_cells' h'
  clear h h'
  unfold maxLen at hm hm'
  have H3 : Hid (∀ i (h : i < l.length) (h' : i < l'.length) (w : World), Keep F w0 w → Keep F' w0' w → Calls Try.prog 54 #[.agg #[.slice (A i) (N i) (C i), .int .i64 (B i)], .agg #[.slice (A' i) (N' i) (C' i), .int .i64 (B' i)]] w (RetB (l[i] = l'[i]) w)) :=
    fun i h h' w hw hw' => heq _ (List.getElem_mem h) _ _ _ _ (h3 i h) _ _ _ _ _ (h3' i h') w hw hw'
  clear h3 h3' heq
  by_cases hll : l.length = l'.length
  rotate_left
  · have hg : ((l.length : Int) == (l'.length : Int)) = false := by simpa using by omega
    have hg' : ((l.length : Int) != (l'.length : Int)) = true := by simpa using by omega
    go_enter Try.func88, Try.ntmps88
    go_wp2_with fail
    go_ret
    refine ⟨false, ?_, rfl, Below.refl _ _⟩
    simp; intro h; rw [h] at hll; exact hll rfl
  have Hll := Lib.hid hll
  have hg : ((l.length : Int) == (l'.length : Int)) = true := by simpa using by omega
  have hg' : ((l.length : Int) != (l'.length : Int)) = false := by simpa using by omega
  clear hll
  go_enter Try.func88, Try.ntmps88
  go_wp2_with fail
  go_loopw [17] (fun i wr => ∃ k : Nat, i = .int .i64 k ∧ k ≤ l.length ∧ Hid (l.take k = l'.take k) ∧ Below w.heap.size w wr) (fun i _ => l.length - (intOf i).toNat)
  case atStart => exact ⟨0, rfl, by omega, rfl, Below.refl _ _⟩
  case round =>
    obtain ⟨k, rfl, hk, hall, hb⟩ := hrel
    have hsz := hb.size
    by_cases hlt : k < l.length
    · have hlt' : k < l'.length := by rw [← Hll.out]; exact hlt
      obtain ⟨rfl, hF⟩ := ha (by omega)
      obtain ⟨rfl, hF'⟩ := ha' (by omega)
      have e1 : wr.cell? ⟨bl, off + k * 2, none⟩ = some (.slice (A k) (N k) (C k)) := (hw.below hb) _ _ _ hF (h1 k hlt)
      have e2 : wr.cell? ⟨bl, off + k * 2 + 1, none⟩ = some (.int .i64 (B k)) := (hw.below hb) _ _ _ hF (h2 k hlt)
      have e1' : wr.cell? ⟨bl', off' + k * 2, none⟩ = some (.slice (A' k) (N' k) (C' k)) := (hw'.below hb) _ _ _ hF' (h1' k hlt')
      have e2' : wr.cell? ⟨bl', off' + k * 2 + 1, none⟩ = some (.int .i64 (B' k)) := (hw'.below hb) _ _ _ hF' (h2' k hlt')
      have i0 : (0 : Int) ≤ (k : Int) := Int.natCast_nonneg _
      have i1 : (k : Int) < (l.length : Int) := by omega
      have i2 : (k : Int) < (l'.length : Int) := by omega
      have q1 : bl < wr.heap.size := Keep.lt e1
      have q1' : bl' < wr.heap.size := Keep.lt e1'
      go_wp2_with fail
      have hB2 := (hb.alloc hb.size (.cells #[.slice (A k) (N k) (C k), .int .i64 (B k)] 40)).alloc (by simp; omega) (.cells #[.slice (A' k) (N' k) (C' k), .int .i64 (B' k)] 40)
      refine (H3.out k hlt hlt' _ (hw.below hB2) (hw'.below hB2)).mono ?_
      rintro e w1 ⟨r, hr, rfl, hb1⟩
      have hB := hB2.trans (hb1.mono (by simp; omega))
      cases r
      · have Hr := Lib.hid (no_of hr); clear hr
        go_wp2_with fail
        go_ret
        refine ⟨false, ?_, rfl, hB⟩
        simp
        intro h
        subst h
        exact Hr.out rfl
      · have Hr := Lib.hid (yes_of hr); clear hr
        go_wp2_with fail
        go_roundw
        case rel => exact ⟨k + 1, by go_num, by omega, take_eq_succ hlt hlt' hall.out Hr.out, hB⟩
        case measure => simp [intOf]; omega
    · go_wp2_with fail
      go_ret
      refine ⟨true, ?_, rfl, hb⟩
      have h := hall.out
      rw [List.take_of_length_le (by omega), List.take_of_length_le (by rw [← Hll.out]; omega)] at h
      simp [h]

set_option maxRecDepth 100000 in
set_option maxHeartbeats 1600000 in
theorem equal_k : ∀ t : Ty, EqK t := Ty.ind fun args base ih => by
  intro F w0 s b ht F' w0' s' b' u hu w hw hw'
  obtain ⟨rfl, hs⟩ := ht.inv
  obtain ⟨rfl, hs'⟩ := hu.inv
  obtain ⟨a, c, rfl⟩ := sl_shape' hs
  obtain ⟨a', c', rfl⟩ := sl_shape' hs'
  have Heq := Lib.hid fun (w : World) (hw : Keep F w0 w) (hw' : Keep F' w0' w) => equalFunc_k hs hs' ih w hw hw'
  clear hs hs' ht hu ih
  have Hu : Hid (Ty.mk args base = u ↔ base = u.base ∧ args = u.args) := by
    show _ ↔ _
    cases u; simp [Ty.args, Ty.base]; constructor <;> intro h <;> exact ⟨h.2, h.1⟩
  obtain ⟨l', hl'⟩ : ∃ l', u.args = l' := ⟨_, rfl⟩
  obtain ⟨b', hb'⟩ : ∃ b', u.base = b' := ⟨_, rfl⟩
  rw [hl', hb'] at Hu
  rw [hl'] at Heq
  rw [hl', hb']
  clear hl' hb'
  have hgg : (Ty.mk args base).base = base := rfl
  have hgl : (Ty.mk args base).args = args := rfl
  rw [hgl] at Heq
  rw [hgg, hgl]
  clear hgg hgl
  by_cases hbb : base = b'
  rotate_left
  · have hg : (base == b') = false := by simpa using hbb
    go_enter Try.func54, Try.ntmps54
    go_wp2_with fail
    go_ret
    refine ⟨false, by rw [Hu.out]; simp [hbb], rfl, ((Below.refl _ _).alloc (Nat.le_refl _) _).alloc (by simp) _⟩
  · subst hbb
    have hg : (base == base) = true := by simp
    go_enter Try.func54, Try.ntmps54
    go_wp2_with fail
    have hB2 := ((Below.refl w.heap.size w).alloc (Nat.le_refl _) (.cells #[.slice a args.length c, .int .i64 base] 40)).alloc (by simp) (.cells #[.slice a' l'.length c', .int .i64 base] 40)
    refine (Heq.out _ (hw.below hB2) (hw'.below hB2)).mono ?_
    rintro e w1 ⟨r, hr, rfl, hb1⟩
    go_wp2_with fail
    go_ret
    refine ⟨r, by rw [Hu.out, hr]; simp, rfl, hB2.trans (hb1.mono (by simp; omega))⟩
end Go.Proofs.Ytejpgifofkiofaa
