/-
  kind.Equal, and slices.EqualFunc with it. The reference's count of a term's terms and types.
-/
import Derived.Test.YtejpgifofkiofaaRowParts6p3
import Derived.Test.YtejpgifofkiofaaRowParts6p2
set_option linter.unusedVariables false
set_option linter.unusedSimpArgs false
namespace Go.Proofs.Ytejpgifofkiofaa
open Go.RowKit

theorem args_mk' (l : List Ty) (b : Int) : (Ty.mk l b).args = l := rfl
theorem base_mk' (l : List Ty) (b : Int) : (Ty.mk l b).base = b := rfl

def EqK (t : Ty) : Prop := ∀ (F : Nat → Prop) (w0 : World) (s b : Value), IsTy F w0 s b t → ∀ (F' : Nat → Prop) (w0' : World) (s' b' : Value) (u : Ty), IsTy F' w0' s' b' u → ∀ w : World, Keep F w0 w → Keep F' w0' w →
    Calls Try.prog 54 #[.agg #[s, b], .agg #[s', b']] w (RetB (t = u) w)

theorem sl_cells' {F : Nat → Prop} {w : World} {a : Option Addr} {n c : Nat} {l : List Ty} (h : IsSl rpTy F w (.slice a n c) l) : n = l.length ∧ (l.length ≤ maxLen ∧ l.length ≤ c) ∧ ∃ (bl off : Nat) (A : Nat → Option Addr) (N C : Nat → Nat) (B : Nat → Int),
    (0 < l.length → a = some ⟨bl, off, none⟩ ∧ F bl) ∧ (∀ i, i < l.length → w.cell? ⟨bl, off + i * 2, none⟩ = some (.slice (A i) (N i) (C i))) ∧ (∀ i, i < l.length → w.cell? ⟨bl, off + i * 2 + 1, none⟩ = some (.int .i64 (B i))) ∧
    ∀ i (h : i < l.length), IsTy F w (.slice (A i) (N i) (C i)) (.int .i64 (B i)) l[i] := by
  have ht := isTy_mk h 0
  cases ht with
  | mk a n c b args bl off A N C B hn hm ha h1 h2 h3 =>
  subst hn
  exact ⟨rfl, hm, bl, off, A, N, C, B, ha, h1, h2, h3⟩
theorem sl_shape' {α : Type} {r : Rp α} {F : Nat → Prop} {w : World} {v : Value} {l : List α} (h : IsSl r F w v l) : ∃ a c, v = .slice a l.length c := by
  obtain ⟨a, c, _, _, _, hv, _⟩ := h
  exact ⟨a, c, hv⟩

set_option maxRecDepth 100000 in
set_option maxHeartbeats 1600000 in
theorem equalFunc_k {F F' : Nat → Prop} {w0 w0' : World} {v v' : Value} {l l' : List Ty} (h : IsSl rpTy F w0 v l) (h' : IsSl rpTy F' w0' v' l') (heq : ∀ t ∈ l, EqK t) (w : World) (hw : Keep F w0 w) (hw' : Keep F' w0' w) :
    Calls Try.prog 88 #[v, v', .func (.func 54) #[] #[]] w (RetB (l = l') w) := by
  obtain ⟨a, c, rfl⟩ := sl_shape' h
  obtain ⟨a', c', rfl⟩ := sl_shape' h'
  obtain ⟨_, hm, bl, off, A, N, C, B, ha, h1, h2, h3⟩ := sl_cells' h
  obtain ⟨_, hm', bl', off', A', N', C', B', ha', h1', h2', h3'⟩ := sl_cells' h'
  clear h h'
  unfold maxLen at hm hm'
  have H3 : Hid (∀ i (h : i < l.length) (h' : i < l'.length) (w : World), Keep F w0 w → Keep F' w0' w → Calls Try.prog 54 #[.agg #[.slice (A i) (N i) (C i), .int .i64 (B i)], .agg #[.slice (A' i) (N' i) (C' i), .int .i64 (B' i)]] w (RetB (l[i] = l'[i]) w)) :=
    fun i h h' w hw hw' => heq _ (List.getElem_mem h) _ _ _ _ (h3 i h) _ _ _ _ _ (h3' i h') w hw hw'
  clear h3 h3' heq
  by_cases hll : l.length = l'.length
  rotate_left
  · have hg : ((l.length : Int) == (l'.length : Int)) = false := by simpa using by omega
    have hg' : ((l.length : Int) != (l'.length : Int)) = true := by simpa using by omega
    go_enter Try.func88, Try.ntmps88
    go_wp2_with fail
    go_ret
    refine ⟨false, ?_, rfl, Below.refl _ _⟩
    simp; intro h; rw [h] at hll; exact hll rfl
  have Hll := Lib.hid hll
  have hg : ((l.length : Int) == (l'.length : Int)) = true := by simpa using by omega
  have hg' : ((l.length : Int) != (l'.length : Int)) = false := by simpa using by omega
  clear hll
  go_enter Try.func88, Try.ntmps88
  go_wp2_with fail
  go_loopw [17] (fun i wr => ∃ k : Nat, i = .int .i64 k ∧ k ≤ l.length ∧ Hid (l.take k = l'.take k) ∧ Below w.heap.size w wr) (fun i _ => l.length - (intOf i).toNat)
  case atStart => exact ⟨0, rfl, by omega, rfl, Below.refl _ _⟩
  case round =>
    obtain ⟨k, rfl, hk, hall, hb⟩ := hrel
    have hsz := hb.size
    by_cases hlt : k < l.length
    · have hlt' : k < l'.length := by rw [← Hll.out]; exact hlt
      obtain ⟨rfl, hF⟩ := ha (by omega)
      obtain ⟨rfl, hF'⟩ := ha' (by omega)
      have e1 : wr.cell? ⟨bl, off + k * 2, none⟩ = some (.slice (A k) (N k) (C k)) := (hw.below hb) _ _ _ hF (h1 k hlt)
      have e2 : wr.cell? ⟨bl, off + k * 2 + 1, none⟩ = some (.int .i64 (B k)) := (hw.below hb) _ _ _ hF (h2 k hlt)
      have e1' : wr.cell? ⟨bl', off' + k * 2, none⟩ = some (.slice (A' k) (N' k) (C' k)) := (hw'.below hb) _ _ _ hF' (h1' k hlt')
      have e2' : wr.cell? ⟨bl', off' + k * 2 + 1, none⟩ = some (.int .i64 (B' k)) := (hw'.below hb) _ _ _ hF' (h2' k hlt')
      have i0 : (0 : Int) ≤ (k : Int) := Int.natCast_nonneg _
      have i1 : (k : Int) < (l.length : Int) := by omega
      have i2 : (k : Int) < (l'.length : Int) := by omega
      have q1 : bl < wr.heap.size := Keep.lt e1
      have q1' : bl' < wr.heap.size := Keep.lt e1'
      go_wp2_with fail
      have hB2 := (hb.alloc hb.size (.cells #[.slice (A k) (N k) (C k), .int .i64 (B k)] 40)).alloc (by simp; omega) (.cells #[.slice (A' k) (N' k) (C' k), .int .i64 (B' k)] 40)
      refine (H3.out k hlt hlt' _ (hw.below hB2) (hw'.below hB2)).mono ?_
      rintro e w1 ⟨r, hr, rfl, hb1⟩
      have hB := hB2.trans (hb1.mono (by simp; omega))
      cases r
      · have Hr := Lib.hid (no_of hr); clear hr
        go_wp2_with fail
        go_ret
        refine ⟨false, ?_, rfl, hB⟩
        simp
        intro h
        subst h
        exact Hr.out rfl
      · have Hr := Lib.hid (yes_of hr); clear hr
        go_wp2_with fail
        go_roundw
        case rel => exact ⟨k + 1, by go_num, by omega, take_eq_succ hlt hlt' hall.out Hr.out, hB⟩
        case measure => simp [intOf]; omega
    · go_wp2_with fail
      go_ret
      refine ⟨true, ?_, rfl, hb⟩
      have h := hall.out
      rw [List.take_of_length_le (by omega), List.take_of_length_le (by rw [← Hll.out]; omega)] at h
      simp [h]

set_option maxRecDepth 100000 in
set_option maxHeartbeats 1600000 in
theorem equal_k : ∀ t : Ty, EqK t := Ty.ind fun args base ih => by
  intro F w0 s b ht F' w0' s' b' u hu w hw hw'
  obtain ⟨rfl, hs⟩ := ht.inv
  obtain ⟨rfl, hs'⟩ := hu.inv
  obtain ⟨a, c, rfl⟩ := sl_shape' hs
  obtain ⟨a', c', rfl⟩ := sl_shape' hs'
  have Heq := Lib.hid fun (w : World) (hw : Keep F w0 w) (hw' : Keep F' w0' w) => equalFunc_k hs hs' ih w hw hw'
  clear hs hs' ht hu ih
  have Hu : Hid (Ty.mk args base = u ↔ base = u.base ∧ args = u.args) := by
    show _ ↔ _
    cases u; simp [Ty.args, Ty.base]; constructor <;> intro h <;> exact ⟨h.2, h.1⟩
  obtain ⟨l', hl'⟩ : ∃ l', u.args = l' := ⟨_, rfl⟩
  obtain ⟨b', hb'⟩ : ∃ b', u.base = b' := ⟨_, rfl⟩
  rw [hl', hb'] at Hu
  rw [hl'] at Heq
  rw [hl', hb']
  clear hl' hb'
  have hgg : (Ty.mk args base).base = base := rfl
  have hgl : (Ty.mk args base).args = args := rfl
  rw [hgl] at Heq
  rw [hgg, hgl]
  clear hgg hgl
  by_cases hbb : base = b'
  rotate_left
  · have hg : (base == b') = false := by simpa using hbb
    go_enter Try.func54, Try.ntmps54
    go_wp2_with fail
    go_ret
    refine ⟨false, by rw [Hu.out]; simp [hbb], rfl, ((Below.refl _ _).alloc (Nat.le_refl _) _).alloc (by simp) _⟩
  · subst hbb
    have hg : (base == base) = true := by simp
    go_enter Try.func54, Try.ntmps54
    go_wp2_with fail
    have hB2 := ((Below.refl w.heap.size w).alloc (Nat.le_refl _) (.cells #[.slice a args.length c, .int .i64 base] 40)).alloc (by simp) (.cells #[.slice a' l'.length c', .int .i64 base] 40)
    refine (Heq.out _ (hw.below hB2) (hw'.below hB2)).mono ?_
    rintro e w1 ⟨r, hr, rfl, hb1⟩
    go_wp2_with fail
    go_ret
    refine ⟨r, by rw [Hu.out, hr]; simp, rfl, hB2.trans (hb1.mono (by simp; omega))⟩
end Go.Proofs.Ytejpgifofkiofaa

namespace Go.Proofs.Ytejpgifofkiofaa
open Go.RowKit

def fewOk6 (t : Tm) (most depth : Int) (r : Int) : Prop :=
  1 ≤ r ∧ r ≤ (most + 1) * (max depth 0 + 1) ∧ (r ≤ most → (t.full : Int) ≤ r ∧ (t.depth : Int) ≤ depth)
def FewPost6 (t : Tm) (most depth : Int) (w : World) (e : Ending) (w' : World) : Prop := ∃ r : Int, fewOk6 t most depth r ∧ e = .returned (.int .i64 r) ∧ Below w.heap.size w w'

theorem Tm.arg_lt {l : List Tm} {b : List Ty} {k i : Int} (j : Nat) (h : j < l.length) : l[j].size < (Tm.mk b k i l).size := by
  have := Tm.size_mem (List.getElem_mem h); rw [Tm.size_eq]; omega

theorem of_retB' {p : Prop} {w : World} {e : Ending} {w' : World} (h : RetB p w e w') : ∃ r : Bool, Hid (r = true ↔ p) ∧ e = .returned (.bool r) ∧ Below w.heap.size w w' := h

set_option maxRecDepth 100000 in
set_option maxHeartbeats 1000000 in
theorem few6_any {F : Nat → Prop} {w0 : World} {b k i a : Value} {t : Tm} (ht : IsTm F w0 b k i a t) : ∀ (most depth : Int) (w : World), 1 ≤ most → most ≤ 1000 → depth ≤ 1000 → -1000 ≤ depth →
    Keep F w0 w →
    Calls Try.prog 118 #[.agg #[b, k, i, a], .int .i64 most, .int .i64 depth] w (FewPost6 t most depth w) := by
  induction ht with
  | mk bv k i0 a n c binds args bl off PA A PN PC N C K I hb hn hm ha h1 h2 h3 h4 h5 ih =>
  intro most depth w hm0 hm1 hd1 hd0 hw
  obtain ⟨pa1, pc, rfl⟩ := hb.shape
  unfold maxLen at hm
  by_cases hd : depth ≤ 0
  · skip
    go_enter Try.func118, Try.ntmps118
    go_wp2_with fail
    go_ret
    refine ⟨_, ?_, rfl, (Below.refl _ _).alloc (Nat.le_refl _) _⟩
    refine ⟨by omega, ?_, fun h => by omega⟩
    rw [show max depth 0 = 0 from by omega]; omega
  · have hd' : 1 ≤ depth := by omega
    obtain ⟨_, hbm, bl1, off1, A1, N1, C1, B1, hb1, hb2, hb3, hb4⟩ := sl_cells' hb
    unfold maxLen at hbm
    subst hn
    have Hb4 := Lib.hid hb4; clear hb4 hb
    clear h5
    have Hih := Lib.hid ih; clear ih
    have hmul : Hid ((most + 1) * max (depth - 1) 0 + (most + 1) = (most + 1) * (max depth 0) ∧ (most + 1) ≤ (most + 1) * max depth 0 ∧ (most + 1) * max depth 0 ≤ 1001 * 1000 ∧ (most + 1) * (max depth 0 + 1) = (most + 1) * max depth 0 + (most + 1) ∧ (most + 1) * (max (depth - 1) 0 + 1) = (most + 1) * max (depth - 1) 0 + (most + 1)) := by
      have e : (most + 1) * max (depth - 1) 0 + (most + 1) = (most + 1) * (max depth 0) := by rw [show max depth 0 = max (depth - 1) 0 + 1 from by omega, Int.mul_add]; omega
      refine ⟨e, ?_, Int.mul_le_mul (by omega) (by omega) (by omega) (by omega), by rw [Int.mul_add]; omega, by rw [Int.mul_add]; omega⟩
      have : 0 ≤ (most + 1) * max (depth - 1) 0 := Int.mul_nonneg (by omega) (by omega)
      omega
    go_enter Try.func118, Try.ntmps118
    go_wp2_with fail
    go_loopw [7, 8] (fun x i wr => ∃ (j : Nat) (r : Int), i = .int .i64 j ∧ x = .int .i64 r ∧ j ≤ binds.length ∧ Hid (r = 1 + Ty.sizes (binds.take j)) ∧ 1 ≤ r ∧ r ≤ 2 * most ∧
      Below w.heap.size w wr ∧ Blk wr w.heap.size #[.slice pa1 binds.length pc, .int .i64 k, .int .i64 i0, .slice a args.length c] 29) (fun _ i _ => binds.length - (intOf i).toNat)
    case atStart =>
      exact ⟨0, 1, rfl, rfl, by omega, by show _ = _; simp [Ty.sizes], by omega, by omega, (Below.refl _ _).alloc (Nat.le_refl _) _, Blk.new _ _ _ rfl⟩
    case round =>
      obtain ⟨j, r, rfl, rfl, hj, hrel, hr1, hr2, hb, hbox⟩ := hrel
      have c0 : wr.cell? ⟨w.heap.size, 0, none⟩ = some (.slice pa1 binds.length pc) := hbox.cell rfl
      have c3 : wr.cell? ⟨w.heap.size, 3, none⟩ = some (.slice a args.length c) := hbox.cell rfl
      have hlt0 := hbox.lt
      by_cases hlt : j < binds.length
      · have hj0 : (0 : Int) ≤ (j : Int) := Int.natCast_nonneg _
        have i1 : (j : Int) < (binds.length : Int) := by omega
        by_cases hrm : r ≤ most
        · obtain ⟨hpa, hF⟩ := hb1 (by omega)
          subst hpa
          have e1 : wr.cell? ⟨bl1, off1 + j * 2, none⟩ = some (.slice (A1 j) (N1 j) (C1 j)) := (hw.below hb) _ _ _ hF (hb2 j hlt)
          have e2 : wr.cell? ⟨bl1, off1 + j * 2 + 1, none⟩ = some (.int .i64 (B1 j)) := (hw.below hb) _ _ _ hF (hb3 j hlt)
          have Hsz := Lib.hid (Ty.sizes_take binds j hlt)
          go_wp2_with fail
          refine (Few_any ((Hb4.out j hlt).keep (hw.below hb)) most depth hm0 hm1 hd1 (by omega)).mono ?_
          intro e w1 h
          obtain ⟨q, Hq, rfl, hbq⟩ := of_retB' h
          clear h
          have hbox1 := hbox.below hbq
          have hB1 := hb.trans (hbq.mono hb.size)
          have d0 : w1.cell? ⟨w.heap.size, 0, none⟩ = some (.slice (some ⟨bl1, off1, none⟩) binds.length pc) := hbox1.cell rfl
          cases q
          · go_wp2_with fail
            go_ret
            refine ⟨_, ⟨by omega, ?_, fun h => by omega⟩, rfl, hB1⟩
            have := hmul.out; omega
          · have Hq2 := Lib.hid (yes_of Hq.out)
            have f1 : w1.cell? ⟨bl1, off1 + j * 2, none⟩ = some (.slice (A1 j) (N1 j) (C1 j)) := (hw.below hB1) _ _ _ hF (hb2 j hlt)
            have f2 : w1.cell? ⟨bl1, off1 + j * 2 + 1, none⟩ = some (.int .i64 (B1 j)) := (hw.below hB1) _ _ _ hF (hb3 j hlt)
            clear Hq
            go_wp2_with fail
            refine (size_r (Hb4.out j hlt) w1 (by have := Hq2.out.1; omega) (hw.below hB1)).mono ?_
            rintro e w2 ⟨rfl, hb2'⟩
            have hsz : Hid ((binds[j].size : Int) ≤ most) := Hq2.out.1
            have hsz' : (binds[j].size : Int) ≤ 1000 := by have := hsz.out; omega
            have hsz0 : (0 : Int) ≤ (binds[j].size : Int) := Int.natCast_nonneg _
            go_wp2_with fail
            go_roundw
            case rel =>
              refine ⟨j + 1, _, by go_num, by go_num, by omega, ?_, by omega, by have := hsz.out; omega, hB1.trans (hb2'.mono hB1.size), hbox1.below hb2'⟩
              show _ = _
              have h1 := hrel.out; have h2 := Hsz.out
              omega
            case measure => simp [intOf]; omega
        · have hE : Hid (most < r) := by show _ < _; omega
          go_wp2_with fail
          go_loopw [7, 9] (fun x i wr => ∃ (j : Nat) (r : Int), i = .int .i64 j ∧ x = .int .i64 r ∧ j ≤ args.length ∧ Hid (r ≤ most → (1 + Ty.sizes binds + Tm.fulls (args.take j) : Int) ≤ r ∧ (Tm.depths (args.take j) : Int) + 1 ≤ depth) ∧ 1 ≤ r ∧ Hid (r ≤ (most + 1) * (max depth 0 + 1)) ∧
            Below w.heap.size w wr ∧ Blk wr w.heap.size #[.slice pa1 binds.length pc, .int .i64 k, .int .i64 i0, .slice a args.length c] 29) (fun _ i _ => args.length - (intOf i).toNat)
          case atStart => exact ⟨0, r, rfl, rfl, by omega, fun h => by have := hE.out; omega, hr1, by have := hmul.out; show _ ≤ _; omega, hb, hbox⟩
          case round =>
            clear hb hbox c0 c3 hlt0 hr1 hr2 hj
            obtain ⟨j, r, rfl, rfl, hj, hrel, hr1, hr2, hb, hbox⟩ := hrel
            have c0 : wr.cell? ⟨w.heap.size, 0, none⟩ = some (.slice pa1 binds.length pc) := hbox.cell rfl
            have c3 : wr.cell? ⟨w.heap.size, 3, none⟩ = some (.slice a args.length c) := hbox.cell rfl
            have hlt0 := hbox.lt
            have hrb : r ≤ 2000000 := by have := hmul.out; have := hr2.out; omega
            by_cases hlt : j < args.length
            · have hj0 : (0 : Int) ≤ (j : Int) := Int.natCast_nonneg _
              have i1 : (j : Int) < (args.length : Int) := by omega
              by_cases hrm : r ≤ most
              · obtain ⟨hqa, hF⟩ := ha (by omega)
                subst hqa
                have e1 := (hw.below hb) _ _ _ hF (h1 j hlt)
                have e2 := (hw.below hb) _ _ _ hF (h2 j hlt)
                have e3 := (hw.below hb) _ _ _ hF (h3 j hlt)
                have e4 := (hw.below hb) _ _ _ hF (h4 j hlt)
                have Hf := Lib.hid (Tm.fulls_take args j hlt)
                have Hdd := Lib.hid (Tm.depths_take args j hlt)
                go_wp2_with fail
                refine (Hih.out j hlt most (depth - 1) wr hm0 hm1 (by omega) (by omega) (hw.below hb)).mono ?_
                rintro e w1 ⟨r', hf, rfl, hb1'⟩
                have Hf' := Lib.hid hf; clear hf
                have hr' : 1 ≤ r' ∧ r' ≤ 3000000 := by have := hmul.out; have := Hf'.out.1; have := Hf'.out.2.1; omega
                obtain ⟨hr'1, hr'2⟩ := hr'
                go_wp2_with fail
                go_roundw
                case rel =>
                  refine ⟨j + 1, r + r', by go_num, rfl, by omega, ?_, by omega, ?_, hb.trans (hb1'.mono hb.size), hbox.below hb1'⟩
                  · intro h
                    have g1 := hrel.out (by omega); have g2 := Hf'.out.2.2 (by omega); have g3 := Hf.out; have g4 := Hdd.out
                    rw [g3, g4]
                    omega
                  · have := hmul.out; have := Hf'.out.2.1; show _ ≤ _; omega
                case measure => simp [intOf]; omega
              · have hE : Hid (most < r) := by show _ < _; omega
                go_wp2_with fail
                go_ret
                exact ⟨r, ⟨hr1, hr2.out, fun h => by have := hE.out; omega⟩, rfl, hb⟩
            · have hE : Hid (r ≤ most → ((Tm.mk binds k i0 args).full : Int) ≤ r ∧ ((Tm.mk binds k i0 args).depth : Int) ≤ depth) := fun h => by
                have g := hrel.out h
                rw [List.take_of_length_le (by omega)] at g
                rw [Tm.full_eq, Tm.depth_eq]; omega
              go_wp2_with fail
              go_ret
              exact ⟨r, ⟨hr1, hr2.out, hE.out⟩, rfl, hb⟩
      · have hE : Hid (r = 1 + Ty.sizes binds) := by
          have h := hrel.out
          rw [List.take_of_length_le (by omega)] at h
          exact h
        go_wp2_with fail
        go_loopw [7, 9] (fun x i wr => ∃ (j : Nat) (r : Int), i = .int .i64 j ∧ x = .int .i64 r ∧ j ≤ args.length ∧ Hid (r ≤ most → (1 + Ty.sizes binds + Tm.fulls (args.take j) : Int) ≤ r ∧ (Tm.depths (args.take j) : Int) + 1 ≤ depth) ∧ 1 ≤ r ∧ Hid (r ≤ (most + 1) * (max depth 0 + 1)) ∧
          Below w.heap.size w wr ∧ Blk wr w.heap.size #[.slice pa1 binds.length pc, .int .i64 k, .int .i64 i0, .slice a args.length c] 29) (fun _ i _ => args.length - (intOf i).toNat)
        case atStart => exact ⟨0, r, rfl, rfl, by omega, fun _ => by have := hE.out; simp [Tm.fulls, Tm.depths]; omega, hr1, by have := hmul.out; show _ ≤ _; omega, hb, hbox⟩
        case round =>
          clear hb hbox c0 c3 hlt0 hr1 hr2 hj
          obtain ⟨j, r, rfl, rfl, hj, hrel, hr1, hr2, hb, hbox⟩ := hrel
          have c0 : wr.cell? ⟨w.heap.size, 0, none⟩ = some (.slice pa1 binds.length pc) := hbox.cell rfl
          have c3 : wr.cell? ⟨w.heap.size, 3, none⟩ = some (.slice a args.length c) := hbox.cell rfl
          have hlt0 := hbox.lt
          have hrb : r ≤ 2000000 := by have := hmul.out; have := hr2.out; omega
          by_cases hlt : j < args.length
          · have hj0 : (0 : Int) ≤ (j : Int) := Int.natCast_nonneg _
            have i1 : (j : Int) < (args.length : Int) := by omega
            by_cases hrm : r ≤ most
            · obtain ⟨hqa, hF⟩ := ha (by omega)
              subst hqa
              have e1 := (hw.below hb) _ _ _ hF (h1 j hlt)
              have e2 := (hw.below hb) _ _ _ hF (h2 j hlt)
              have e3 := (hw.below hb) _ _ _ hF (h3 j hlt)
              have e4 := (hw.below hb) _ _ _ hF (h4 j hlt)
              have Hf := Lib.hid (Tm.fulls_take args j hlt)
              have Hdd := Lib.hid (Tm.depths_take args j hlt)
              go_wp2_with fail
              refine (Hih.out j hlt most (depth - 1) wr hm0 hm1 (by omega) (by omega) (hw.below hb)).mono ?_
              rintro e w1 ⟨r', hf, rfl, hb1'⟩
              have Hf' := Lib.hid hf; clear hf
              have hr' : 1 ≤ r' ∧ r' ≤ 3000000 := by have := hmul.out; have := Hf'.out.1; have := Hf'.out.2.1; omega
              obtain ⟨hr'1, hr'2⟩ := hr'
              go_wp2_with fail
              go_roundw
              case rel =>
                refine ⟨j + 1, r + r', by go_num, rfl, by omega, ?_, by omega, ?_, hb.trans (hb1'.mono hb.size), hbox.below hb1'⟩
                · intro h
                  have g1 := hrel.out (by omega); have g2 := Hf'.out.2.2 (by omega); have g3 := Hf.out; have g4 := Hdd.out
                  rw [g3, g4]
                  omega
                · have := hmul.out; have := Hf'.out.2.1; show _ ≤ _; omega
              case measure => simp [intOf]; omega
            · have hE : Hid (most < r) := by show _ < _; omega
              go_wp2_with fail
              go_ret
              exact ⟨r, ⟨hr1, hr2.out, fun h => by have := hE.out; omega⟩, rfl, hb⟩
          · have hE : Hid (r ≤ most → ((Tm.mk binds k i0 args).full : Int) ≤ r ∧ ((Tm.mk binds k i0 args).depth : Int) ≤ depth) := fun h => by
              have g := hrel.out h
              rw [List.take_of_length_le (by omega)] at g
              rw [Tm.full_eq, Tm.depth_eq]; omega
            go_wp2_with fail
            go_ret
            exact ⟨r, ⟨hr1, hr2.out, hE.out⟩, rfl, hb⟩
end Go.Proofs.Ytejpgifofkiofaa

