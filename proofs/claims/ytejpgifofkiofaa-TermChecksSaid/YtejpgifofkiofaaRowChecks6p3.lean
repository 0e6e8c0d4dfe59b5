/-
  kind.Equal, and slices.EqualFunc with it. The reference's count of a term's terms and types. A type, copied cell by cell: To, Of of the laws. kind.Each: all types within, each ahead of its arguments: what the iterator hands to a loop's body.
-/
import Derived.Test.YtejpgifofkiofaaRowChecks6p2
import Derived.Test.YtejpgifofkiofaaRowChecks6p1
import Derived.Test.YtejpgifofkiofaaProg
import Derived.Lib.Hide
import Derived.Deep.RegionHeld3
import Derived.Deep.DrawnRows
import Derived.RangeFuncNested
import Derived.RangeFuncBound
import Derived.RangeFuncCalls
import Derived.RangeFuncLeaves
import Derived.Shelf.Abstract
import Derived.Shelf.RegionOpen
import Derived.OwnWalkIn
import Derived.TacticsInMore
import Derived.LoopNIn
import Derived.LoopIn
namespace Go.Proofs.Ytejpgifofkiofaa
open Go.RowKit

theorem args_mk' (l : List Ty) (b : Int) : (Ty.mk l b).args = l := rfl
theorem base_mk' (l : List Ty) (b : Int) : (Ty.mk l b).base = b := rfl

/-- kind.Equal tells whether it is this type -/
def EqK (t : Ty) : Prop := ∀ (F : Nat → Prop) (w0 : World) (s b : Value), IsTy F w0 s b t → ∀ (F' : Nat → Prop) (w0' : World) (s' b' : Value) (u : Ty), IsTy F' w0' s' b' u → ∀ w : World, Keep F w0 w → Keep F' w0' w →
    Calls Try.prog 54 #[.agg #[s, b], .agg #[s', b']] w (RetB (t = u) w)

theorem sl_cells' {F : Nat → Prop} {w : World} {a : Option Addr} {n c : Nat} {l : List Ty} (h : IsSl rpTy F w (.slice a n c) l) : n = l.length ∧ (l.length ≤ maxLen ∧ l.length ≤ c) ∧ ∃ (bl off : Nat) (A : Nat → Option Addr) (N C : Nat → Nat) (B : Nat → Int),
    (0 < l.length → a = some ⟨bl, off, none⟩ ∧ F bl) ∧ (∀ i, i < l.length → w.cell? ⟨bl, off + i * 2, none⟩ = some (.slice (A i) (N i) (C i))) ∧ (∀ i, i < l.length → w.cell? ⟨bl, off + i * 2 + 1, none⟩ = some (.int .i64 (B i))) ∧
    ∀ i (h : i < l.length), IsTy F w (.slice (A i) (N i) (C i)) (.int .i64 (B i)) l[i] := by
  have ht := isTy_mk h 0
  cases ht with
  | mk a n c b args bl off A N C B hn hm ha h1 h2 h3 =>
  subst hn
  exact ⟨rfl, hm, bl, off, A, N, C, B, ha, h1, h2, h3⟩
theorem sl_shape' {α : Type} {r : Rp α} {F : Nat → Prop} {w : World} {v : Value} {l : List α} (h : IsSl r F w v l) : ∃ a c, v = .slice a l.length c := by
  obtain ⟨a, c, _, _, _, hv, _⟩ := h
  exact ⟨a, c, hv⟩

set_option maxRecDepth 100000 in
set_option maxHeartbeats 1600000 in
theorem equalFunc_k {F F' : Nat → Prop} {w0 w0' : World} {v v' : Value} {l l' : List Ty} (h : IsSl rpTy F w0 v l) (h' : IsSl rpTy F' w0' v' l') (heq : ∀ t ∈ l, EqK t) (w : World) (hw : Keep F w0 w) (hw' : Keep F' w0' w) :
    Calls Try.prog 88 #[v, v', .func (.func 54) #[] #[]] w (RetB (l = l') w) := by
  obtain ⟨a, c, rfl⟩ := sl_shape' h
  obtain ⟨a', c', rfl⟩ := sl_shape' h'
  obtain ⟨_, hm, bl, off, A, N, C, B, ha, h1, h2, h3⟩ := sl_cells' h
  obtain ⟨_, hm', bl', off', A', N', C', B', ha', h1', h2', h3'⟩ := sl_cells' h'
  clear h h'
  unfold maxLen at hm hm'
  have H3 : Hid (∀ i (h : i < l.length) (h' : i < l'.length) (w : World), Keep F w0 w → Keep F' w0' w → Calls Try.prog 54 #[.agg #[.slice (A i) (N i) (C i), .int .i64 (B i)], .agg #[.slice (A' i) (N' i) (C' i), .int .i64 (B' i)]] w (RetB (l[i] = l'[i]) w)) :=
    fun i h h' w hw hw' => heq _ (List.getElem_mem h) _ _ _ _ (h3 i h) _ _ _ _ _ (h3' i h') w hw hw'
  clear h3 h3' heq
  by_cases hll : l.length = l'.length
  rotate_left
  · have hg : ((l.length : Int) == (l'.length : Int)) = false := by simpa using by omega
    have hg' : ((l.length : Int) != (l'.length : Int)) = true := by simpa using by omega
    go_enter Try.func88, Try.ntmps88
    go_wp2_with fail
    go_ret
    refine ⟨false, ?_, rfl, Below.refl _ _⟩
    simp; intro h; rw [h] at hll; exact hll rfl
  have Hll := Lib.hid hll
  have hg : ((l.length : Int) == (l'.length : Int)) = true := by simpa using by omega
  have hg' : ((l.length : Int) != (l'.length : Int)) = false := by simpa using by omega
  clear hll
  go_enter Try.func88, Try.ntmps88
  go_wp2_with fail
  go_loopw [17] (fun i wr => ∃ k : Nat, i = .int .i64 k ∧ k ≤ l.length ∧ Hid (l.take k = l'.take k) ∧ Below w.heap.size w wr) (fun i _ => l.length - (intOf i).toNat)
  case atStart => exact ⟨0, rfl, by omega, rfl, Below.refl _ _⟩
  case round =>
    obtain ⟨k, rfl, hk, hall, hb⟩ := hrel
    have hsz := hb.size
    by_cases hlt : k < l.length
    · have hlt' : k < l'.length := by rw [← Hll.out]; exact hlt
      obtain ⟨rfl, hF⟩ := ha (by omega)
      obtain ⟨rfl, hF'⟩ := ha' (by omega)
      have e1 : wr.cell? ⟨bl, off + k * 2, none⟩ = some (.slice (A k) (N k) (C k)) := (hw.below hb) _ _ _ hF (h1 k hlt)
      have e2 : wr.cell? ⟨bl, off + k * 2 + 1, none⟩ = some (.int .i64 (B k)) := (hw.below hb) _ _ _ hF (h2 k hlt)
      have e1' : wr.cell? ⟨bl', off' + k * 2, none⟩ = some (.slice (A' k) (N' k) (C' k)) := (hw'.below hb) _ _ _ hF' (h1' k hlt')
      have e2' : wr.cell? ⟨bl', off' + k * 2 + 1, none⟩ = some (.int .i64 (B' k)) := (hw'.below hb) _ _ _ hF' (h2' k hlt')
      have i0 : (0 : Int) ≤ (k : Int) := Int.natCast_nonneg _
      have i1 : (k : Int) < (l.length : Int) := by omega
      have i2 : (k : Int) < (l'.length : Int) := by omega
      have q1 : bl < wr.heap.size := Keep.lt e1
      have q1' : bl' < wr.heap.size := Keep.lt e1'
      go_wp2_with fail
      have hB2 := (hb.alloc hb.size (.cells #[.slice (A k) (N k) (C k), .int .i64 (B k)] 40)).alloc (by simp; omega) (.cells #[.slice (A' k) (N' k) (C' k), .int .i64 (B' k)] 40)
      refine (H3.out k hlt hlt' _ (hw.below hB2) (hw'.below hB2)).mono ?_
      rintro e w1 ⟨r, hr, rfl, hb1⟩
      have hB := hB2.trans (hb1.mono (by simp; omega))
      cases r
      · have Hr := Lib.hid (no_of hr); clear hr
        go_wp2_with fail
        go_ret
        refine ⟨false, ?_, rfl, hB⟩
        simp
        intro h
        subst h
        exact Hr.out rfl
      · have Hr := Lib.hid (yes_of hr); clear hr
        go_wp2_with fail
        go_roundw
        case rel => exact ⟨k + 1, by go_num, by omega, take_eq_succ hlt hlt' hall.out Hr.out, hB⟩
        case measure => simp [intOf]; omega
    · go_wp2_with fail
      go_ret
      refine ⟨true, ?_, rfl, hb⟩
      have h := hall.out
      rw [List.take_of_length_le (by omega), List.take_of_length_le (by rw [← Hll.out]; omega)] at h
      simp [h]

set_option maxRecDepth 100000 in
set_option maxHeartbeats 1600000 in
theorem equal_k : ∀ t : Ty, EqK t := Ty.ind fun args base ih => by
  intro F w0 s b ht F' w0' s' b' u hu w hw hw'
  obtain ⟨rfl, hs⟩ := ht.inv
  obtain ⟨rfl, hs'⟩ := hu.inv
  obtain ⟨a, c, rfl⟩ := sl_shape' hs
  obtain ⟨a', c', rfl⟩ := sl_shape' hs'
  have Heq := Lib.hid fun (w : World) (hw : Keep F w0 w) (hw' : Keep F' w0' w) => equalFunc_k hs hs' ih w hw hw'
  clear hs hs' ht hu ih
  have Hu : Hid (Ty.mk args base = u ↔ base = u.base ∧ args = u.args) := by
    show _ ↔ _
    cases u; simp [Ty.args, Ty.base]; constructor <;> intro h <;> exact ⟨h.2, h.1⟩
  obtain ⟨l', hl'⟩ : ∃ l', u.args = l' := ⟨_, rfl⟩
  obtain ⟨b', hb'⟩ : ∃ b', u.base = b' := ⟨_, rfl⟩
  rw [hl', hb'] at Hu
  rw [hl'] at Heq
  rw [hl', hb']
  clear hl' hb'
  have hgg : (Ty.mk args base).base = base := rfl
  have hgl : (Ty.mk args base).args = args := rfl
  rw [hgl] at Heq
  rw [hgg, hgl]
  clear hgg hgl
  by_cases hbb : base = b'
  rotate_left
  · have hg : (base == b') = false := by simpa using hbb
    go_enter Try.func54, Try.ntmps54
    go_wp2_with fail
    go_ret
    refine ⟨false, by rw [Hu.out]; simp [hbb], rfl, ((Below.refl _ _).alloc (Nat.le_refl _) _).alloc (by simp) _⟩
  · subst hbb
    have hg : (base == base) = true := by simp
    go_enter Try.func54, Try.ntmps54
    go_wp2_with fail
    have hB2 := ((Below.refl w.heap.size w).alloc (Nat.le_refl _) (.cells #[.slice a args.length c, .int .i64 base] 40)).alloc (by simp) (.cells #[.slice a' l'.length c', .int .i64 base] 40)
    refine (Heq.out _ (hw.below hB2) (hw'.below hB2)).mono ?_
    rintro e w1 ⟨r, hr, rfl, hb1⟩
    go_wp2_with fail
    go_ret
    refine ⟨r, by rw [Hu.out, hr]; simp, rfl, hB2.trans (hb1.mono (by simp; omega))⟩
end Go.Proofs.Ytejpgifofkiofaa

namespace Go.Proofs.Ytejpgifofkiofaa
open Go.RowKit

/-- what 'few' counts of a term -/
def fewOk6 (t : Tm) (most depth : Int) (r : Int) : Prop :=
  1 ≤ r ∧ r ≤ (most + 1) * (max depth 0 + 1) ∧ (r ≤ most → (t.full : Int) ≤ r ∧ (t.depth : Int) ≤ depth)
def FewPost6 (t : Tm) (most depth : Int) (w : World) (e : Ending) (w' : World) : Prop := ∃ r : Int, fewOk6 t most depth r ∧ e = .returned (.int .i64 r) ∧ Below w.heap.size w w'

theorem Tm.arg_lt {l : List Tm} {b : List Ty} {k i : Int} (j : Nat) (h : j < l.length) : l[j].size < (Tm.mk b k i l).size := by
  have := Tm.size_mem (List.getElem_mem h); rw [Tm.size_eq]; omega

theorem of_retB' {p : Prop} {w : World} {e : Ending} {w' : World} (h : RetB p w e w') : ∃ r : Bool, Hid (r = true ↔ p) ∧ e = .returned (.bool r) ∧ Below w.heap.size w w' := h

set_option maxRecDepth 100000 in
set_option maxHeartbeats 1000000 in
theorem few6_any {F : Nat → Prop} {w0 : World} {b k i a : Value} {t : Tm} (ht : IsTm F w0 b k i a t) : ∀ (most depth : Int) (w : World), 1 ≤ most → most ≤ 1000 → depth ≤ 1000 → -1000 ≤ depth →
    Keep F w0 w →
    Calls Try.prog 118 #[.agg #[b, k, i, a], .int .i64 most, .int .i64 depth] w (FewPost6 t most depth w) := by
  induction ht with
  | mk bv k i0 a n c binds args bl off PA A PN PC N C K I hb hn hm ha h1 h2 h3 h4 h5 ih =>
  intro most depth w hm0 hm1 hd1 hd0 hw
  obtain ⟨pa1, pc, rfl⟩ := hb.shape
  unfold maxLen at hm
  by_cases hd : depth ≤ 0
  · skip
    go_enter Try.func118, Try.ntmps118
    go_wp2_with fail
    go_ret
    refine ⟨_, ?_, rfl, (Below.refl _ _).alloc (Nat.le_refl _) _⟩
    refine ⟨by omega, ?_, fun h => by omega⟩
    rw [show max depth 0 = 0 from by omega]; omega
  · have hd' : 1 ≤ depth := by omega
    obtain ⟨_, hbm, bl1, off1, A1, N1, C1, B1, hb1, hb2, hb3, hb4⟩ := sl_cells' hb
    unfold maxLen at hbm
    subst hn
    have Hb4 := Lib.hid hb4; clear hb4 hb
    clear h5
    have Hih := Lib.hid ih; clear ih
    have hmul : Hid ((most + 1) * max (depth - 1) 0 + (most + 1) = (most + 1) * (max depth 0) ∧ (most + 1) ≤ (most + 1) * max depth 0 ∧ (most + 1) * max depth 0 ≤ 1001 * 1000 ∧ (most + 1) * (max depth 0 + 1) = (most + 1) * max depth 0 + (most + 1) ∧ (most + 1) * (max (depth - 1) 0 + 1) = (most + 1) * max (depth - 1) 0 + (most + 1)) := by
      have e : (most + 1) * max (depth - 1) 0 + (most + 1) = (most + 1) * (max depth 0) := by rw [show max depth 0 = max (depth - 1) 0 + 1 from by omega, Int.mul_add]; omega
      refine ⟨e, ?_, Int.mul_le_mul (by omega) (by omega) (by omega) (by omega), by rw [Int.mul_add]; omega, by rw [Int.mul_add]; omega⟩
      have : 0 ≤ (most + 1) * max (depth - 1) 0 := Int.mul_nonneg (by omega) (by omega)
      omega
    go_enter Try.func118, Try.ntmps118
    go_wp2_with fail
    go_loopw [7, 8] (fun x i wr => ∃ (j : Nat) (r : Int), i = .int .i64 j ∧ x = .int .i64 r ∧ j ≤ binds.length ∧ Hid (r = 1 + Ty.sizes (binds.take j)) ∧ 1 ≤ r ∧ r ≤ 2 * most ∧
      Below w.heap.size w wr ∧ Blk wr w.heap.size #[.slice pa1 binds.length pc, .int .i64 k, .int .i64 i0, .slice a args.length c] 29) (fun _ i _ => binds.length - (intOf i).toNat)
    case atStart =>
      exact ⟨0, 1, rfl, rfl, by omega, by show _ = _; simp [Ty.sizes], by omega, by omega, (Below.refl _ _).alloc (Nat.le_refl _) _, Blk.new _ _ _ rfl⟩
    case round =>
      obtain ⟨j, r, rfl, rfl, hj, hrel, hr1, hr2, hb, hbox⟩ := hrel
      have c0 : wr.cell? ⟨w.heap.size, 0, none⟩ = some (.slice pa1 binds.length pc) := hbox.cell rfl
      have c3 : wr.cell? ⟨w.heap.size, 3, none⟩ = some (.slice a args.length c) := hbox.cell rfl
      have hlt0 := hbox.lt
      by_cases hlt : j < binds.length
      · have hj0 : (0 : Int) ≤ (j : Int) := Int.natCast_nonneg _
        have i1 : (j : Int) < (binds.length : Int) := by omega
        by_cases hrm : r ≤ most
        · obtain ⟨hpa, hF⟩ := hb1 (by omega)
          subst hpa
          have e1 : wr.cell? ⟨bl1, off1 + j * 2, none⟩ = some (.slice (A1 j) (N1 j) (C1 j)) := (hw.below hb) _ _ _ hF (hb2 j hlt)
          have e2 : wr.cell? ⟨bl1, off1 + j * 2 + 1, none⟩ = some (.int .i64 (B1 j)) := (hw.below hb) _ _ _ hF (hb3 j hlt)
          have Hsz := Lib.hid (Ty.sizes_take binds j hlt)
          go_wp2_with fail
          refine (Few_any ((Hb4.out j hlt).keep (hw.below hb)) most depth hm0 hm1 hd1 (by omega)).mono ?_
          intro e w1 h
          obtain ⟨q, Hq, rfl, hbq⟩ := of_retB' h
          clear h
          have hbox1 := hbox.below hbq
          have hB1 := hb.trans (hbq.mono hb.size)
          have d0 : w1.cell? ⟨w.heap.size, 0, none⟩ = some (.slice (some ⟨bl1, off1, none⟩) binds.length pc) := hbox1.cell rfl
          cases q
          · go_wp2_with fail
            go_ret
            refine ⟨_, ⟨by omega, ?_, fun h => by omega⟩, rfl, hB1⟩
            have := hmul.out; omega
          · have Hq2 := Lib.hid (yes_of Hq.out)
            have f1 : w1.cell? ⟨bl1, off1 + j * 2, none⟩ = some (.slice (A1 j) (N1 j) (C1 j)) := (hw.below hB1) _ _ _ hF (hb2 j hlt)
            have f2 : w1.cell? ⟨bl1, off1 + j * 2 + 1, none⟩ = some (.int .i64 (B1 j)) := (hw.below hB1) _ _ _ hF (hb3 j hlt)
            clear Hq
            go_wp2_with fail
            refine (size_r (Hb4.out j hlt) w1 (by have := Hq2.out.1; omega) (hw.below hB1)).mono ?_
            rintro e w2 ⟨rfl, hb2'⟩
            have hsz : Hid ((binds[j].size : Int) ≤ most) := Hq2.out.1
            have hsz' : (binds[j].size : Int) ≤ 1000 := by have := hsz.out; omega
            have hsz0 : (0 : Int) ≤ (binds[j].size : Int) := Int.natCast_nonneg _
            go_wp2_with fail
            go_roundw
            case rel =>
              refine ⟨j + 1, _, by go_num, by go_num, by omega, ?_, by omega, by have := hsz.out; omega, hB1.trans (hb2'.mono hB1.size), hbox1.below hb2'⟩
              show _ = _
              have h1 := hrel.out; have h2 := Hsz.out
              omega
            case measure => simp [intOf]; omega
        · have hE : Hid (most < r) := by show _ < _; omega
          go_wp2_with fail
          go_loopw [7, 9] (fun x i wr => ∃ (j : Nat) (r : Int), i = .int .i64 j ∧ x = .int .i64 r ∧ j ≤ args.length ∧ Hid (r ≤ most → (1 + Ty.sizes binds + Tm.fulls (args.take j) : Int) ≤ r ∧ (Tm.depths (args.take j) : Int) + 1 ≤ depth) ∧ 1 ≤ r ∧ Hid (r ≤ (most + 1) * (max depth 0 + 1)) ∧
            Below w.heap.size w wr ∧ Blk wr w.heap.size #[.slice pa1 binds.length pc, .int .i64 k, .int .i64 i0, .slice a args.length c] 29) (fun _ i _ => args.length - (intOf i).toNat)
          case atStart => exact ⟨0, r, rfl, rfl, by omega, fun h => by have := hE.out; omega, hr1, by have := hmul.out; show _ ≤ _; omega, hb, hbox⟩
          case round =>
            clear hb hbox c0 c3 hlt0 hr1 hr2 hj
            obtain ⟨j, r, rfl, rfl, hj, hrel, hr1, hr2, hb, hbox⟩ := hrel
            have c0 : wr.cell? ⟨w.heap.size, 0, none⟩ = some (.slice pa1 binds.length pc) := hbox.cell rfl
            have c3 : wr.cell? ⟨w.heap.size, 3, none⟩ = some (.slice a args.length c) := hbox.cell rfl
            have hlt0 := hbox.lt
            have hrb : r ≤ 2000000 := by have := hmul.out; have := hr2.out; omega
            by_cases hlt : j < args.length
            · have hj0 : (0 : Int) ≤ (j : Int) := Int.natCast_nonneg _
              have i1 : (j : Int) < (args.length : Int) := by omega
              by_cases hrm : r ≤ most
              · obtain ⟨hqa, hF⟩ := ha (by omega)
                subst hqa
                have e1 := (hw.below hb) _ _ _ hF (h1 j hlt)
                have e2 := (hw.below hb) _ _ _ hF (h2 j hlt)
                have e3 := (hw.below hb) _ _ _ hF (h3 j hlt)
                have e4 := (hw.below hb) _ _ _ hF (h4 j hlt)
                have Hf := Lib.hid (Tm.fulls_take args j hlt)
                have Hdd := Lib.hid (Tm.depths_take args j hlt)
                go_wp2_with fail
                refine (Hih.out j hlt most (depth - 1) wr hm0 hm1 (by omega) (by omega) (hw.below hb)).mono ?_
                rintro e w1 ⟨r', hf, rfl, hb1'⟩
                have Hf' := Lib.hid hf; clear hf
                have hr' : 1 ≤ r' ∧ r' ≤ 3000000 := by have := hmul.out; have := Hf'.out.1; have := Hf'.out.2.1; omega
                obtain ⟨hr'1, hr'2⟩ := hr'
                go_wp2_with fail
                go_roundw
                case rel =>
                  refine ⟨j + 1, r + r', by go_num, rfl, by omega, ?_, by omega, ?_, hb.trans (hb1'.mono hb.size), hbox.below hb1'⟩
                  · intro h
                    have g1 := hrel.out (by omega); have g2 := Hf'.out.2.2 (by omega); have g3 := Hf.out; have g4 := Hdd.out
                    rw [g3, g4]
                    omega
                  · have := hmul.out; have := Hf'.out.2.1; show _ ≤ _; omega
                case measure => simp [intOf]; omega
              · have hE : Hid (most < r) := by show _ < _; omega
                go_wp2_with fail
                go_ret
                exact ⟨r, ⟨hr1, hr2.out, fun h => by have := hE.out; omega⟩, rfl, hb⟩
            · have hE : Hid (r ≤ most → ((Tm.mk binds k i0 args).full : Int) ≤ r ∧ ((Tm.mk binds k i0 args).depth : Int) ≤ depth) := fun h => by
                have g := hrel.out h
                rw [List.take_of_length_le (by omega)] at g
                rw [Tm.full_eq, Tm.depth_eq]; omega
              go_wp2_with fail
              go_ret
              exact ⟨r, ⟨hr1, hr2.out, hE.out⟩, rfl, hb⟩
      · have hE : Hid (r = 1 + Ty.sizes binds) := by
          have h := hrel.out
          rw [List.take_of_length_le (by omega)] at h
          exact h
        go_wp2_with fail
        go_loopw [7, 9] (fun x i wr => ∃ (j : Nat) (r : Int), i = .int .i64 j ∧ x = .int .i64 r ∧ j ≤ args.length ∧ Hid (r ≤ most → (1 + Ty.sizes binds + Tm.fulls (args.take j) : Int) ≤ r ∧ (Tm.depths (args.take j) : Int) + 1 ≤ depth) ∧ 1 ≤ r ∧ Hid (r ≤ (most + 1) * (max depth 0 + 1)) ∧
          Below w.heap.size w wr ∧ Blk wr w.heap.size #[.slice pa1 binds.length pc, .int .i64 k, .int .i64 i0, .slice a args.length c] 29) (fun _ i _ => args.length - (intOf i).toNat)
        case atStart => exact ⟨0, r, rfl, rfl, by omega, fun _ => by have := hE.out; simp [Tm.fulls, Tm.depths]; omega, hr1, by have := hmul.out; show _ ≤ _; omega, hb, hbox⟩
        case round =>
          clear hb hbox c0 c3 hlt0 hr1 hr2 hj
          obtain ⟨j, r, rfl, rfl, hj, hrel, hr1, hr2, hb, hbox⟩ := hrel
          have c0 : wr.cell? ⟨w.heap.size, 0, none⟩ = some (.slice pa1 binds.length pc) := hbox.cell rfl
          have c3 : wr.cell? ⟨w.heap.size, 3, none⟩ = some (.slice a args.length c) := hbox.cell rfl
          have hlt0 := hbox.lt
          have hrb : r ≤ 2000000 := by have := hmul.out; have := hr2.out; omega
          by_cases hlt : j < args.length
          · have hj0 : (0 : Int) ≤ (j : Int) := Int.natCast_nonneg _
            have i1 : (j : Int) < (args.length : Int) := by omega
            by_cases hrm : r ≤ most
            · obtain ⟨hqa, hF⟩ := ha (by omega)
              subst hqa
              have e1 := (hw.below hb) _ _ _ hF (h1 j hlt)
              have e2 := (hw.below hb) _ _ _ hF (h2 j hlt)
              have e3 := (hw.below hb) _ _ _ hF (h3 j hlt)
              have e4 := (hw.below hb) _ _ _ hF (h4 j hlt)
              have Hf := Lib.hid (Tm.fulls_take args j hlt)
              have Hdd := Lib.hid (Tm.depths_take args j hlt)
              go_wp2_with fail
              refine (Hih.out j hlt most (depth - 1) wr hm0 hm1 (by omega) (by omega) (hw.below hb)).mono ?_
              rintro e w1 ⟨r', hf, rfl, hb1'⟩
              have Hf' := Lib.hid hf; clear hf
              have hr' : 1 ≤ r' ∧ r' ≤ 3000000 := by have := hmul.out; have := Hf'.out.1; have := Hf'.out.2.1; omega
              obtain ⟨hr'1, hr'2⟩ := hr'
              go_wp2_with fail
              go_roundw
              case rel =>
                refine ⟨j + 1, r + r', by go_num, rfl, by omega, ?_, by omega, ?_, hb.trans (hb1'.mono hb.size), hbox.below hb1'⟩
                · intro h
                  have g1 := hrel.out (by omega); have g2 := Hf'.out.2.2 (by omega); have g3 := Hf.out; have g4 := Hdd.out
                  rw [g3, g4]
                  omega
                · have := hmul.out; have := Hf'.out.2.1; show _ ≤ _; omega
              case measure => simp [intOf]; omega
            · have hE : Hid (most < r) := by show _ < _; omega
              go_wp2_with fail
              go_ret
              exact ⟨r, ⟨hr1, hr2.out, fun h => by have := hE.out; omega⟩, rfl, hb⟩
          · have hE : Hid (r ≤ most → ((Tm.mk binds k i0 args).full : Int) ≤ r ∧ ((Tm.mk binds k i0 args).depth : Int) ≤ depth) := fun h => by
              have g := hrel.out h
              rw [List.take_of_length_le (by omega)] at g
              rw [Tm.full_eq, Tm.depth_eq]; omega
            go_wp2_with fail
            go_ret
            exact ⟨r, ⟨hr1, hr2.out, hE.out⟩, rfl, hb⟩
end Go.Proofs.Ytejpgifofkiofaa

namespace Go.Proofs.Ytejpgifofkiofaa
open Go.RowKit
attribute [local go_sem ↓] Go.wp_at_zero Go.wp_at_succ

theorem infoK : (Try.prog.info? 40).map (fun i => (i.zero, i.size, i.bytes)) = some (some (.agg #[.slice none 0 0, .int .i64 0]), 2, 32) := by kernel_rfl
theorem infoR : (Try.prog.info? 26).map (fun i => (i.zero, i.size, i.bytes)) = some (some (.agg #[.slice none 0 0, .int .i64 0]), 2, 32) := by kernel_rfl

/-- a fresh copy of a type -/
def FreshTy (t : Ty) (w : World) (e : Ending) (w' : World) : Prop := ∃ s b, e = .returned (.agg #[s, b]) ∧ IsTy (fun k => w.heap.size ≤ k) w' s b t ∧ Below w.heap.size w w'

set_option maxRecDepth 100000 in
set_option maxHeartbeats 1600000 in
theorem to_any {F : Nat → Prop} {w0 : World} {s b : Value} {t : Ty} (ht : IsTy F w0 s b t) : ∀ (w : World), t.size ≤ 1000000 →
    Keep F w0 w →
    Calls Try.prog 18 #[.agg #[s, b]] w (FreshTy t w) := by
  induction ht with
  | mk a n c b args bl off A N C B hn hm ha h1 h2 h3 ih =>
  intro w hsize hw
  clear h3 hm
  subst hn
  have hlen : args.length ≤ 1000000 := by have := Ty.length_lt (l := args) (b := b); omega
  have Hsz : Hid (∀ i (h : i < args.length), args[i].size ≤ 1000000) := fun i h => by have := Ty.size_get (b := b) i h; omega
  have Hih := Lib.hid ih; clear ih hsize
  obtain ⟨i0, hi0, hz0, hz1, hz2⟩ := info_parts infoK
  go_enter Try.func18, Try.ntmps18
  go_wp2_with fail
  go_loopw [4] (fun i wr => ∃ (k : Nat) (v : Value), i = .int .i64 k ∧ k ≤ args.length ∧ 
      Below w.heap.size w wr ∧ Blk wr w.heap.size #[.slice a args.length c, .int .i64 b] 26 ∧ Blk wr (w.heap.size + 1) #[.slice none 0 0, .int .i64 0] 40 ∧ Blk wr (w.heap.size + 2) #[v, .int .i64 b] 40 ∧
      Acc rpTy 40 (w.heap.size + 3) (fun q => w.heap.size + 3 ≤ q) wr v (args.take k)) (fun i _ => args.length - (intOf i).toNat)
  case atStart => 
    exact ⟨0, _, rfl, by omega, (((Below.refl _ _).alloc (Nat.le_refl _) _).alloc (by simp) _).alloc (by simp; omega) _, ((Blk.new _ _ _ rfl).alloc _).alloc _, (Blk.new _ _ _ (by simp)).alloc _, Blk.new _ _ _ (by simp), Acc.nil _ _ _ _ _⟩
  case round =>
    obtain ⟨k, v, rfl, hk, hb, hbox, hres, hout, hacc⟩ := hrel
    have c0 : wr.cell? ⟨w.heap.size, 0, none⟩ = some (.slice a args.length c) := hbox.cell rfl
    have d0 : wr.cell? ⟨w.heap.size + 2, 0, none⟩ = some v := hout.cell rfl
    have hsz := hout.lt
    have Hacc := Lib.hid hacc; clear hacc
    by_cases hlt : k < args.length
    · obtain ⟨rfl, hF⟩ := ha (by omega)
      clear ha
      have e1 : wr.cell? ⟨bl, off + k * 2, none⟩ = some (.slice (A k) (N k) (C k)) := (hw.below hb) _ _ _ hF (h1 k hlt)
      have e2 : wr.cell? ⟨bl, off + k * 2 + 1, none⟩ = some (.int .i64 (B k)) := (hw.below hb) _ _ _ hF (h2 k hlt)
      have hlt0 : (0 : Int) ≤ (k : Int) := Int.natCast_nonneg _
      have hlt1 : (k : Int) < (args.length : Int) := by omega
      have Hbl : Hid (v.ownBlock ≠ some bl) := fun e => by have := (Hacc.out.base_le bl e).1; have := Keep.lt (hw _ _ _ hF (h1 k hlt)); omega
      have Hl : Hid ((args.take k).length = k) := by show _ = _; simp; omega
      have Hne : Hid (∀ q, q < w.heap.size + 3 → v.ownBlock ≠ some q) := fun q hq e => by have := (Hacc.out.base_le q e).1; omega
      go_wp2_with fail
      refine wp_region_noPanic (wp_region_need (S := fun w' => w'.cell? ⟨w.heap.size, 0, none⟩ = some (.slice (some ⟨bl, off, none⟩) args.length c) ∧ w'.cell? ⟨w.heap.size + 2, 0, none⟩ = some v ∧ w'.cell? ⟨bl, off + k * 2, none⟩ = some (.slice (A k) (N k) (C k)) ∧ w'.cell? ⟨bl, off + k * 2 + 1, none⟩ = some (.int .i64 (B k))) (by kernel_rfl) ?_)
      have hS : (wr.drew).cell? ⟨w.heap.size, 0, none⟩ = some (.slice (some ⟨bl, off, none⟩) args.length c) ∧ (wr.drew).cell? ⟨w.heap.size + 2, 0, none⟩ = some v ∧ (wr.drew).cell? ⟨bl, off + k * 2, none⟩ = some (.slice (A k) (N k) (C k)) ∧ (wr.drew).cell? ⟨bl, off + k * 2 + 1, none⟩ = some (.int .i64 (B k)) := ⟨c0, d0, e1, e2⟩
      refine wpN_take (i := 0) (v := ?v1) rfl (by kernel_rfl) (fun _ _ _ h => h) hS (Or.inl ⟨by rfl, ?hy1⟩) ?hr1
      case hy1 => (intro wS hSw; (try dsimp only at hSw); go_simp; (try with_reducible rfl))
      try simp only [Act.put, List.setIfInBounds_toArray, List.set_cons_zero, List.set_cons_succ]
      refine wpN_take (i := 1) (v := ?v2) rfl (by kernel_rfl) (fun _ _ _ h => h) hS (Or.inl ⟨by rfl, ?hy2⟩) ?hr2
      case hy2 => (intro wS hSw; (try dsimp only at hSw); go_simp; (try with_reducible rfl))
      try simp only [Act.put, List.setIfInBounds_toArray, List.set_cons_zero, List.set_cons_succ]
      refine wpN_take (i := 2) (v := ?v3) rfl (by kernel_rfl) (fun _ _ _ h => h) hS (Or.inl ⟨by rfl, ?hy3⟩) ?hr3
      case hy3 => (intro wS hSw; (try dsimp only at hSw); go_simp; (try with_reducible rfl))
      try simp only [Act.put, List.setIfInBounds_toArray, List.set_cons_zero, List.set_cons_succ]
      refine wpN_take (i := 3) (v := ?v4) rfl (by kernel_rfl) (fun _ _ _ h => h) hS (Or.inl ⟨by rfl, ?hy4⟩) ?hr4
      case hy4 => (intro wS hSw; (try dsimp only at hSw); go_simp; (try with_reducible rfl))
      try simp only [Act.put, List.setIfInBounds_toArray, List.set_cons_zero, List.set_cons_succ]
      refine wpN_take (i := 4) (v := ?v5) rfl (by kernel_rfl) (fun _ _ _ h => h) hS (Or.inl ⟨by rfl, ?hy5⟩) ?hr5
      case hy5 => (intro wS hSw; (try dsimp only at hSw); go_simp; (try with_reducible rfl))
      try simp only [Act.put, List.setIfInBounds_toArray, List.set_cons_zero, List.set_cons_succ]
      refine wpN_take (i := 5) (v := ?v6) rfl (by kernel_rfl) (fun _ _ _ h => h) hS (Or.inl ⟨by rfl, ?hy6⟩) ?hr6
      case hy6 => (intro wS hSw; (try dsimp only at hSw); go_simp; (try with_reducible rfl))
      try simp only [Act.put, List.setIfInBounds_toArray, List.set_cons_zero, List.set_cons_succ]
      refine wpN_take (i := 6) (v := ?v7) rfl (by kernel_rfl) (fun _ _ _ h => h) hS (Or.inl ⟨by rfl, ?hy7⟩) ?hr7
      case hy7 => (intro wS hSw; (try dsimp only at hSw); go_simp; (try with_reducible rfl))
      try simp only [Act.put, List.setIfInBounds_toArray, List.set_cons_zero, List.set_cons_succ]
      refine wpN_step (i := 7) (by kernel_rfl) rfl (fun K hK => ?_)
      go_simp
      refine (Hih.out k hlt _ (Hsz.out k hlt) ((hw.below hb).drew)).mono ?_
      rintro e w1 ⟨s', b', rfl, hr1, hb1⟩
      have hK1 : Keep (fun q => v.ownBlock ≠ some q) wr w1 := ((Keep.refl _ _).drew).below hb1
      have hS : (w1).cell? ⟨w.heap.size, 0, none⟩ = some (.slice (some ⟨bl, off, none⟩) args.length c) ∧ (w1).cell? ⟨w.heap.size + 2, 0, none⟩ = some v ∧ (w1).cell? ⟨bl, off + k * 2, none⟩ = some (.slice (A k) (N k) (C k)) ∧ (w1).cell? ⟨bl, off + k * 2 + 1, none⟩ = some (.int .i64 (B k)) := ⟨(Blk.below (w := wr.drew) hbox hb1).cell rfl, (Blk.below (w := wr.drew) hout hb1).cell rfl, hK1 _ _ _ Hbl.out e1, hK1 _ _ _ Hbl.out e2⟩
      refine hK.out _ _ (fun _ => hS) ?_
      clear hK K
      try simp only [Act.put, List.setIfInBounds_toArray, List.set_cons_zero, List.set_cons_succ]
      refine wpN_step (i := 8) (by kernel_rfl) rfl (fun K hK => ?_)
      go_simp
      have hS : (w1.alloc (.cells #[s', b'] 40)).cell? ⟨w.heap.size, 0, none⟩ = some (.slice (some ⟨bl, off, none⟩) args.length c) ∧ (w1.alloc (.cells #[s', b'] 40)).cell? ⟨w.heap.size + 2, 0, none⟩ = some v ∧ (w1.alloc (.cells #[s', b'] 40)).cell? ⟨bl, off + k * 2, none⟩ = some (.slice (A k) (N k) (C k)) ∧ (w1.alloc (.cells #[s', b'] 40)).cell? ⟨bl, off + k * 2 + 1, none⟩ = some (.int .i64 (B k)) := ⟨((Blk.below (w := wr.drew) hbox hb1).alloc _).cell rfl, ((Blk.below (w := wr.drew) hout hb1).alloc _).cell rfl, (hK1.alloc _) _ _ _ Hbl.out e1, (hK1.alloc _) _ _ _ Hbl.out e2⟩
      refine hK.out _ _ (fun _ => hS) ?_
      clear hK K
      try simp only [Act.put, List.setIfInBounds_toArray, List.set_cons_zero, List.set_cons_succ]
      refine wpN_step (i := 9) (by kernel_rfl) rfl (fun K hK => ?_)
      refine step_push rpTy (by decide) (by rfl) _ _ _ (by rfl) (w.heap.size + 3) 40 i0 _ 32 Try.underlying33 hi0 hz0 hz1 hz2 rfl (by decide)
             (fun q => w.heap.size + 3 ≤ q) v (args.take k) (by rfl) (((Hacc.out.drew).below hb1).alloc _) (by rw [Hl.out]; omega)
             w1.heap.size _ [s', b'] args[k] (by rfl) (heap_alloc_new _ _) ⟨_, _, rfl, (hr1.weaken (fun q _ hq => ⟨Nat.le_trans (show w.heap.size + 3 ≤ wr.drew.heap.size from hsz) hq, fun e => by have := (Hacc.out.base_le q e).2; exact absurd this (Nat.not_lt.2 hq)⟩)).keep ((Keep.refl _ _).alloc _)⟩ (by have := hb1.size; simp at this ⊢; omega) ?_
      intro gg cap w2 hacc2 hgrow hat hlt2
      have hK2 : Keep (fun q => v.ownBlock ≠ some q) wr w2 := (hK1.alloc _).grown hgrow (fun _ hr hf => hf hr)
      have o2 := hout.push hb1 hgrow (Hne.out _ (by omega))
      have o1 := hres.push hb1 hgrow (Hne.out _ (by omega))
      have o0 := hbox.push hb1 hgrow (Hne.out _ (by omega))
      have hS : (w2).cell? ⟨w.heap.size, 0, none⟩ = some (.slice (some ⟨bl, off, none⟩) args.length c) ∧ (w2).cell? ⟨w.heap.size + 2, 0, none⟩ = some v ∧ (w2).cell? ⟨bl, off + k * 2, none⟩ = some (.slice (A k) (N k) (C k)) ∧ (w2).cell? ⟨bl, off + k * 2 + 1, none⟩ = some (.int .i64 (B k)) := ⟨o0.cell (i := 0) rfl, o2.cell (i := 0) rfl, hK2 _ _ _ Hbl.out e1, hK2 _ _ _ Hbl.out e2⟩
      have p2 := o2.free 0
      have Hacc2 := Lib.hid hacc2; clear hacc2
      refine hK.out _ _ (fun _ => hS) ?_
      clear hK K
      try simp only [Act.put, List.setIfInBounds_toArray, List.set_cons_zero, List.set_cons_succ]
      refine wpN_take (i := 10) (v := ?v8) rfl (by kernel_rfl) (fun _ _ _ h => h) hS (Or.inl ⟨by rfl, ?hy8⟩) ?hr8
      case hy8 => (intro wS hSw; (try dsimp only at hSw); go_simp; (try with_reducible rfl))
      try simp only [Act.put, List.setIfInBounds_toArray, List.set_cons_zero, List.set_cons_succ]
      refine wpN_step (i := 11) (by kernel_rfl) rfl (fun K hK => ?_)
      go_simp
      refine hK.out _ _ (fun h => absurd h (by decide)) ?_
      clear hK K
      try simp only [Act.put, List.setIfInBounds_toArray, List.set_cons_zero, List.set_cons_succ]
      refine wpN_done (by kernel_rfl) ?_
      refine NoPanic.normal ?_
      go_wp2_with fail
      refine ⟨⟨k + 1, _, by go_num, by omega, (below_push hb (by omega) hb1 hgrow (fun q hq => by have := (Hacc.out.base_le q hq).1; omega)).setCell (by simp; omega) _, o0.far _ _ (by simp; omega), o1.far _ _ (by simp), o2.set 0 _, ?_⟩, by simp [intOf]; omega⟩
      have h := Hacc2.out
      rw [Hl.out, ← List.take_succ_eq_append_getElem hlt] at h
      exact h.setCell _ _ (by simp) (by simp)
    · obtain ⟨va, vc, hv⟩ := Hacc.out.len_shape
      rw [List.length_take, Nat.min_eq_left hk] at hv
      subst hv
      have d1 : wr.cell? ⟨w.heap.size + 2, 1, none⟩ = some (.int .i64 b) := hout.cell rfl
      have r0 : wr.cell? ⟨w.heap.size + 1, 0, none⟩ = some (.slice none 0 0) := hres.cell rfl
      have r1 : wr.cell? ⟨w.heap.size + 1, 1, none⟩ = some (.int .i64 0) := hres.cell rfl
      have f0 := hres.free 0
      have f1 := hres.free 1
      go_wp2_with fail
      refine bodyPost_ret (v := .agg #[.slice va k vc, .int .i64 b]) (by simp [results, Try.results18, go_sem, r0, r1]) rfl ?_
      have hkn : k = args.length := by omega
      refine ⟨_, _, rfl, ?_, (hb.setCell (by simp) _).setCell (by simp) _⟩
      have hF : ∀ q, w.heap.size + 3 ≤ q → q ≠ w.heap.size + 1 := fun q h => by omega
      have h := (Hacc.out.setCell ⟨w.heap.size + 1, 0, none⟩ (.slice va k vc) (by simp) (by simp)).setCell ⟨w.heap.size + 1, 1, none⟩ (.int .i64 b) (by simp) (by simp)
      rw [List.take_of_length_le (by omega)] at h
      exact isTy_mk (h.sl (F' := fun q => w.heap.size ≤ q) (fun q _ hq => by omega) (fun q hq => by omega)) b
set_option maxRecDepth 100000 in
set_option maxHeartbeats 1600000 in
theorem of_any {F : Nat → Prop} {w0 : World} {s b : Value} {t : Ty} (ht : IsTy F w0 s b t) : ∀ (w : World), t.size ≤ 1000000 →
    Keep F w0 w →
    Calls Try.prog 41 #[.agg #[s, b]] w (FreshTy t w) := by
  induction ht with
  | mk a n c b args bl off A N C B hn hm ha h1 h2 h3 ih =>
  intro w hsize hw
  clear h3 hm
  subst hn
  have hlen : args.length ≤ 1000000 := by have := Ty.length_lt (l := args) (b := b); omega
  have Hsz : Hid (∀ i (h : i < args.length), args[i].size ≤ 1000000) := fun i h => by have := Ty.size_get (b := b) i h; omega
  have Hih := Lib.hid ih; clear ih hsize
  obtain ⟨i0, hi0, hz0, hz1, hz2⟩ := info_parts infoR
  go_enter Try.func41, Try.ntmps41
  go_wp2_with fail
  go_loopw [4] (fun i wr => ∃ (k : Nat) (v : Value), i = .int .i64 k ∧ k ≤ args.length ∧ 
      Below w.heap.size w wr ∧ Blk wr w.heap.size #[.slice a args.length c, .int .i64 b] 40 ∧ Blk wr (w.heap.size + 1) #[.slice none 0 0, .int .i64 0] 26 ∧ Blk wr (w.heap.size + 2) #[v, .int .i64 b] 26 ∧
      Acc rpTy 26 (w.heap.size + 3) (fun q => w.heap.size + 3 ≤ q) wr v (args.take k)) (fun i _ => args.length - (intOf i).toNat)
  case atStart => 
    exact ⟨0, _, rfl, by omega, (((Below.refl _ _).alloc (Nat.le_refl _) _).alloc (by simp) _).alloc (by simp; omega) _, ((Blk.new _ _ _ rfl).alloc _).alloc _, (Blk.new _ _ _ (by simp)).alloc _, Blk.new _ _ _ (by simp), Acc.nil _ _ _ _ _⟩
  case round =>
    obtain ⟨k, v, rfl, hk, hb, hbox, hres, hout, hacc⟩ := hrel
    have c0 : wr.cell? ⟨w.heap.size, 0, none⟩ = some (.slice a args.length c) := hbox.cell rfl
    have d0 : wr.cell? ⟨w.heap.size + 2, 0, none⟩ = some v := hout.cell rfl
    have hsz := hout.lt
    have Hacc := Lib.hid hacc; clear hacc
    by_cases hlt : k < args.length
    · obtain ⟨rfl, hF⟩ := ha (by omega)
      clear ha
      have e1 : wr.cell? ⟨bl, off + k * 2, none⟩ = some (.slice (A k) (N k) (C k)) := (hw.below hb) _ _ _ hF (h1 k hlt)
      have e2 : wr.cell? ⟨bl, off + k * 2 + 1, none⟩ = some (.int .i64 (B k)) := (hw.below hb) _ _ _ hF (h2 k hlt)
      have hlt0 : (0 : Int) ≤ (k : Int) := Int.natCast_nonneg _
      have hlt1 : (k : Int) < (args.length : Int) := by omega
      have Hbl : Hid (v.ownBlock ≠ some bl) := fun e => by have := (Hacc.out.base_le bl e).1; have := Keep.lt (hw _ _ _ hF (h1 k hlt)); omega
      have Hl : Hid ((args.take k).length = k) := by show _ = _; simp; omega
      have Hne : Hid (∀ q, q < w.heap.size + 3 → v.ownBlock ≠ some q) := fun q hq e => by have := (Hacc.out.base_le q e).1; omega
      go_wp2_with fail
      refine wp_region_noPanic (wp_region_need (S := fun w' => w'.cell? ⟨w.heap.size, 0, none⟩ = some (.slice (some ⟨bl, off, none⟩) args.length c) ∧ w'.cell? ⟨w.heap.size + 2, 0, none⟩ = some v ∧ w'.cell? ⟨bl, off + k * 2, none⟩ = some (.slice (A k) (N k) (C k)) ∧ w'.cell? ⟨bl, off + k * 2 + 1, none⟩ = some (.int .i64 (B k))) (by kernel_rfl) ?_)
      have hS : (wr.drew).cell? ⟨w.heap.size, 0, none⟩ = some (.slice (some ⟨bl, off, none⟩) args.length c) ∧ (wr.drew).cell? ⟨w.heap.size + 2, 0, none⟩ = some v ∧ (wr.drew).cell? ⟨bl, off + k * 2, none⟩ = some (.slice (A k) (N k) (C k)) ∧ (wr.drew).cell? ⟨bl, off + k * 2 + 1, none⟩ = some (.int .i64 (B k)) := ⟨c0, d0, e1, e2⟩
      refine wpN_take (i := 0) (v := ?v9) rfl (by kernel_rfl) (fun _ _ _ h => h) hS (Or.inl ⟨by rfl, ?hy9⟩) ?hr9
      case hy9 => (intro wS hSw; (try dsimp only at hSw); go_simp; (try with_reducible rfl))
      try simp only [Act.put, List.setIfInBounds_toArray, List.set_cons_zero, List.set_cons_succ]
      refine wpN_take (i := 1) (v := ?v10) rfl (by kernel_rfl) (fun _ _ _ h => h) hS (Or.inl ⟨by rfl, ?hy10⟩) ?hr10
      case hy10 => (intro wS hSw; (try dsimp only at hSw); go_simp; (try with_reducible rfl))
      try simp only [Act.put, List.setIfInBounds_toArray, List.set_cons_zero, List.set_cons_succ]
      refine wpN_take (i := 2) (v := ?v11) rfl (by kernel_rfl) (fun _ _ _ h => h) hS (Or.inl ⟨by rfl, ?hy11⟩) ?hr11
      case hy11 => (intro wS hSw; (try dsimp only at hSw); go_simp; (try with_reducible rfl))
      try simp only [Act.put, List.setIfInBounds_toArray, List.set_cons_zero, List.set_cons_succ]
      refine wpN_take (i := 3) (v := ?v12) rfl (by kernel_rfl) (fun _ _ _ h => h) hS (Or.inl ⟨by rfl, ?hy12⟩) ?hr12
      case hy12 => (intro wS hSw; (try dsimp only at hSw); go_simp; (try with_reducible rfl))
      try simp only [Act.put, List.setIfInBounds_toArray, List.set_cons_zero, List.set_cons_succ]
      refine wpN_take (i := 4) (v := ?v13) rfl (by kernel_rfl) (fun _ _ _ h => h) hS (Or.inl ⟨by rfl, ?hy13⟩) ?hr13
      case hy13 => (intro wS hSw; (try dsimp only at hSw); go_simp; (try with_reducible rfl))
      try simp only [Act.put, List.setIfInBounds_toArray, List.set_cons_zero, List.set_cons_succ]
      refine wpN_take (i := 5) (v := ?v14) rfl (by kernel_rfl) (fun _ _ _ h => h) hS (Or.inl ⟨by rfl, ?hy14⟩) ?hr14
      case hy14 => (intro wS hSw; (try dsimp only at hSw); go_simp; (try with_reducible rfl))
      try simp only [Act.put, List.setIfInBounds_toArray, List.set_cons_zero, List.set_cons_succ]
      refine wpN_take (i := 6) (v := ?v15) rfl (by kernel_rfl) (fun _ _ _ h => h) hS (Or.inl ⟨by rfl, ?hy15⟩) ?hr15
      case hy15 => (intro wS hSw; (try dsimp only at hSw); go_simp; (try with_reducible rfl))
      try simp only [Act.put, List.setIfInBounds_toArray, List.set_cons_zero, List.set_cons_succ]
      refine wpN_step (i := 7) (by kernel_rfl) rfl (fun K hK => ?_)
      go_simp
      refine (Hih.out k hlt _ (Hsz.out k hlt) ((hw.below hb).drew)).mono ?_
      rintro e w1 ⟨s', b', rfl, hr1, hb1⟩
      have hK1 : Keep (fun q => v.ownBlock ≠ some q) wr w1 := ((Keep.refl _ _).drew).below hb1
      have hS : (w1).cell? ⟨w.heap.size, 0, none⟩ = some (.slice (some ⟨bl, off, none⟩) args.length c) ∧ (w1).cell? ⟨w.heap.size + 2, 0, none⟩ = some v ∧ (w1).cell? ⟨bl, off + k * 2, none⟩ = some (.slice (A k) (N k) (C k)) ∧ (w1).cell? ⟨bl, off + k * 2 + 1, none⟩ = some (.int .i64 (B k)) := ⟨(Blk.below (w := wr.drew) hbox hb1).cell rfl, (Blk.below (w := wr.drew) hout hb1).cell rfl, hK1 _ _ _ Hbl.out e1, hK1 _ _ _ Hbl.out e2⟩
      refine hK.out _ _ (fun _ => hS) ?_
      clear hK K
      try simp only [Act.put, List.setIfInBounds_toArray, List.set_cons_zero, List.set_cons_succ]
      refine wpN_step (i := 8) (by kernel_rfl) rfl (fun K hK => ?_)
      go_simp
      have hS : (w1.alloc (.cells #[s', b'] 26)).cell? ⟨w.heap.size, 0, none⟩ = some (.slice (some ⟨bl, off, none⟩) args.length c) ∧ (w1.alloc (.cells #[s', b'] 26)).cell? ⟨w.heap.size + 2, 0, none⟩ = some v ∧ (w1.alloc (.cells #[s', b'] 26)).cell? ⟨bl, off + k * 2, none⟩ = some (.slice (A k) (N k) (C k)) ∧ (w1.alloc (.cells #[s', b'] 26)).cell? ⟨bl, off + k * 2 + 1, none⟩ = some (.int .i64 (B k)) := ⟨((Blk.below (w := wr.drew) hbox hb1).alloc _).cell rfl, ((Blk.below (w := wr.drew) hout hb1).alloc _).cell rfl, (hK1.alloc _) _ _ _ Hbl.out e1, (hK1.alloc _) _ _ _ Hbl.out e2⟩
      refine hK.out _ _ (fun _ => hS) ?_
      clear hK K
      try simp only [Act.put, List.setIfInBounds_toArray, List.set_cons_zero, List.set_cons_succ]
      refine wpN_step (i := 9) (by kernel_rfl) rfl (fun K hK => ?_)
      refine step_push rpTy (by decide) (by rfl) _ _ _ (by rfl) (w.heap.size + 3) 26 i0 _ 32 Try.underlying24 hi0 hz0 hz1 hz2 rfl (by decide)
             (fun q => w.heap.size + 3 ≤ q) v (args.take k) (by rfl) (((Hacc.out.drew).below hb1).alloc _) (by rw [Hl.out]; omega)
             w1.heap.size _ [s', b'] args[k] (by rfl) (heap_alloc_new _ _) ⟨_, _, rfl, (hr1.weaken (fun q _ hq => ⟨Nat.le_trans (show w.heap.size + 3 ≤ wr.drew.heap.size from hsz) hq, fun e => by have := (Hacc.out.base_le q e).2; exact absurd this (Nat.not_lt.2 hq)⟩)).keep ((Keep.refl _ _).alloc _)⟩ (by have := hb1.size; simp at this ⊢; omega) ?_
      intro gg cap w2 hacc2 hgrow hat hlt2
      have hK2 : Keep (fun q => v.ownBlock ≠ some q) wr w2 := (hK1.alloc _).grown hgrow (fun _ hr hf => hf hr)
      have o2 := hout.push hb1 hgrow (Hne.out _ (by omega))
      have o1 := hres.push hb1 hgrow (Hne.out _ (by omega))
      have o0 := hbox.push hb1 hgrow (Hne.out _ (by omega))
      have hS : (w2).cell? ⟨w.heap.size, 0, none⟩ = some (.slice (some ⟨bl, off, none⟩) args.length c) ∧ (w2).cell? ⟨w.heap.size + 2, 0, none⟩ = some v ∧ (w2).cell? ⟨bl, off + k * 2, none⟩ = some (.slice (A k) (N k) (C k)) ∧ (w2).cell? ⟨bl, off + k * 2 + 1, none⟩ = some (.int .i64 (B k)) := ⟨o0.cell (i := 0) rfl, o2.cell (i := 0) rfl, hK2 _ _ _ Hbl.out e1, hK2 _ _ _ Hbl.out e2⟩
      have p2 := o2.free 0
      have Hacc2 := Lib.hid hacc2; clear hacc2
      refine hK.out _ _ (fun _ => hS) ?_
      clear hK K
      try simp only [Act.put, List.setIfInBounds_toArray, List.set_cons_zero, List.set_cons_succ]
      refine wpN_take (i := 10) (v := ?v16) rfl (by kernel_rfl) (fun _ _ _ h => h) hS (Or.inl ⟨by rfl, ?hy16⟩) ?hr16
      case hy16 => (intro wS hSw; (try dsimp only at hSw); go_simp; (try with_reducible rfl))
      try simp only [Act.put, List.setIfInBounds_toArray, List.set_cons_zero, List.set_cons_succ]
      refine wpN_step (i := 11) (by kernel_rfl) rfl (fun K hK => ?_)
      go_simp
      refine hK.out _ _ (fun h => absurd h (by decide)) ?_
      clear hK K
      try simp only [Act.put, List.setIfInBounds_toArray, List.set_cons_zero, List.set_cons_succ]
      refine wpN_done (by kernel_rfl) ?_
      refine NoPanic.normal ?_
      go_wp2_with fail
      refine ⟨⟨k + 1, _, by go_num, by omega, (below_push hb (by omega) hb1 hgrow (fun q hq => by have := (Hacc.out.base_le q hq).1; omega)).setCell (by simp; omega) _, o0.far _ _ (by simp; omega), o1.far _ _ (by simp), o2.set 0 _, ?_⟩, by simp [intOf]; omega⟩
      have h := Hacc2.out
      rw [Hl.out, ← List.take_succ_eq_append_getElem hlt] at h
      exact h.setCell _ _ (by simp) (by simp)
    · obtain ⟨va, vc, hv⟩ := Hacc.out.len_shape
      rw [List.length_take, Nat.min_eq_left hk] at hv
      subst hv
      have d1 : wr.cell? ⟨w.heap.size + 2, 1, none⟩ = some (.int .i64 b) := hout.cell rfl
      have r0 : wr.cell? ⟨w.heap.size + 1, 0, none⟩ = some (.slice none 0 0) := hres.cell rfl
      have r1 : wr.cell? ⟨w.heap.size + 1, 1, none⟩ = some (.int .i64 0) := hres.cell rfl
      have f0 := hres.free 0
      have f1 := hres.free 1
      go_wp2_with fail
      refine bodyPost_ret (v := .agg #[.slice va k vc, .int .i64 b]) (by simp [results, Try.results41, go_sem, r0, r1]) rfl ?_
      have hkn : k = args.length := by omega
      refine ⟨_, _, rfl, ?_, (hb.setCell (by simp) _).setCell (by simp) _⟩
      have hF : ∀ q, w.heap.size + 3 ≤ q → q ≠ w.heap.size + 1 := fun q h => by omega
      have h := (Hacc.out.setCell ⟨w.heap.size + 1, 0, none⟩ (.slice va k vc) (by simp) (by simp)).setCell ⟨w.heap.size + 1, 1, none⟩ (.int .i64 b) (by simp) (by simp)
      rw [List.take_of_length_le (by omega)] at h
      exact isTy_mk (h.sl (F' := fun q => w.heap.size ≤ q) (fun q _ hq => by omega) (fun q hq => by omega)) b
end Go.Proofs.Ytejpgifofkiofaa

namespace Go.Proofs.Ytejpgifofkiofaa
open Go.RowKit Go.Shelf
attribute [local go_sem] Oper.semAt_some

theorem room_none {F : Fence} (hd : F.depth = none) (k : Nat) : F.room k := fun d h => by rw [hd] at h; cases h
theorem round_any {F : Fence} (hd : F.depth = none) {m m' : Nat} {P : Program} {l : Nat} {f : FuncId} {tmps : Array Value} {assign body : Code} {w : World} {R : Ending → World → Prop}
    (h : RoundIn F m P l f tmps assign body w R) : RoundIn F m' P l f tmps assign body w R := ⟨h.1, fun c cs _ => h.2 c cs (room_none hd _)⟩
theorem yield_any {F : Fence} (hd : F.depth = none) {m : Nat} (m' : Nat) {P : Program} {l : Nat} {args : Array Value} {W : World} {R : Ending → World → Prop} (h : YieldAt F m P l args W R) : YieldAt F m' P l args W R := by
  obtain ⟨fn, tmps, assign, body, hy, hR⟩ := h
  exact ⟨fn, tmps, assign, body, hy, round_any hd hR⟩

/-- blocks of cells that lie in G are as they were -/
structure KeepC (G : Nat → Prop) (A B : World) : Prop where
  size : A.heap.size ≤ B.heap.size
  cells : ∀ k cs t fr, G k → A.heap[k]? = some (.cells cs t fr) → B.heap[k]? = some (.cells cs t fr)
namespace KeepC
variable {G : Nat → Prop} {A B C : World}
theorem refl (G : Nat → Prop) (A : World) : KeepC G A A := ⟨Nat.le_refl _, fun _ _ _ _ _ h => h⟩
theorem trans (h : KeepC G A B) (h' : KeepC G B C) : KeepC G A C := ⟨Nat.le_trans h.size h'.size, fun k cs t fr hk hc => h'.cells k cs t fr hk (h.cells k cs t fr hk hc)⟩
theorem below (h : KeepC G A B) (hb : Below B.heap.size B C) : KeepC G A C := h.trans ⟨hb.size, fun k _ _ _ _ hc => (hb.block k (Array.getElem?_eq_some_iff.1 hc).1).trans hc⟩
theorem alloc (h : KeepC G A B) (o : Obj) : KeepC G A (B.alloc o) := h.below ((Below.refl _ _).alloc (Nat.le_refl _) _)
theorem setCell (h : KeepC G A B) (p : Addr) (u : Value) (hp : ¬ G p.block) : KeepC G A (B.setCell p u) :=
  h.trans ⟨by simp, fun k cs t fr hk hc => (Below.heap_setCell _ _ _ _ (fun e => hp (e ▸ hk))).trans hc⟩
theorem putObj (G : Nat → Prop) (W : World) (l : Nat) (o o' : Obj) (hl : W.heap[l]? = some o) (ho : o.isCells = false) : KeepC G W (W.putObj l o') :=
  ⟨by simp, fun k cs t fr _ hc => by
    have hne : k ≠ l := fun e => by subst e; rw [hl] at hc; cases hc; simp [Obj.isCells] at ho
    exact (World.putObj_heap_other hne).trans hc⟩
theorem keep {F : Nat → Prop} (h : KeepC G A B) (hF : ∀ k, F k → k < A.heap.size → G k) : Keep F A B := fun k o v hk hv => by
  have hlt := Keep.lt hv
  simp only [World.cell?] at hv ⊢
  cases hc : A.heap[k]? with
  | none => rw [hc] at hv; simp at hv
  | some x =>
    cases x with
    | cells cs t fr => rw [h.cells k cs t fr (hF k hk hlt) hc]; rw [hc] at hv; exact hv
    | _ => rw [hc] at hv; simp at hv
theorem keep' {F : Nat → Prop} {w0 : World} (h : KeepC G A B) (hw : Keep F w0 A) (hF : ∀ k, F k → k < w0.heap.size → G k) : Keep F w0 B := fun k o v hk hv =>
  (h.keep (F := fun q => F q ∧ q < w0.heap.size) fun q hq _ => hF q hq.1 hq.2) k o v ⟨hk, Keep.lt hv⟩ (hw k o v hk hv)
theorem blk (h : KeepC G A B) {n : Nat} {cs : Array Value} {t : TypeId} (hb : Blk A n cs t) (hn : G n) : Blk B n cs t := h.cells n cs t (0, 0) hn hb
end KeepC

namespace Ty
mutual
/-- a type and those within, each ahead of its arguments', with their depths -/
def pre : Ty → Nat → List (Nat × Ty)
  | .mk l b, d => (d, .mk l b) :: pres l (d + 1)
def pres : List Ty → Nat → List (Nat × Ty)
  | [], _ => []
  | t :: l, d => pre t d ++ pres l d
end
theorem pres_append (l r : List Ty) (d : Nat) : pres (l ++ r) d = pres l d ++ pres r d := by
  induction l with
  | nil => simp [pres]
  | cons t l ih => simp [pres, ih]
theorem pres_take (l : List Ty) (i d : Nat) (h : i < l.length) : pres (l.take (i + 1)) d = pres (l.take i) d ++ pre l[i] d := by
  rw [List.take_succ_eq_append_getElem h, pres_append]; simp [pres]
theorem pres_take_le (l : List Ty) (i d : Nat) : pres (l.take i) d <+: pres l d := by
  conv => rhs; rw [← List.take_append_drop i l]
  rw [pres_append]; exact List.prefix_append _ _
theorem pre_length (t : Ty) : ∀ d, (pre t d).length = t.size := by
  induction t using Ty.ind with
  | h args base ih =>
    intro d
    have : ∀ l : List Ty, (∀ t ∈ l, ∀ d, (pre t d).length = t.size) → ∀ d, (pres l d).length = sizes l := by
      intro l
      induction l with
      | nil => intro _ d; simp [pres, sizes]
      | cons t l ih2 => intro h d; simp [pres, sizes, h t (by simp) d, ih2 (fun t ht => h t (by simp [ht])) d]
    simp [pre, size, this args ih (d + 1)]
theorem pres_length (l : List Ty) (d : Nat) : (pres l d).length = sizes l := by
  induction l with
  | nil => simp [pres, sizes]
  | cons t l ih => simp [pres, sizes, pre_length, ih]
end Ty

/-- what a loop over kind.Each is handed: a depth and a type that lies in memory -/
structure Hit (F : Nat → Prop) (w : World) where
  d : Nat
  a : Option Addr
  n : Nat
  c : Nat
  b : Int
  t : Ty
  ok : IsTy F w (.slice a n c) (.int .i64 b) t
def Hit.key {F : Nat → Prop} {w : World} (x : Hit F w) : Nat × Ty := (x.d, x.t)
def Hit.enc {F : Nat → Prop} {w : World} (x : Hit F w) : Array Value := #[.int .i64 x.d, .agg #[.slice x.a x.n x.c, .int .i64 x.b]]

def DownPost {F : Nat → Prop} {w0 : World} (G : Nat → Prop) (J Jx : List (Hit F w0) → World → Prop) (pre : List (Hit F w0)) (l : List (Nat × Ty)) (W : World) (e : Ending) (W' : World) : Prop :=
  (e = .returned (.bool true) ∧ KeepC G W W' ∧ ∃ xs, xs.map Hit.key = l ∧ J (pre ++ xs) W') ∨ (e = .returned (.bool false) ∧ ∃ xs, xs.map Hit.key <+: l ∧ Jx (pre ++ xs) W')

set_option maxRecDepth 100000 in
set_option maxHeartbeats 1000000 in
theorem down_k {F : Nat → Prop} {w0 : World} (G : Nat → Prop) (hGF : ∀ k, F k → k < w0.heap.size → G k) (l N : Nat) (hN0 : N ≤ 1000000) (J Jx : List (Hit F w0) → World → Prop) (hJ : ∀ p W o, J p W → J p (W.alloc o))
    (hY : ∀ m pre x W, J pre W → pre.length < N → YieldAt Fence.wide m Try.prog l (Hit.enc x) W fun e W' =>
      (e = .returned (.bool true) ∧ J (pre ++ [x]) W' ∧ KeepC G W W') ∨ (e = .returned (.bool false) ∧ Jx (pre ++ [x]) W'))
    {s b : Value} {t : Ty} (ht : IsTy F w0 s b t) : ∀ (n d : Nat) (di : Int) (pre : List (Hit F w0)) (W : World), di = d → (∀ k, W.heap.size ≤ k → G k) → Keep F w0 W → J pre W → pre.length + t.size ≤ N → d + t.depth ≤ 1000000 →
      CallsIn Fence.wide n Try.prog 114 #[.agg #[s, b], .int .i64 di, .func (.yield l) #[] #[]] W (DownPost G J Jx pre (t.pre d) W) := by
  induction ht with
  | mk a n c b args bl off A N' C B hn hm ha h1 h2 h3 ih =>
  intro nn d di pre W hdi hG hw hJ0 hN hd
  subst hdi
  have ht : IsTy F w0 (.slice a n c) (.int .i64 b) (.mk args b) := IsTy.mk a n c b args bl off A N' C B hn hm ha h1 h2 h3
  clear h3 hm
  subst hn
  have hdd : ∀ k : Nat, (Fence.wide.depth.isSome = true → 1 ≤ k) := fun k h => by cases h
  have hlen : args.length ≤ 1000000 := by have := Ty.length_lt (l := args) (b := b); omega
  obtain ⟨fn, tmps, assign, body, hy, hR⟩ := hY (nn - 1) pre ⟨d, _, _, _, _, _, ht⟩ (W.alloc (.cells #[.slice a args.length c, .int .i64 b] 40)) (hJ _ _ _ hJ0) (by have := Ty.size_pos (.mk args b); omega)
  dsimp only [Hit.enc] at hy
  refine callsIn_of_wp Try.func114 rfl trivial ?_ rfl
  simp only [Try.ntmps114, List.size_toArray, List.length_cons, List.length_nil, Nat.reduceAdd, Nat.reduceSub, Array.replicate_succ, Array.replicate_zero, List.push_toArray, List.append_toArray, List.nil_append, List.cons_append]
  gi_wp2_with fail
  refine ⟨hdd _, hR.mono ?_⟩
  rintro e W1 (⟨rfl, hJ1, hk1⟩ | ⟨rfl, hx1⟩)
  rotate_left
  · gi_wp2_with fail
    go_ret
    exact .inr ⟨rfl, [⟨d, _, _, _, _, _, ht⟩], ⟨Ty.pres args (d + 1), by simp [Hit.key, Ty.pre]⟩, hx1⟩
  have hk0 : KeepC G W W1 := ((KeepC.refl G W).alloc _).trans hk1
  have hbox : Blk W1 W.heap.size #[.slice a args.length c, .int .i64 b] 40 := hk1.blk (Blk.new _ _ _ rfl) (hG _ (Nat.le_refl _))
  have c0 : W1.cell? ⟨W.heap.size, 0, none⟩ = some (.slice a args.length c) := hbox.cell rfl
  have Hih := Lib.hid ih; clear ih
  have hG' := Lib.hid hG; clear hG
  have hN' := Lib.hid hN; clear hN
  have hd' := Lib.hid hd; clear hd
  have Ht := Lib.hid ht
  have hJ1' := Lib.hid hJ1
  clear hR hy hY
  gi_wp2_with fail
  gi_loopw [8, 17] (fun _ i wr => ∃ (k : Nat) (xs : List (Hit F w0)), i = .int .i64 k ∧ k ≤ args.length ∧ Hid (xs.map Hit.key = Ty.pres (args.take k) (d + 1)) ∧ J (pre ++ [⟨d, _, _, _, _, _, Ht.out⟩] ++ xs) wr ∧ KeepC G W wr) (fun _ i _ => args.length - (intOf i).toNat)
  case atStart => exact ⟨0, [], rfl, by omega, by simp [Hid, Ty.pres], by simpa using hJ1, hk0⟩
  case round =>
    obtain ⟨k, xs, rfl, hk, hxs, hJr, hkr⟩ := hrel
    have Hkr := Lib.hid hkr
    have HJr := Lib.hid hJr; clear hJr
    have hsz := hkr.size
    by_cases hlt : k < args.length
    · obtain ⟨rfl, hF⟩ := ha (by omega)
      have hKp : Keep F w0 wr := hkr.keep' hw hGF
      have e1 : wr.cell? ⟨bl, off + k * 2, none⟩ = some (.slice (A k) (N' k) (C k)) := hKp _ _ _ hF (h1 k hlt)
      have e2 : wr.cell? ⟨bl, off + k * 2 + 1, none⟩ = some (.int .i64 (B k)) := hKp _ _ _ hF (h2 k hlt)
      have hdb : (d : Int) ≤ 1000000 := by have := hd'.out; omega
      have hs1 := Lib.hid (Ty.sizes_take args k hlt)
      have hs2 := Lib.hid (Ty.sizes_take_le args (k + 1))
      have hl : Hid (xs.length = Ty.sizes (args.take k)) := by
        show _ = _
        have := congrArg List.length hxs.out
        rw [List.length_map] at this
        rw [this, Ty.pres_length]
      gi_wp2_with fail
      refine ⟨trivial, hdd _, (Hih.out k hlt (nn - 1) (d + 1) ((d : Int) + 1) _ _ (by omega) (fun q hq => hG'.out q (by simp at hq; omega)) (hKp.alloc _) (hJ _ _ _ HJr.out) ?_ ?_).mono ?_⟩
      · have := hN'.out; have := hl.out; have := hs1.out; have := hs2.out; simp [Ty.size_eq] at *; omega
      · have := hd'.out; have := Ty.depth_get (b := b) k hlt; omega
      rintro e W2 (⟨rfl, hk2, ys, hys, hJ2⟩ | ⟨rfl, ys, hys, hx2⟩)
      · have HJ2 := Lib.hid hJ2; clear hJ2
        have Hys := Lib.hid hys; clear hys
        gi_wp2_with fail
        go_roundw
        case rel => exact ⟨k + 1, xs ++ ys, by go_num, by omega, by show _ = _; rw [List.map_append, hxs.out, Hys.out, Ty.pres_take _ _ _ hlt], by rw [← List.append_assoc]; exact HJ2.out, (Hkr.out.alloc _).trans hk2⟩
        case measure => simp [intOf]; omega
      · have Hys := Lib.hid hys; clear hys
        have Hx2 := Lib.hid hx2; clear hx2
        gi_wp2_with fail
        go_ret
        refine .inr ⟨rfl, ⟨d, _, _, _, _, _, Ht.out⟩ :: (xs ++ ys), ?_, by simpa using Hx2.out⟩
        obtain ⟨r, hr⟩ := Hys.out
        have hp := Ty.pres_take args k (d + 1) hlt
        rw [← hr] at hp
        obtain ⟨q, hq⟩ := Ty.pres_take_le args (k + 1) (d + 1)
        refine ⟨r ++ q, ?_⟩
        simp only [Ty.pre, List.map_cons, List.map_append, Hit.key, List.cons_append]
        rw [← hq, hp, ← hxs.out]
        simp [Hit.key, Function.comp_def]
    · gi_wp2_with fail
      go_ret
      refine .inl ⟨rfl, Hkr.out, ⟨d, _, _, _, _, _, Ht.out⟩ :: xs, ?_, by simpa using HJr.out⟩
      have h := hxs.out
      rw [List.take_of_length_le (by omega)] at h
      simp [Ty.pre, Hit.key, ← h]

/-- the closure that kind.Each hands back -/
theorem each1_k {F : Nat → Prop} {w0 : World} (G : Nat → Prop) (hGF : ∀ k, F k → k < w0.heap.size → G k) (l : Nat) (J Jx : List (Hit F w0) → World → Prop) (hJ : ∀ p W o, J p W → J p (W.alloc o))
    {s b : Value} {t : Ty} (ht : IsTy F w0 s b t) (hsz : t.size ≤ 500000) (n : Nat)
    (hY : ∀ pre x W, J pre W → pre.length < t.size → YieldAt Fence.wide (n - 1) Try.prog l (Hit.enc x) W fun e W' =>
      (e = .returned (.bool true) ∧ J (pre ++ [x]) W' ∧ KeepC G W W') ∨ (e = .returned (.bool false) ∧ Jx (pre ++ [x]) W'))
    (W : World) (hG : ∀ k, W.heap.size ≤ k → G k) (hw : Keep F w0 W) (Bt : Nat) (c0 : W.cell? ⟨Bt, 0, none⟩ = some s) (c1 : W.cell? ⟨Bt, 1, none⟩ = some b) (h0 : J [] W) :
    CallsIn Fence.wide n Try.prog 113 #[.func (.yield l) #[] #[], .pointer (some ⟨Bt, 0, none⟩)] W fun e W' => (∃ v, e = .returned v) ∧
      ((∃ ys, List.map Hit.key ys = t.pre 1 ∧ J ys W') ∨ (∃ pre, List.map Hit.key pre <+: t.pre 1 ∧ Jx pre W')) := by
  have hdd : ∀ k : Nat, (Fence.wide.depth.isSome = true → 1 ≤ k) := fun k h => by cases h
  have hp := Lib.hid (down_k G hGF l t.size (by omega) J Jx hJ (fun m pre x W hj hl => yield_any rfl m (hY pre x W hj hl)) ht (n - 1) 1 1 [] W rfl hG hw h0 (by simp) (by have := Ty.depth_le_size t; omega))
  have hG' := Lib.hid hG; clear hG hY
  obtain ⟨a, c, rfl, rfl⟩ := ht.shape
  refine callsIn_of_wp Try.func113 rfl trivial ?_ rfl
  simp only [Try.ntmps113, List.size_toArray, List.length_cons, List.length_nil, Nat.reduceAdd, Nat.reduceSub, Array.replicate_succ, Array.replicate_zero, List.push_toArray, List.append_toArray, List.nil_append, List.cons_append]
  gi_wp2_with fail
  refine ⟨trivial, hdd _, hp.out.mono ?_⟩
  rintro e W1 (⟨rfl, hk, ys, hys, hJ1⟩ | ⟨rfl, ys, hys, hx⟩)
  · have A1 := Lib.hid hys; clear hys
    gi_wp2_with fail
    go_end0
    exact ⟨⟨_, rfl⟩, .inl ⟨ys, A1.out, by simpa using hJ1⟩⟩
  · have A1 := Lib.hid hys; clear hys
    gi_wp2_with fail
    go_end0
    exact ⟨⟨_, rfl⟩, .inr ⟨ys, A1.out, by simpa using hx⟩⟩

theorem each_stops {F : Nat → Prop} {w0 : World} (G : Nat → Prop) (hGF : ∀ k, F k → k < w0.heap.size → G k) {s b : Value} {t : Ty} (ht : IsTy F w0 s b t) (hsz : t.size ≤ 500000) (n : Nat)
    (w : World) (hG : ∀ k, w.heap.size ≤ k → G k) (hw : Keep F w0 w) (Bt : Nat) (hB : Blk w Bt #[s, b] 40) :
    SeqStopsK Fence.wide n Try.prog 113 #[.pointer (some ⟨Bt, 0, none⟩)] (Hit.enc (F := F) (w := w0)) (KeepC G) (fun ys => ys.map Hit.key = t.pre 1) (fun p => p.map Hit.key <+: t.pre 1) t.size w :=
  fun l J Jx W hW hJ _ hY h0 => by
    have hB' := hB.below hW
    exact each1_k G hGF l J Jx (fun p W' o hj => hJ p W' _ none hj (World.grownBy_alloc W' o none) (fun r e => by cases e)) ht hsz n hY W (fun k hk => hG k (Nat.le_trans hW.size hk)) (hw.below hW) Bt (hB'.cell rfl) (hB'.cell rfl) h0

theorem each_k (s b : Value) (n : Nat) (w : World) (hs : ∃ a m c, s = .slice a m c) (hb : ∃ i, b = .int .i64 i) :
    CallsIn Fence.wide n Try.prog 71 #[.agg #[s, b]] w fun e w' => e = .returned (.func (.func 113) #[] #[.pointer (some ⟨w.heap.size, 0, none⟩)]) ∧ w' = w.alloc (.cells #[s, b] 40) := by
  obtain ⟨a, m, c, rfl⟩ := hs
  obtain ⟨i, rfl⟩ := hb
  refine callsIn_of_wp Try.func71 rfl trivial ?_ rfl
  simp only [Try.ntmps71, List.size_toArray, List.length_cons, List.length_nil, Nat.reduceAdd, Nat.reduceSub, Array.replicate_succ, Array.replicate_zero, List.push_toArray, List.append_toArray, List.nil_append, List.cons_append]
  gi_wp2_with fail
  go_ret
  exact ⟨rfl, rfl⟩
end Go.Proofs.Ytejpgifofkiofaa

