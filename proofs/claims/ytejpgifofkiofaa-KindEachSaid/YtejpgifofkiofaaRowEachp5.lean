/-
  The reference's count of a term's terms and types. A type, copied cell by cell: To, Of of the laws. A type's order, its copy, the type of a base and arguments: what the program's functions hand back. slices.Grow from nil and slices.Concat of two slices of types.
-/
import Derived.Test.YtejpgifofkiofaaRowEachp4
import Derived.Test.YtejpgifofkiofaaRowEachp2
import Derived.Test.YtejpgifofkiofaaRowEachp1
import Derived.Test.YtejpgifofkiofaaProg
import Derived.Lib.Hide
import Derived.Deep.RegionHeld3
import Derived.Deep.DrawnRows
set_option linter.unusedVariables false
set_option linter.unusedSimpArgs false
namespace Go.Proofs.Ytejpgifofkiofaa
open Go.RowKit

def fewOk6 (t : Tm) (most depth : Int) (r : Int) : Prop :=
  1 ≤ r ∧ r ≤ (most + 1) * (max depth 0 + 1) ∧ (r ≤ most → (t.full : Int) ≤ r ∧ (t.depth : Int) ≤ depth)
def FewPost6 (t : Tm) (most depth : Int) (w : World) (e : Ending) (w' : World) : Prop := ∃ r : Int, fewOk6 t most depth r ∧ e = .returned (.int .i64 r) ∧ Below w.heap.size w w'

theorem Tm.arg_lt {l : List Tm} {b : List Ty} {k i : Int} (j : Nat) (h : j < l.length) : l[j].size < (Tm.mk b k i l).size := by
  have := Tm.size_mem (List.getElem_mem h); rw [Tm.size_eq]; omega

theorem of_retB' {p : Prop} {w : World} {e : Ending} {w' : World} (h : RetB p w e w') : ∃ r : Bool, Hid (r = true ↔ p) ∧ e = .returned (.bool r) ∧ Below w.heap.size w w' := h

set_option maxRecDepth 100000 in
set_option maxHeartbeats 1000000 in
theorem few6_any {F : Nat → Prop} {w0 : World} {b k i a : Value} {t : Tm} (ht : IsTm F w0 b k i a t) : ∀ (most depth : Int) (w : World), 1 ≤ most → most ≤ 1000 → depth ≤ 1000 → -1000 ≤ depth →
    Keep F w0 w →
    Calls Try.prog 118 #[.agg #[b, k, i, a], .int .i64 most, .int .i64 depth] w (FewPost6 t most depth w) := by
  induction ht with
  | mk bv k i0 a n c binds args bl off PA A PN PC N C K I hb hn hm ha h1 h2 h3 h4 h5 ih =>
  intro most depth w hm0 hm1 hd1 hd0 hw
  obtain ⟨pa1, pc, rfl⟩ := hb.shape
  unfold maxLen at hm
  by_cases hd : depth ≤ 0
  · skip
    go_enter Try.func118, Try.ntmps118
    go_wp2_with fail
    go_ret
    refine ⟨_, ?_, rfl, (Below.refl _ _).alloc (Nat.le_refl _) _⟩
    refine ⟨by omega, ?_, fun h => by omega⟩
    rw [show max depth 0 = 0 from by omega]; omega
  · have hd' : 1 ≤ depth := by omega
    obtain ⟨_, hbm, bl1, off1, A1, N1, C1, B1, hb1, hb2, hb3, hb4⟩ := sl_cells' hb
    unfold maxLen at hbm
    subst hn
    have Hb4 := Lib.hid hb4; clear hb4 hb
    clear h5
    have Hih := Lib.hid ih; clear ih
    have hmul : Hid ((most + 1) * max (depth - 1) 0 + (most + 1) = (most + 1) * (max depth 0) ∧ (most + 1) ≤ (most + 1) * max depth 0 ∧ (most + 1) * max depth 0 ≤ 1001 * 1000 ∧ (most + 1) * (max depth 0 + 1) = (most + 1) * max depth 0 + (most + 1) ∧ (most + 1) * (max (depth - 1) 0 + 1) = (most + 1) * max (depth - 1) 0 + (most + 1)) := by
      have e : (most + 1) * max (depth - 1) 0 + (most + 1) = (most + 1) * (max depth 0) := by rw [show max depth 0 = max (depth - 1) 0 + 1 from by omega, Int.mul_add]; omega
      refine ⟨e, ?_, Int.mul_le_mul (by omega) (by omega) (by omega) (by omega), by rw [Int.mul_add]; omega, by rw [Int.mul_add]; omega⟩
      have : 0 ≤ (most + 1) * max (depth - 1) 0 := Int.mul_nonneg (by omega) (by omega)
      omega
    go_enter Try.func118, Try.ntmps118
    go_wp2_with fail
    go_loopw [7, 8] (fun x i wr => ∃ (j : Nat) (r : Int), i = .int .i64 j ∧ x = .int .i64 r ∧ j ≤ binds.length ∧ Hid (r = 1 + Ty.sizes (binds.take j)) ∧ 1 ≤ r ∧ r ≤ 2 * most ∧
      Below w.heap.size w wr ∧ Blk wr w.heap.size #[.slice pa1 binds.length pc, .int .i64 k, .int .i64 i0, .slice a args.length c] 29) (fun _ i _ => binds.length - (intOf i).toNat)
    case atStart =>
      exact ⟨0, 1, rfl, rfl, by omega, by show _ = _; simp [Ty.sizes], by omega, by omega, (Below.refl _ _).alloc (Nat.le_refl _) _, Blk.new _ _ _ rfl⟩
    case round =>
      obtain ⟨j, r, rfl, rfl, hj, hrel, hr1, hr2, hb, hbox⟩ := hrel
      have c0 : wr.cell? ⟨w.heap.size, 0, none⟩ = some (.slice pa1 binds.length pc) := hbox.cell rfl
      have c3 : wr.cell? ⟨w.heap.size, 3, none⟩ = some (.slice a args.length c) := hbox.cell rfl
      have hlt0 := hbox.lt
      by_cases hlt : j < binds.length
      · have hj0 : (0 : Int) ≤ (j : Int) := Int.natCast_nonneg _
        have i1 : (j : Int) < (binds.length : Int) := by omega
        by_cases hrm : r ≤ most
        · obtain ⟨hpa, hF⟩ := hb1 (by omega)
          subst hpa
          have e1 : wr.cell? ⟨bl1, off1 + j * 2, none⟩ = some (.slice (A1 j) (N1 j) (C1 j)) := (hw.below hb) _ _ _ hF (hb2 j hlt)
          have e2 : wr.cell? ⟨bl1, off1 + j * 2 + 1, none⟩ = some (.int .i64 (B1 j)) := (hw.below hb) _ _ _ hF (hb3 j hlt)
          have Hsz := Lib.hid (Ty.sizes_take binds j hlt)
          go_wp2_with fail
          refine (Few_any ((Hb4.out j hlt).keep (hw.below hb)) most depth hm0 hm1 hd1 (by omega)).mono ?_
          intro e w1 h
          obtain ⟨q, Hq, rfl, hbq⟩ := of_retB' h
          clear h
          have hbox1 := hbox.below hbq
          have hB1 := hb.trans (hbq.mono hb.size)
          have d0 : w1.cell? ⟨w.heap.size, 0, none⟩ = some (.slice (some ⟨bl1, off1, none⟩) binds.length pc) := hbox1.cell rfl
          cases q
          · go_wp2_with fail
            go_ret
            refine ⟨_, ⟨by omega, ?_, fun h => by omega⟩, rfl, hB1⟩
            have := hmul.out; omega
          · have Hq2 := Lib.hid (yes_of Hq.out)
            have f1 : w1.cell? ⟨bl1, off1 + j * 2, none⟩ = some (.slice (A1 j) (N1 j) (C1 j)) := (hw.below hB1) _ _ _ hF (hb2 j hlt)
            have f2 : w1.cell? ⟨bl1, off1 + j * 2 + 1, none⟩ = some (.int .i64 (B1 j)) := (hw.below hB1) _ _ _ hF (hb3 j hlt)
            clear Hq
            go_wp2_with fail
            refine (size_r (Hb4.out j hlt) w1 (by have := Hq2.out.1; omega) (hw.below hB1)).mono ?_
            rintro e w2 ⟨rfl, hb2'⟩
            have hsz : Hid ((binds[j].size : Int) ≤ most) := Hq2.out.1
            have hsz' : (binds[j].size : Int) ≤ 1000 := by have := hsz.out; omega
            have hsz0 : (0 : Int) ≤ (binds[j].size : Int) := Int.natCast_nonneg _
            go_wp2_with fail
            go_roundw
            case rel =>
              refine ⟨j + 1, _, by go_num, by go_num, by omega, ?_, by omega, by have := hsz.out; omega, hB1.trans (hb2'.mono hB1.size), hbox1.below hb2'⟩
              show _ = _
              have h1 := hrel.out; have h2 := Hsz.out
              omega
            case measure => simp [intOf]; omega
        · have hE : Hid (most < r) := by show _ < _; omega
          go_wp2_with fail
          go_loopw [7, 9] (fun x i wr => ∃ (j : Nat) (r : Int), i = .int .i64 j ∧ x = .int .i64 r ∧ j ≤ args.length ∧ Hid (r ≤ most → (1 + Ty.sizes binds + Tm.fulls (args.take j) : Int) ≤ r ∧ (Tm.depths (args.take j) : Int) + 1 ≤ depth) ∧ 1 ≤ r ∧ Hid (r ≤ (most + 1) * (max depth 0 + 1)) ∧
            Below w.heap.size w wr ∧ Blk wr w.heap.size #[.slice pa1 binds.length pc, .int .i64 k, .int .i64 i0, .slice a args.length c] 29) (fun _ i _ => args.length - (intOf i).toNat)
          case atStart => exact ⟨0, r, rfl, rfl, by omega, fun h => by have := hE.out; omega, hr1, by have := hmul.out; show _ ≤ _; omega, hb, hbox⟩
          case round =>
            clear hb hbox c0 c3 hlt0 hr1 hr2 hj
            obtain ⟨j, r, rfl, rfl, hj, hrel, hr1, hr2, hb, hbox⟩ := hrel
            have c0 : wr.cell? ⟨w.heap.size, 0, none⟩ = some (.slice pa1 binds.length pc) := hbox.cell rfl
            have c3 : wr.cell? ⟨w.heap.size, 3, none⟩ = some (.slice a args.length c) := hbox.cell rfl
            have hlt0 := hbox.lt
            have hrb : r ≤ 2000000 := by have := hmul.out; have := hr2.out; omega
            by_cases hlt : j < args.length
            · have hj0 : (0 : Int) ≤ (j : Int) := Int.natCast_nonneg _
              have i1 : (j : Int) < (args.length : Int) := by omega
              by_cases hrm : r ≤ most
              · obtain ⟨hqa, hF⟩ := ha (by omega)
                subst hqa
                have e1 := (hw.below hb) _ _ _ hF (h1 j hlt)
                have e2 := (hw.below hb) _ _ _ hF (h2 j hlt)
                have e3 := (hw.below hb) _ _ _ hF (h3 j hlt)
                have e4 := (hw.below hb) _ _ _ hF (h4 j hlt)
                have Hf := Lib.hid (Tm.fulls_take args j hlt)
                have Hdd := Lib.hid (Tm.depths_take args j hlt)
                go_wp2_with fail
                refine (Hih.out j hlt most (depth - 1) wr hm0 hm1 (by omega) (by omega) (hw.below hb)).mono ?_
                rintro e w1 ⟨r', hf, rfl, hb1'⟩
                have Hf' := Lib.hid hf; clear hf
                have hr' : 1 ≤ r' ∧ r' ≤ 3000000 := by have := hmul.out; have := Hf'.out.1; have := Hf'.out.2.1; omega
                obtain ⟨hr'1, hr'2⟩ := hr'
                go_wp2_with fail
                go_roundw
                case rel =>
                  refine ⟨j + 1, r + r', by go_num, rfl, by omega, ?_, by omega, ?_, hb.trans (hb1'.mono hb.size), hbox.below hb1'⟩
                  · intro h
                    have g1 := hrel.out (by omega); have g2 := Hf'.out.2.2 (by omega); have g3 := Hf.out; have g4 := Hdd.out
                    rw [g3, g4]
                    omega
                  · have := hmul.out; have := Hf'.out.2.1; show _ ≤ _; omega
                case measure => simp [intOf]; omega
              · have hE : Hid (most < r) := by show _ < _; omega
                go_wp2_with fail
                go_ret
                exact ⟨r, ⟨hr1, hr2.out, fun h => by have := hE.out; omega⟩, rfl, hb⟩
            · have hE : Hid (r ≤ most → ((Tm.mk binds k i0 args).full : Int) ≤ r ∧ ((Tm.mk binds k i0 args).depth : Int) ≤ depth) := fun h => by
                have g := hrel.out h
                rw [List.take_of_length_le (by omega)] at g
                rw [Tm.full_eq, Tm.depth_eq]; omega
              go_wp2_with fail
              go_ret
              exact ⟨r, ⟨hr1, hr2.out, hE.out⟩, rfl, hb⟩
      · have hE : Hid (r = 1 + Ty.sizes binds) := by
          have h := hrel.out
          rw [List.take_of_length_le (by omega)] at h
          exact h
        go_wp2_with fail
        go_loopw [7, 9] (fun x i wr => ∃ (j : Nat) (r : Int), i = .int .i64 j ∧ x = .int .i64 r ∧ j ≤ args.length ∧ Hid (r ≤ most → (1 + Ty.sizes binds + Tm.fulls (args.take j) : Int) ≤ r ∧ (Tm.depths (args.take j) : Int) + 1 ≤ depth) ∧ 1 ≤ r ∧ Hid (r ≤ (most + 1) * (max depth 0 + 1)) ∧
          Below w.heap.size w wr ∧ Blk wr w.heap.size #[.slice pa1 binds.length pc, .int .i64 k, .int .i64 i0, .slice a args.length c] 29) (fun _ i _ => args.length - (intOf i).toNat)
        case atStart => exact ⟨0, r, rfl, rfl, by omega, fun _ => by have := hE.out; simp [Tm.fulls, Tm.depths]; omega, hr1, by have := hmul.out; show _ ≤ _; omega, hb, hbox⟩
        case round =>
          clear hb hbox c0 c3 hlt0 hr1 hr2 hj
          obtain ⟨j, r, rfl, rfl, hj, hrel, hr1, hr2, hb, hbox⟩ := hrel
          have c0 : wr.cell? ⟨w.heap.size, 0, none⟩ = some (.slice pa1 binds.length pc) := hbox.cell rfl
          have c3 : wr.cell? ⟨w.heap.size, 3, none⟩ = some (.slice a args.length c) := hbox.cell rfl
          have hlt0 := hbox.lt
          have hrb : r ≤ 2000000 := by have := hmul.out; have := hr2.out; omega
          by_cases hlt : j < args.length
          · have hj0 : (0 : Int) ≤ (j : Int) := Int.natCast_nonneg _
            have i1 : (j : Int) < (args.length : Int) := by omega
            by_cases hrm : r ≤ most
            · obtain ⟨hqa, hF⟩ := ha (by omega)
              subst hqa
              have e1 := (hw.below hb) _ _ _ hF (h1 j hlt)
              have e2 := (hw.below hb) _ _ _ hF (h2 j hlt)
              have e3 := (hw.below hb) _ _ _ hF (h3 j hlt)
              have e4 := (hw.below hb) _ _ _ hF (h4 j hlt)
              have Hf := Lib.hid (Tm.fulls_take args j hlt)
              have Hdd := Lib.hid (Tm.depths_take args j hlt)
              go_wp2_with fail
              refine (Hih.out j hlt most (depth - 1) wr hm0 hm1 (by omega) (by omega) (hw.below hb)).mono ?_
              rintro e w1 ⟨r', hf, rfl, hb1'⟩
              have Hf' := Lib.hid hf; clear hf
              have hr' : 1 ≤ r' ∧ r' ≤ 3000000 := by have := hmul.out; have := Hf'.out.1; have := Hf'.out.2.1; omega
              obtain ⟨hr'1, hr'2⟩ := hr'
              go_wp2_with fail
              go_roundw
              case rel =>
                refine ⟨j + 1, r + r', by go_num, rfl, by omega, ?_, by omega, ?_, hb.trans (hb1'.mono hb.size), hbox.below hb1'⟩
                · intro h
                  have g1 := hrel.out (by omega); have g2 := Hf'.out.2.2 (by omega); have g3 := Hf.out; have g4 := Hdd.out
                  rw [g3, g4]
                  omega
                · have := hmul.out; have := Hf'.out.2.1; show _ ≤ _; omega
              case measure => simp [intOf]; omega
            · have hE : Hid (most < r) := by show _ < _; omega
              go_wp2_with fail
              go_ret
              exact ⟨r, ⟨hr1, hr2.out, fun h => by have := hE.out; omega⟩, rfl, hb⟩
          · have hE : Hid (r ≤ most → ((Tm.mk binds k i0 args).full : Int) ≤ r ∧ ((Tm.mk binds k i0 args).depth : Int) ≤ depth) := fun h => by
              have g := hrel.out h
              rw [List.take_of_length_le (by omega)] at g
              rw [Tm.full_eq, Tm.depth_eq]; omega
            go_wp2_with fail
            go_ret
            exact ⟨r, ⟨hr1, hr2.out, hE.out⟩, rfl, hb⟩
end Go.Proofs.Ytejpgifofkiofaa

namespace Go.Proofs.Ytejpgifofkiofaa
open Go.RowKit
attribute [local go_sem ↓] Go.wp_at_zero Go.wp_at_succ

theorem infoK : (Try.prog.info? 40).map (fun i => (i.zero, i.size, i.bytes)) = some (some (.agg #[.slice none 0 0, .int .i64 0]), 2, 32) := by kernel_rfl
theorem infoR : (Try.prog.info? 26).map (fun i => (i.zero, i.size, i.bytes)) = some (some (.agg #[.slice none 0 0, .int .i64 0]), 2, 32) := by kernel_rfl

def FreshTy (t : Ty) (w : World) (e : Ending) (w' : World) : Prop := ∃ s b, e = .returned (.agg #[s, b]) ∧ IsTy (fun k => w.heap.size ≤ k) w' s b t ∧ Below w.heap.size w w'

set_option maxRecDepth 100000 in
set_option maxHeartbeats 1600000 in
theorem to_any {F : Nat → Prop} {w0 : World} {s b : Value} {t : Ty} (ht : IsTy F w0 s b t) : ∀ (w : World), t.size ≤ 1000000 →
    Keep F w0 w →
    Calls Try.prog 18 #[.agg #[s, b]] w (FreshTy t w) := by
  induction ht with
  | mk a n c b args bl off A N C B hn hm ha h1 h2 h3 ih =>
  intro w hsize hw
  clear h3 hm
  subst hn
  have hlen : args.length ≤ 1000000 := by have := Ty.length_lt (l := args) (b := b); omega
  have Hsz : Hid (∀ i (h : i < args.length), args[i].size ≤ 1000000) := fun i h => by have := Ty.size_get (b := b) i h; omega
  have Hih := Lib.hid ih; clear ih hsize
  obtain ⟨i0, hi0, hz0, hz1, hz2⟩ := info_parts infoK
  go_enter Try.func18, Try.ntmps18
  go_wp2_with fail
  go_loopw [4] (fun i wr => ∃ (k : Nat) (v : Value), i = .int .i64 k ∧ k ≤ args.length ∧ 
      Below w.heap.size w wr ∧ Blk wr w.heap.size #[.slice a args.length c, .int .i64 b] 26 ∧ Blk wr (w.heap.size + 1) #[.slice none 0 0, .int .i64 0] 40 ∧ Blk wr (w.heap.size + 2) #[v, .int .i64 b] 40 ∧
      Acc rpTy 40 (w.heap.size + 3) (fun q => w.heap.size + 3 ≤ q) wr v (args.take k)) (fun i _ => args.length - (intOf i).toNat)
  case atStart => 
    exact ⟨0, _, rfl, by omega, (((Below.refl _ _).alloc (Nat.le_refl _) _).alloc (by simp) _).alloc (by simp; omega) _, ((Blk.new _ _ _ rfl).alloc _).alloc _, (Blk.new _ _ _ (by simp)).alloc _, Blk.new _ _ _ (by simp), Acc.nil _ _ _ _ _⟩
  case round =>
    obtain ⟨k, v, rfl, hk, hb, hbox, hres, hout, hacc⟩ := hrel
    have c0 : wr.cell? ⟨w.heap.size, 0, none⟩ = some (.slice a args.length c) := hbox.cell rfl
    have d0 : wr.cell? ⟨w.heap.size + 2, 0, none⟩ = some v := hout.cell rfl
    have hsz := hout.lt
    have Hacc := Lib.hid hacc; clear hacc
    by_cases hlt : k < args.length
    · obtain ⟨rfl, hF⟩ := ha (by omega)
      clear ha
      have e1 : wr.cell? ⟨bl, off + k * 2, none⟩ = some (.slice (A k) (N k) (C k)) := (hw.below hb) _ _ _ hF (h1 k hlt)
      have e2 : wr.cell? ⟨bl, off + k * 2 + 1, none⟩ = some (.int .i64 (B k)) := (hw.below hb) _ _ _ hF (h2 k hlt)
      have hlt0 : (0 : Int) ≤ (k : Int) := Int.natCast_nonneg _
      have hlt1 : (k : Int) < (args.length : Int) := by omega
      have Hbl : Hid (v.ownBlock ≠ some bl) := fun e => by have := (Hacc.out.base_le bl e).1; have := Keep.lt (hw _ _ _ hF (h1 k hlt)); omega
      have Hl : Hid ((args.take k).length = k) := by show _ = _; simp; omega
      have Hne : Hid (∀ q, q < w.heap.size + 3 → v.ownBlock ≠ some q) := fun q hq e => by have := (Hacc.out.base_le q e).1; omega
      go_wp2_with fail
      refine wp_region_noPanic (wp_region_need (S := fun w' => w'.cell? ⟨w.heap.size, 0, none⟩ = some (.slice (some ⟨bl, off, none⟩) args.length c) ∧ w'.cell? ⟨w.heap.size + 2, 0, none⟩ = some v ∧ w'.cell? ⟨bl, off + k * 2, none⟩ = some (.slice (A k) (N k) (C k)) ∧ w'.cell? ⟨bl, off + k * 2 + 1, none⟩ = some (.int .i64 (B k))) (by kernel_rfl) ?_)
      have hS : (wr.drew).cell? ⟨w.heap.size, 0, none⟩ = some (.slice (some ⟨bl, off, none⟩) args.length c) ∧ (wr.drew).cell? ⟨w.heap.size + 2, 0, none⟩ = some v ∧ (wr.drew).cell? ⟨bl, off + k * 2, none⟩ = some (.slice (A k) (N k) (C k)) ∧ (wr.drew).cell? ⟨bl, off + k * 2 + 1, none⟩ = some (.int .i64 (B k)) := ⟨c0, d0, e1, e2⟩
      refine wpN_take (i := 0) (v := ?v1) rfl (by kernel_rfl) (fun _ _ _ h => h) hS (Or.inl ⟨by rfl, ?hy1⟩) ?hr1
      case hy1 => (intro wS hSw; (try dsimp only at hSw); go_simp; (try with_reducible rfl))
      try simp only [Act.put, List.setIfInBounds_toArray, List.set_cons_zero, List.set_cons_succ]
      refine wpN_take (i := 1) (v := ?v2) rfl (by kernel_rfl) (fun _ _ _ h => h) hS (Or.inl ⟨by rfl, ?hy2⟩) ?hr2
      case hy2 => (intro wS hSw; (try dsimp only at hSw); go_simp; (try with_reducible rfl))
      try simp only [Act.put, List.setIfInBounds_toArray, List.set_cons_zero, List.set_cons_succ]
      refine wpN_take (i := 2) (v := ?v3) rfl (by kernel_rfl) (fun _ _ _ h => h) hS (Or.inl ⟨by rfl, ?hy3⟩) ?hr3
      case hy3 => (intro wS hSw; (try dsimp only at hSw); go_simp; (try with_reducible rfl))
      try simp only [Act.put, List.setIfInBounds_toArray, List.set_cons_zero, List.set_cons_succ]
      refine wpN_take (i := 3) (v := ?v4) rfl (by kernel_rfl) (fun _ _ _ h => h) hS (Or.inl ⟨by rfl, ?hy4⟩) ?hr4
      case hy4 => (intro wS hSw; (try dsimp only at hSw); go_simp; (try with_reducible rfl))
      try simp only [Act.put, List.setIfInBounds_toArray, List.set_cons_zero, List.set_cons_succ]
      refine wpN_take (i := 4) (v := ?v5) rfl (by kernel_rfl) (fun _ _ _ h => h) hS (Or.inl ⟨by rfl, ?hy5⟩) ?hr5
      case hy5 => (intro wS hSw; (try dsimp only at hSw); go_simp; (try with_reducible rfl))
      try simp only [Act.put, List.setIfInBounds_toArray, List.set_cons_zero, List.set_cons_succ]
      refine wpN_take (i := 5) (v := ?v6) rfl (by kernel_rfl) (fun _ _ _ h => h) hS (Or.inl ⟨by rfl, ?hy6⟩) ?hr6
      case hy6 => (intro wS hSw; (try dsimp only at hSw); go_simp; (try with_reducible rfl))
      try simp only [Act.put, List.setIfInBounds_toArray, List.set_cons_zero, List.set_cons_succ]
      refine wpN_take (i := 6) (v := ?v7) rfl (by kernel_rfl) (fun _ _ _ h => h) hS (Or.inl ⟨by rfl, ?hy7⟩) ?hr7
      case hy7 => (intro wS hSw; (try dsimp only at hSw); go_simp; (try with_reducible rfl))
      try simp only [Act.put, List.setIfInBounds_toArray, List.set_cons_zero, List.set_cons_succ]
      refine wpN_step (i := 7) (by kernel_rfl) rfl (fun K hK => ?_)
      go_simp
      refine (Hih.out k hlt _ (Hsz.out k hlt) ((hw.below hb).drew)).mono ?_
      rintro e w1 ⟨s', b', rfl, hr1, hb1⟩
      have hK1 : Keep (fun q => v.ownBlock ≠ some q) wr w1 := ((Keep.refl _ _).drew).below hb1
      have hS : (w1).cell? ⟨w.heap.size, 0, none⟩ = some (.slice (some ⟨bl, off, none⟩) args.length c) ∧ (w1).cell? ⟨w.heap.size + 2, 0, none⟩ = some v ∧ (w1).cell? ⟨bl, off + k * 2, none⟩ = some (.slice (A k) (N k) (C k)) ∧ (w1).cell? ⟨bl, off + k * 2 + 1, none⟩ = some (.int .i64 (B k)) := ⟨(Blk.below (w := wr.drew) hbox hb1).cell rfl, (Blk.below (w := wr.drew) hout hb1).cell rfl, hK1 _ _ _ Hbl.out e1, hK1 _ _ _ Hbl.out e2⟩
      refine hK.out _ _ (fun _ => hS) ?_
      clear hK K
      try simp only [Act.put, List.setIfInBounds_toArray, List.set_cons_zero, List.set_cons_succ]
      refine wpN_step (i := 8) (by kernel_rfl) rfl (fun K hK => ?_)
      go_simp
      have hS : (w1.alloc (.cells #[s', b'] 40)).cell? ⟨w.heap.size, 0, none⟩ = some (.slice (some ⟨bl, off, none⟩) args.length c) ∧ (w1.alloc (.cells #[s', b'] 40)).cell? ⟨w.heap.size + 2, 0, none⟩ = some v ∧ (w1.alloc (.cells #[s', b'] 40)).cell? ⟨bl, off + k * 2, none⟩ = some (.slice (A k) (N k) (C k)) ∧ (w1.alloc (.cells #[s', b'] 40)).cell? ⟨bl, off + k * 2 + 1, none⟩ = some (.int .i64 (B k)) := ⟨((Blk.below (w := wr.drew) hbox hb1).alloc _).cell rfl, ((Blk.below (w := wr.drew) hout hb1).alloc _).cell rfl, (hK1.alloc _) _ _ _ Hbl.out e1, (hK1.alloc _) _ _ _ Hbl.out e2⟩
      refine hK.out _ _ (fun _ => hS) ?_
      clear hK K
      try simp only [Act.put, List.setIfInBounds_toArray, List.set_cons_zero, List.set_cons_succ]
      refine wpN_step (i := 9) (by kernel_rfl) rfl (fun K hK => ?_)
      refine step_push rpTy (by decide) (by rfl) _ _ _ (by rfl) (w.heap.size + 3) 40 i0 _ 32 Try.underlying33 hi0 hz0 hz1 hz2 rfl (by decide)
             (fun q => w.heap.size + 3 ≤ q) v (args.take k) (by rfl) (((Hacc.out.drew).below hb1).alloc _) (by rw [Hl.out]; omega)
             w1.heap.size _ [s', b'] args[k] (by rfl) (heap_alloc_new _ _) ⟨_, _, rfl, (hr1.weaken (fun q _ hq => ⟨Nat.le_trans (show w.heap.size + 3 ≤ wr.drew.heap.size from hsz) hq, fun e => by have := (Hacc.out.base_le q e).2; exact absurd this (Nat.not_lt.2 hq)⟩)).keep ((Keep.refl _ _).alloc _)⟩ (by have := hb1.size; simp at this ⊢; omega) ?_
      intro gg cap w2 hacc2 hgrow hat hlt2
      have hK2 : Keep (fun q => v.ownBlock ≠ some q) wr w2 := (hK1.alloc _).grown hgrow (fun _ hr hf => hf hr)
      have o2 := hout.push hb1 hgrow (Hne.out _ (by omega))
      have o1 := hres.push hb1 hgrow (Hne.out _ (by omega))
      have o0 := hbox.push hb1 hgrow (Hne.out _ (by omega))
      have hS : (w2).cell? ⟨w.heap.size, 0, none⟩ = some (.slice (some ⟨bl, off, none⟩) args.length c) ∧ (w2).cell? ⟨w.heap.size + 2, 0, none⟩ = some v ∧ (w2).cell? ⟨bl, off + k * 2, none⟩ = some (.slice (A k) (N k) (C k)) ∧ (w2).cell? ⟨bl, off + k * 2 + 1, none⟩ = some (.int .i64 (B k)) := ⟨o0.cell (i := 0) rfl, o2.cell (i := 0) rfl, hK2 _ _ _ Hbl.out e1, hK2 _ _ _ Hbl.out e2⟩
      have p2 := o2.free 0
      have Hacc2 := Lib.hid hacc2; clear hacc2
      refine hK.out _ _ (fun _ => hS) ?_
      clear hK K
      try simp only [Act.put, List.setIfInBounds_toArray, List.set_cons_zero, List.set_cons_succ]
      refine wpN_take (i := 10) (v := ?v8) rfl (by kernel_rfl) (fun _ _ _ h => h) hS (Or.inl ⟨by rfl, ?hy8⟩) ?hr8
      case hy8 => (intro wS hSw; (try dsimp only at hSw); go_simp; (try with_reducible rfl))
      try simp only [Act.put, List.setIfInBounds_toArray, List.set_cons_zero, List.set_cons_succ]
      refine wpN_step (i := 11) (by kernel_rfl) rfl (fun K hK => ?_)
      go_simp
      refine hK.out _ _ (fun h => absurd h (by decide)) ?_
      clear hK K
      try simp only [Act.put, List.setIfInBounds_toArray, List.set_cons_zero, List.set_cons_succ]
      refine wpN_done (by kernel_rfl) ?_
      refine NoPanic.normal ?_
      go_wp2_with fail
      refine ⟨⟨k + 1, _, by go_num, by omega, (below_push hb (by omega) hb1 hgrow (fun q hq => by have := (Hacc.out.base_le q hq).1; omega)).setCell (by simp; omega) _, o0.far _ _ (by simp; omega), o1.far _ _ (by simp), o2.set 0 _, ?_⟩, by simp [intOf]; omega⟩
      have h := Hacc2.out
      rw [Hl.out, ← List.take_succ_eq_append_getElem hlt] at h
      exact h.setCell _ _ (by simp) (by simp)
    · obtain ⟨va, vc, hv⟩ := Hacc.out.len_shape
      rw [List.length_take, Nat.min_eq_left hk] at hv
      subst hv
      have d1 : wr.cell? ⟨w.heap.size + 2, 1, none⟩ = some (.int .i64 b) := hout.cell rfl
      have r0 : wr.cell? ⟨w.heap.size + 1, 0, none⟩ = some (.slice none 0 0) := hres.cell rfl
      have r1 : wr.cell? ⟨w.heap.size + 1, 1, none⟩ = some (.int .i64 0) := hres.cell rfl
      have f0 := hres.free 0
      have f1 := hres.free 1
      go_wp2_with fail
      refine bodyPost_ret (v := .agg #[.slice va k vc, .int .i64 b]) (by simp [results, Try.results18, go_sem, r0, r1]) rfl ?_
      have hkn : k = args.length := by omega
      refine ⟨_, _, rfl, ?_, (hb.setCell (by simp) _).setCell (by simp) _⟩
      have hF : ∀ q, w.heap.size + 3 ≤ q → q ≠ w.heap.size + 1 := fun q h => by omega
      have h := (Hacc.out.setCell ⟨w.heap.size + 1, 0, none⟩ (.slice va k vc) (by simp) (by simp)).setCell ⟨w.heap.size + 1, 1, none⟩ (.int .i64 b) (by simp) (by simp)
      rw [List.take_of_length_le (by omega)] at h
      exact isTy_mk (h.sl (F' := fun q => w.heap.size ≤ q) (fun q _ hq => by omega) (fun q hq => by omega)) b
set_option maxRecDepth 100000 in
set_option maxHeartbeats 1600000 in
theorem of_any {F : Nat → Prop} {w0 : World} {s b : Value} {t : Ty} (ht : IsTy F w0 s b t) : ∀ (w : World), t.size ≤ 1000000 →
    Keep F w0 w →
    Calls Try.prog 41 #[.agg #[s, b]] w (FreshTy t w) := by
  induction ht with
  | mk a n c b args bl off A N C B hn hm ha h1 h2 h3 ih =>
  intro w hsize hw
  clear h3 hm
  subst hn
  have hlen : args.length ≤ 1000000 := by have := Ty.length_lt (l := args) (b := b); omega
  have Hsz : Hid (∀ i (h : i < args.length), args[i].size ≤ 1000000) := fun i h => by have := Ty.size_get (b := b) i h; omega
  have Hih := Lib.hid ih; clear ih hsize
  obtain ⟨i0, hi0, hz0, hz1, hz2⟩ := info_parts infoR
  go_enter Try.func41, Try.ntmps41
  go_wp2_with fail
  go_loopw [4] (fun i wr => ∃ (k : Nat) (v : Value), i = .int .i64 k ∧ k ≤ args.length ∧ 
      Below w.heap.size w wr ∧ Blk wr w.heap.size #[.slice a args.length c, .int .i64 b] 40 ∧ Blk wr (w.heap.size + 1) #[.slice none 0 0, .int .i64 0] 26 ∧ Blk wr (w.heap.size + 2) #[v, .int .i64 b] 26 ∧
      Acc rpTy 26 (w.heap.size + 3) (fun q => w.heap.size + 3 ≤ q) wr v (args.take k)) (fun i _ => args.length - (intOf i).toNat)
  case atStart => 
    exact ⟨0, _, rfl, by omega, (((Below.refl _ _).alloc (Nat.le_refl _) _).alloc (by simp) _).alloc (by simp; omega) _, ((Blk.new _ _ _ rfl).alloc _).alloc _, (Blk.new _ _ _ (by simp)).alloc _, Blk.new _ _ _ (by simp), Acc.nil _ _ _ _ _⟩
  case round =>
    obtain ⟨k, v, rfl, hk, hb, hbox, hres, hout, hacc⟩ := hrel
    have c0 : wr.cell? ⟨w.heap.size, 0, none⟩ = some (.slice a args.length c) := hbox.cell rfl
    have d0 : wr.cell? ⟨w.heap.size + 2, 0, none⟩ = some v := hout.cell rfl
    have hsz := hout.lt
    have Hacc := Lib.hid hacc; clear hacc
    by_cases hlt : k < args.length
    · obtain ⟨rfl, hF⟩ := ha (by omega)
      clear ha
      have e1 : wr.cell? ⟨bl, off + k * 2, none⟩ = some (.slice (A k) (N k) (C k)) := (hw.below hb) _ _ _ hF (h1 k hlt)
      have e2 : wr.cell? ⟨bl, off + k * 2 + 1, none⟩ = some (.int .i64 (B k)) := (hw.below hb) _ _ _ hF (h2 k hlt)
      have hlt0 : (0 : Int) ≤ (k : Int) := Int.natCast_nonneg _
      have hlt1 : (k : Int) < (args.length : Int) := by omega
      have Hbl : Hid (v.ownBlock ≠ some bl) := fun e => by have := (Hacc.out.base_le bl e).1; have := Keep.lt (hw _ _ _ hF (h1 k hlt)); omega
      have Hl : Hid ((args.take k).length = k) := by show _ = _; simp; omega
      have Hne : Hid (∀ q, q < w.heap.size + 3 → v.ownBlock ≠ some q) := fun q hq e => by have := (Hacc.out.base_le q e).1; omega
      go_wp2_with fail
      refine wp_region_noPanic (wp_region_need (S := fun w' => w'.cell? ⟨w.heap.size, 0, none⟩ = some (.slice (some ⟨bl, off, none⟩) args.length c) ∧ w'.cell? ⟨w.heap.size + 2, 0, none⟩ = some v ∧ w'.cell? ⟨bl, off + k * 2, none⟩ = some (.slice (A k) (N k) (C k)) ∧ w'.cell? ⟨bl, off + k * 2 + 1, none⟩ = some (.int .i64 (B k))) (by kernel_rfl) ?_)
      have hS : (wr.drew).cell? ⟨w.heap.size, 0, none⟩ = some (.slice (some ⟨bl, off, none⟩) args.length c) ∧ (wr.drew).cell? ⟨w.heap.size + 2, 0, none⟩ = some v ∧ (wr.drew).cell? ⟨bl, off + k * 2, none⟩ = some (.slice (A k) (N k) (C k)) ∧ (wr.drew).cell? ⟨bl, off + k * 2 + 1, none⟩ = some (.int .i64 (B k)) := ⟨c0, d0, e1, e2⟩
      refine wpN_take (i := 0) (v := ?v9) rfl (by kernel_rfl) (fun _ _ _ h => h) hS (Or.inl ⟨by rfl, ?hy9⟩) ?hr9
      case hy9 => (intro wS hSw; (try dsimp only at hSw); go_simp; (try with_reducible rfl))
      try simp only [Act.put, List.setIfInBounds_toArray, List.set_cons_zero, List.set_cons_succ]
      refine wpN_take (i := 1) (v := ?v10) rfl (by kernel_rfl) (fun _ _ _ h => h) hS (Or.inl ⟨by rfl, ?hy10⟩) ?hr10
      case hy10 => (intro wS hSw; (try dsimp only at hSw); go_simp; (try with_reducible rfl))
      try simp only [Act.put, List.setIfInBounds_toArray, List.set_cons_zero, List.set_cons_succ]
      refine wpN_take (i := 2) (v := ?v11) rfl (by kernel_rfl) (fun _ _ _ h => h) hS (Or.inl ⟨by rfl, ?hy11⟩) ?hr11
      case hy11 => (intro wS hSw; (try dsimp only at hSw); go_simp; (try with_reducible rfl))
      try simp only [Act.put, List.setIfInBounds_toArray, List.set_cons_zero, List.set_cons_succ]
      refine wpN_take (i := 3) (v := ?v12) rfl (by kernel_rfl) (fun _ _ _ h => h) hS (Or.inl ⟨by rfl, ?hy12⟩) ?hr12
      case hy12 => (intro wS hSw; (try dsimp only at hSw); go_simp; (try with_reducible rfl))
      try simp only [Act.put, List.setIfInBounds_toArray, List.set_cons_zero, List.set_cons_succ]
      refine wpN_take (i := 4) (v := ?v13) rfl (by kernel_rfl) (fun _ _ _ h => h) hS (Or.inl ⟨by rfl, ?hy13⟩) ?hr13
      case hy13 => (intro wS hSw; (try dsimp only at hSw); go_simp; (try with_reducible rfl))
      try simp only [Act.put, List.setIfInBounds_toArray, List.set_cons_zero, List.set_cons_succ]
      refine wpN_take (i := 5) (v := ?v14) rfl (by kernel_rfl) (fun _ _ _ h => h) hS (Or.inl ⟨by rfl, ?hy14⟩) ?hr14
      case hy14 => (intro wS hSw; (try dsimp only at hSw); go_simp; (try with_reducible rfl))
      try simp only [Act.put, List.setIfInBounds_toArray, List.set_cons_zero, List.set_cons_succ]
      refine wpN_take (i := 6) (v := ?v15) rfl (by kernel_rfl) (fun _ _ _ h => h) hS (Or.inl ⟨by rfl, ?hy15⟩) ?hr15
      case hy15 => (intro wS hSw; (try dsimp only at hSw); go_simp; (try with_reducible rfl))
      try simp only [Act.put, List.setIfInBounds_toArray, List.set_cons_zero, List.set_cons_succ]
      refine wpN_step (i := 7) (by kernel_rfl) rfl (fun K hK => ?_)
      go_simp
      refine (Hih.out k hlt _ (Hsz.out k hlt) ((hw.below hb).drew)).mono ?_
      rintro e w1 ⟨s', b', rfl, hr1, hb1⟩
      have hK1 : Keep (fun q => v.ownBlock ≠ some q) wr w1 := ((Keep.refl _ _).drew).below hb1
      have hS : (w1).cell? ⟨w.heap.size, 0, none⟩ = some (.slice (some ⟨bl, off, none⟩) args.length c) ∧ (w1).cell? ⟨w.heap.size + 2, 0, none⟩ = some v ∧ (w1).cell? ⟨bl, off + k * 2, none⟩ = some (.slice (A k) (N k) (C k)) ∧ (w1).cell? ⟨bl, off + k * 2 + 1, none⟩ = some (.int .i64 (B k)) := ⟨(Blk.below (w := wr.drew) hbox hb1).cell rfl, (Blk.below (w := wr.drew) hout hb1).cell rfl, hK1 _ _ _ Hbl.out e1, hK1 _ _ _ Hbl.out e2⟩
      refine hK.out _ _ (fun _ => hS) ?_
      clear hK K
      try simp only [Act.put, List.setIfInBounds_toArray, List.set_cons_zero, List.set_cons_succ]
      refine wpN_step (i := 8) (by kernel_rfl) rfl (fun K hK => ?_)
      go_simp
      have hS : (w1.alloc (.cells #[s', b'] 26)).cell? ⟨w.heap.size, 0, none⟩ = some (.slice (some ⟨bl, off, none⟩) args.length c) ∧ (w1.alloc (.cells #[s', b'] 26)).cell? ⟨w.heap.size + 2, 0, none⟩ = some v ∧ (w1.alloc (.cells #[s', b'] 26)).cell? ⟨bl, off + k * 2, none⟩ = some (.slice (A k) (N k) (C k)) ∧ (w1.alloc (.cells #[s', b'] 26)).cell? ⟨bl, off + k * 2 + 1, none⟩ = some (.int .i64 (B k)) := ⟨((Blk.below (w := wr.drew) hbox hb1).alloc _).cell rfl, ((Blk.below (w := wr.drew) hout hb1).alloc _).cell rfl, (hK1.alloc _) _ _ _ Hbl.out e1, (hK1.alloc _) _ _ _ Hbl.out e2⟩
      refine hK.out _ _ (fun _ => hS) ?_
      clear hK K
      try simp only [Act.put, List.setIfInBounds_toArray, List.set_cons_zero, List.set_cons_succ]
      refine wpN_step (i := 9) (by kernel_rfl) rfl (fun K hK => ?_)
      refine step_push rpTy (by decide) (by rfl) _ _ _ (by rfl) (w.heap.size + 3) 26 i0 _ 32 Try.underlying24 hi0 hz0 hz1 hz2 rfl (by decide)
             (fun q => w.heap.size + 3 ≤ q) v (args.take k) (by rfl) (((Hacc.out.drew).below hb1).alloc _) (by rw [Hl.out]; omega)
             w1.heap.size _ [s', b'] args[k] (by rfl) (heap_alloc_new _ _) ⟨_, _, rfl, (hr1.weaken (fun q _ hq => ⟨Nat.le_trans (show w.heap.size + 3 ≤ wr.drew.heap.size from hsz) hq, fun e => by have := (Hacc.out.base_le q e).2; exact absurd this (Nat.not_lt.2 hq)⟩)).keep ((Keep.refl _ _).alloc _)⟩ (by have := hb1.size; simp at this ⊢; omega) ?_
      intro gg cap w2 hacc2 hgrow hat hlt2
      have hK2 : Keep (fun q => v.ownBlock ≠ some q) wr w2 := (hK1.alloc _).grown hgrow (fun _ hr hf => hf hr)
      have o2 := hout.push hb1 hgrow (Hne.out _ (by omega))
      have o1 := hres.push hb1 hgrow (Hne.out _ (by omega))
      have o0 := hbox.push hb1 hgrow (Hne.out _ (by omega))
      have hS : (w2).cell? ⟨w.heap.size, 0, none⟩ = some (.slice (some ⟨bl, off, none⟩) args.length c) ∧ (w2).cell? ⟨w.heap.size + 2, 0, none⟩ = some v ∧ (w2).cell? ⟨bl, off + k * 2, none⟩ = some (.slice (A k) (N k) (C k)) ∧ (w2).cell? ⟨bl, off + k * 2 + 1, none⟩ = some (.int .i64 (B k)) := ⟨o0.cell (i := 0) rfl, o2.cell (i := 0) rfl, hK2 _ _ _ Hbl.out e1, hK2 _ _ _ Hbl.out e2⟩
      have p2 := o2.free 0
      have Hacc2 := Lib.hid hacc2; clear hacc2
      refine hK.out _ _ (fun _ => hS) ?_
      clear hK K
      try simp only [Act.put, List.setIfInBounds_toArray, List.set_cons_zero, List.set_cons_succ]
      refine wpN_take (i := 10) (v := ?v16) rfl (by kernel_rfl) (fun _ _ _ h => h) hS (Or.inl ⟨by rfl, ?hy16⟩) ?hr16
      case hy16 => (intro wS hSw; (try dsimp only at hSw); go_simp; (try with_reducible rfl))
      try simp only [Act.put, List.setIfInBounds_toArray, List.set_cons_zero, List.set_cons_succ]
      refine wpN_step (i := 11) (by kernel_rfl) rfl (fun K hK => ?_)
      go_simp
      refine hK.out _ _ (fun h => absurd h (by decide)) ?_
      clear hK K
      try simp only [Act.put, List.setIfInBounds_toArray, List.set_cons_zero, List.set_cons_succ]
      refine wpN_done (by kernel_rfl) ?_
      refine NoPanic.normal ?_
      go_wp2_with fail
      refine ⟨⟨k + 1, _, by go_num, by omega, (below_push hb (by omega) hb1 hgrow (fun q hq => by have := (Hacc.out.base_le q hq).1; omega)).setCell (by simp; omega) _, o0.far _ _ (by simp; omega), o1.far _ _ (by simp), o2.set 0 _, ?_⟩, by simp [intOf]; omega⟩
      have h := Hacc2.out
      rw [Hl.out, ← List.take_succ_eq_append_getElem hlt] at h
      exact h.setCell _ _ (by simp) (by simp)
    · obtain ⟨va, vc, hv⟩ := Hacc.out.len_shape
      rw [List.length_take, Nat.min_eq_left hk] at hv
      subst hv
      have d1 : wr.cell? ⟨w.heap.size + 2, 1, none⟩ = some (.int .i64 b) := hout.cell rfl
      have r0 : wr.cell? ⟨w.heap.size + 1, 0, none⟩ = some (.slice none 0 0) := hres.cell rfl
      have r1 : wr.cell? ⟨w.heap.size + 1, 1, none⟩ = some (.int .i64 0) := hres.cell rfl
      have f0 := hres.free 0
      have f1 := hres.free 1
      go_wp2_with fail
      refine bodyPost_ret (v := .agg #[.slice va k vc, .int .i64 b]) (by simp [results, Try.results41, go_sem, r0, r1]) rfl ?_
      have hkn : k = args.length := by omega
      refine ⟨_, _, rfl, ?_, (hb.setCell (by simp) _).setCell (by simp) _⟩
      have hF : ∀ q, w.heap.size + 3 ≤ q → q ≠ w.heap.size + 1 := fun q h => by omega
      have h := (Hacc.out.setCell ⟨w.heap.size + 1, 0, none⟩ (.slice va k vc) (by simp) (by simp)).setCell ⟨w.heap.size + 1, 1, none⟩ (.int .i64 b) (by simp) (by simp)
      rw [List.take_of_length_le (by omega)] at h
      exact isTy_mk (h.sl (F' := fun q => w.heap.size ≤ q) (fun q _ hq => by omega) (fun q hq => by omega)) b
end Go.Proofs.Ytejpgifofkiofaa

namespace Go.Proofs.Ytejpgifofkiofaa
open Go.RowKit
attribute [local go_sem ↓] Go.wp_at_zero Go.wp_at_succ

set_option maxHeartbeats 400000 in
theorem order_k {F : Nat → Prop} {w0 : World} {s b : Value} {t : Ty} (ht : IsTy F w0 s b t) : ∀ w : World, t.size ≤ 1000000 → Keep F w0 w →
    Calls Try.prog 36 #[.agg #[s, b]] w (RetI t.order w) := by
  induction ht with
  | mk a n c b args bl off A N C B hn hm ha h1 h2 h3 ih =>
  intro w hsz hw
  clear h3 hm
  subst hn
  have hlen : args.length ≤ 1000000 := by have := Ty.length_lt (l := args) (b := b); omega
  have Hsz : Hid (∀ i (h : i < args.length), args[i].size ≤ 1000000 ∧ args[i].order ≤ 1000000) := fun i h => by
    have := Ty.size_get (b := b) i h; have := Ty.depth_le_size args[i]; have := Ty.order_le_depth args[i]; omega
  have Hall : Hid (Ty.orders args ≤ 1000000) := by
    show _ ≤ _
    have := Ty.depth_le_size (.mk args b); have := Ty.order_le_depth (.mk args b); rw [Ty.order_eq] at *; omega
  have Hend : Hid ((Ty.mk args b).order = Ty.orders args) := Ty.order_eq _ _
  have Hih := Lib.hid ih; clear ih hsz
  go_enter Try.func36, Try.ntmps36
  go_wp2_with fail
  go_loopw [3, 5, 9] (fun x y i wr => ∃ k : Nat, i = .int .i64 k ∧ x = .int .i64 (Ty.orders (args.take k)) ∧ k ≤ args.length ∧ Below w.heap.size w wr) (fun _ _ i _ => args.length - (intOf i).toNat)
  case atStart => exact ⟨0, rfl, rfl, by omega, (Below.refl _ _).alloc (Nat.le_refl _) _⟩
  case round =>
    obtain ⟨k, rfl, rfl, hk, hb⟩ := hrel
    have hbs := hb.size
    have hs2 : Ty.orders (args.take k) ≤ 1000000 := by have := Hall.out; have := Ty.orders_take_le args k; omega
    by_cases hlt : k < args.length
    · obtain ⟨rfl, hF⟩ := ha (by omega)
      have e1 : wr.cell? ⟨bl, off + k * 2, none⟩ = some (.slice (A k) (N k) (C k)) := (hw.below hb) _ _ _ hF (h1 k hlt)
      have e2 : wr.cell? ⟨bl, off + k * 2 + 1, none⟩ = some (.int .i64 (B k)) := (hw.below hb) _ _ _ hF (h2 k hlt)
      have hs := (Hsz.out k hlt).2
      go_wp2_with fail
      refine (Hih.out k hlt _ (Hsz.out k hlt).1 ((hw.below hb).alloc _)).mono ?_
      rintro e w1 ⟨rfl, hb1⟩
      go_wp2_with fail
      go_roundw
      case rel => exact ⟨k + 1, by go_num, by rw [Ty.orders_take _ _ hlt]; simp; first | (split <;> omega) | omega | (rw [Int.natCast_max]; rfl), by omega, (hb.alloc hbs _).trans (hb1.mono (by simp; omega))⟩
      case measure => simp [intOf]; omega
    · go_wp2_with fail
      go_ret
      refine ⟨?_, hb⟩
      rw [Hend.out, List.take_of_length_le (by omega)]; rfl

set_option maxRecDepth 100000 in
set_option maxHeartbeats 1600000 in
theorem copied_k {F : Nat → Prop} {w0 : World} {s b : Value} {t : Ty} (ht : IsTy F w0 s b t) : ∀ (w : World), t.size ≤ 100000 →
    Keep F w0 w →
    Calls Try.prog 97 #[.agg #[s, b]] w (FreshTy t w) := by
  induction ht with
  | mk a n c b args bl off A N C B hn hm ha h1 h2 h3 ih =>
  intro w hsize hw
  clear h3 hm
  subst hn
  have hlen : args.length ≤ 100000 := by have := Ty.length_lt (l := args) (b := b); omega
  have Hsz : Hid (∀ i (h : i < args.length), args[i].size ≤ 100000) := fun i h => by have := Ty.size_get (b := b) i h; omega
  have Hih := Lib.hid ih; clear ih hsize
  obtain ⟨i0, hi0, hz0, hz1, hz2⟩ := info_parts infoK
  go_enter Try.func97, Try.ntmps97
  go_wp2_with fail
  go_loopw [5, 12] (fun _ i wr => ∃ (k : Nat) (v : Value), i = .int .i64 k ∧ k ≤ args.length ∧ 
      Below w.heap.size w wr ∧ Blk wr (w.heap.size + 1) #[.slice none 0 0, .int .i64 0] 40 ∧ Blk wr (w.heap.size + 2) #[v, .int .i64 b] 40 ∧
      Acc rpTy 40 (w.heap.size + 3) (fun q => w.heap.size + 3 ≤ q) wr v (args.take k)) (fun _ i _ => args.length - (intOf i).toNat)
  case atStart => 
    exact ⟨0, _, rfl, by omega, (((Below.refl _ _).alloc (Nat.le_refl _) _).alloc (by simp) _).alloc (by simp; omega) _, (Blk.new _ _ _ (by simp)).alloc _, Blk.new _ _ _ (by simp), Acc.nil _ _ _ _ _⟩
  case round =>
    obtain ⟨k, v, rfl, hk, hb, hres, hout, hacc⟩ := hrel
    have d0 : wr.cell? ⟨w.heap.size + 2, 0, none⟩ = some v := hout.cell rfl
    have hsz := hout.lt
    have Hacc := Lib.hid hacc; clear hacc
    by_cases hlt : k < args.length
    · obtain ⟨rfl, hF⟩ := ha (by omega)
      clear ha
      have e1 : wr.cell? ⟨bl, off + k * 2, none⟩ = some (.slice (A k) (N k) (C k)) := (hw.below hb) _ _ _ hF (h1 k hlt)
      have e2 : wr.cell? ⟨bl, off + k * 2 + 1, none⟩ = some (.int .i64 (B k)) := (hw.below hb) _ _ _ hF (h2 k hlt)
      have hlt0 : (0 : Int) ≤ (k : Int) := Int.natCast_nonneg _
      have hlt1 : (k : Int) < (args.length : Int) := by omega
      have Hl : Hid ((args.take k).length = k) := by show _ = _; simp; omega
      have Hne : Hid (∀ q, q < w.heap.size + 3 → v.ownBlock ≠ some q) := fun q hq e => by have := (Hacc.out.base_le q e).1; omega
      have Ho : Hid (v.ownBlock ≠ some wr.heap.size) := fun e => by have := (Hacc.out.base_le _ e).2; omega
      go_wp2_with fail
      obtain ⟨wa, hwa⟩ : ∃ wa, wr.alloc (.cells #[.slice (A k) (N k) (C k), .int .i64 (B k)] 40) = wa := ⟨_, rfl⟩
      have Wa := Lib.hid hwa
      have ba : Below w.heap.size w wa := by rw [← hwa]; exact hb.alloc (by omega) _
      have sa : wr.heap.size + 1 = wa.heap.size := by rw [← hwa]; simp
      have Sa := Lib.hid sa
      have xa : Blk wa wr.heap.size #[.slice (A k) (N k) (C k), .int .i64 (B k)] 40 := by rw [← hwa]; exact Blk.new _ _ _ rfl
      have ra : Blk wa (w.heap.size + 1) #[.slice none 0 0, .int .i64 0] 40 := by rw [← hwa]; exact hres.alloc _
      have oa : Blk wa (w.heap.size + 2) #[v, .int .i64 b] 40 := by rw [← hwa]; exact hout.alloc _
      have Ka : Hid (Keep F w0 wa) := by rw [← hwa]; exact (hw.below hb).alloc _
      have Aa : Hid (Acc rpTy 40 (w.heap.size + 3) (fun q => w.heap.size + 3 ≤ q) wa v (args.take k)) := by rw [← hwa]; exact Hacc.out.alloc _
      rw [hwa]
      clear hwa sa
      refine wp_region_noPanic (wp_region_need (S := fun w' => w'.cell? ⟨w.heap.size + 2, 0, none⟩ = some v ∧ w'.cell? ⟨wr.heap.size, 0, none⟩ = some (.slice (A k) (N k) (C k)) ∧ w'.cell? ⟨wr.heap.size, 1, none⟩ = some (.int .i64 (B k))) (by kernel_rfl) ?_)
      have hS : (wa.drew).cell? ⟨w.heap.size + 2, 0, none⟩ = some v ∧ (wa.drew).cell? ⟨wr.heap.size, 0, none⟩ = some (.slice (A k) (N k) (C k)) ∧ (wa.drew).cell? ⟨wr.heap.size, 1, none⟩ = some (.int .i64 (B k)) := ⟨oa.drew.cell rfl, xa.drew.cell rfl, xa.drew.cell rfl⟩
      refine wpN_take (i := 0) (v := ?v1) rfl (by kernel_rfl) (fun _ _ _ h => h) hS (Or.inl ⟨by rfl, ?hy1⟩) ?hr1
      case hy1 => (intro wS hSw; (try dsimp only at hSw); go_simp; (try with_reducible rfl))
      try simp only [Act.put, List.setIfInBounds_toArray, List.set_cons_zero, List.set_cons_succ]
      refine wpN_take (i := 1) (v := ?v2) rfl (by kernel_rfl) (fun _ _ _ h => h) hS (Or.inl ⟨by rfl, ?hy2⟩) ?hr2
      case hy2 => (intro wS hSw; (try dsimp only at hSw); go_simp; (try with_reducible rfl))
      try simp only [Act.put, List.setIfInBounds_toArray, List.set_cons_zero, List.set_cons_succ]
      refine wpN_take (i := 2) (v := ?v3) rfl (by kernel_rfl) (fun _ _ _ h => h) hS (Or.inl ⟨by rfl, ?hy3⟩) ?hr3
      case hy3 => (intro wS hSw; (try dsimp only at hSw); go_simp; (try with_reducible rfl))
      try simp only [Act.put, List.setIfInBounds_toArray, List.set_cons_zero, List.set_cons_succ]
      refine wpN_step (i := 3) (by kernel_rfl) rfl (fun K hK => ?_)
      go_simp
      refine (Hih.out k hlt _ (Hsz.out k hlt) Ka.out.drew).mono ?_
      rintro e w1 ⟨s', b', rfl, hr1, hb1⟩
      have hKp : Keep (fun q => v.ownBlock ≠ some q) wa w1 := ((Keep.refl _ _).drew).below hb1
      have x1 := Blk.below (w := wa.drew) xa hb1
      have o1 := Blk.below (w := wa.drew) oa hb1
      have hS : (w1).cell? ⟨w.heap.size + 2, 0, none⟩ = some v ∧ (w1).cell? ⟨wr.heap.size, 0, none⟩ = some (.slice (A k) (N k) (C k)) ∧ (w1).cell? ⟨wr.heap.size, 1, none⟩ = some (.int .i64 (B k)) := ⟨o1.cell rfl, x1.cell rfl, x1.cell rfl⟩
      refine hK.out _ _ (fun _ => hS) ?_
      clear hK K
      try simp only [Act.put, List.setIfInBounds_toArray, List.set_cons_zero, List.set_cons_succ]
      refine wpN_step (i := 4) (by kernel_rfl) rfl (fun K hK => ?_)
      go_simp
      have hS : (w1.alloc (.cells #[s', b'] 40)).cell? ⟨w.heap.size + 2, 0, none⟩ = some v ∧ (w1.alloc (.cells #[s', b'] 40)).cell? ⟨wr.heap.size, 0, none⟩ = some (.slice (A k) (N k) (C k)) ∧ (w1.alloc (.cells #[s', b'] 40)).cell? ⟨wr.heap.size, 1, none⟩ = some (.int .i64 (B k)) := ⟨(o1.alloc _).cell rfl, (x1.alloc _).cell rfl, (x1.alloc _).cell rfl⟩
      refine hK.out _ _ (fun _ => hS) ?_
      clear hK K
      try simp only [Act.put, List.setIfInBounds_toArray, List.set_cons_zero, List.set_cons_succ]
      refine wpN_step (i := 5) (by kernel_rfl) rfl (fun K hK => ?_)
      refine step_push rpTy (by decide) (by rfl) _ _ _ (by rfl) (w.heap.size + 3) 40 i0 _ 32 Try.underlying33 hi0 hz0 hz1 hz2 rfl (by decide)
             (fun q => w.heap.size + 3 ≤ q) v (args.take k) (by rfl) (((Aa.out.drew).below hb1).alloc _) (by rw [Hl.out]; omega)
             w1.heap.size _ [s', b'] args[k] (by rfl) (heap_alloc_new _ _) ⟨_, _, rfl, (hr1.weaken (fun q _ hq => ⟨Nat.le_trans (show w.heap.size + 3 ≤ wa.drew.heap.size from oa.lt) hq, fun e => by have := (Aa.out.base_le q e).2; exact absurd this (Nat.not_lt.2 hq)⟩)).keep ((Keep.refl _ _).alloc _)⟩ (by have := hb1.size; have := oa.lt; simp at *; omega) ?_
      intro gg cap w2 hacc2 hgrow hat hlt2
      have o2 := oa.push hb1 hgrow (Hne.out _ (by omega))
      have r2 := ra.push hb1 hgrow (Hne.out _ (by omega))
      have x2 := xa.push hb1 hgrow Ho.out
      have hS : (w2).cell? ⟨w.heap.size + 2, 0, none⟩ = some v ∧ (w2).cell? ⟨wr.heap.size, 0, none⟩ = some (.slice (A k) (N k) (C k)) ∧ (w2).cell? ⟨wr.heap.size, 1, none⟩ = some (.int .i64 (B k)) := ⟨o2.cell rfl, x2.cell rfl, x2.cell rfl⟩
      have p2 := o2.free 0
      have Hacc2 := Lib.hid hacc2; clear hacc2
      refine hK.out _ _ (fun _ => hS) ?_
      clear hK K
      try simp only [Act.put, List.setIfInBounds_toArray, List.set_cons_zero, List.set_cons_succ]
      refine wpN_take (i := 6) (v := ?v4) rfl (by kernel_rfl) (fun _ _ _ h => h) hS (Or.inl ⟨by rfl, ?hy4⟩) ?hr4
      case hy4 => (intro wS hSw; (try dsimp only at hSw); go_simp; (try with_reducible rfl))
      try simp only [Act.put, List.setIfInBounds_toArray, List.set_cons_zero, List.set_cons_succ]
      refine wpN_step (i := 7) (by kernel_rfl) rfl (fun K hK => ?_)
      go_simp
      refine hK.out _ _ (fun h => absurd h (by decide)) ?_
      clear hK K
      try simp only [Act.put, List.setIfInBounds_toArray, List.set_cons_zero, List.set_cons_succ]
      refine wpN_done (by kernel_rfl) ?_
      refine NoPanic.normal ?_
      go_wp2_with fail
      refine ⟨⟨k + 1, _, by go_num, by omega, (below_push ba (by have := oa.lt; omega) hb1 hgrow (fun q hq => by have := (Hacc.out.base_le q hq).1; omega)).setCell (by simp; omega) _, r2.far _ _ (by simp), o2.set 0 _, ?_⟩, by simp [intOf]; omega⟩
      have h := Hacc2.out
      rw [Hl.out, ← List.take_succ_eq_append_getElem hlt] at h
      exact h.setCell _ _ (by simp) (by simp)
    · obtain ⟨va, vc, hv⟩ := Hacc.out.len_shape
      rw [List.length_take, Nat.min_eq_left hk] at hv
      subst hv
      have d1 : wr.cell? ⟨w.heap.size + 2, 1, none⟩ = some (.int .i64 b) := hout.cell rfl
      have r0 : wr.cell? ⟨w.heap.size + 1, 0, none⟩ = some (.slice none 0 0) := hres.cell rfl
      have r1 : wr.cell? ⟨w.heap.size + 1, 1, none⟩ = some (.int .i64 0) := hres.cell rfl
      have f0 := hres.free 0
      have f1 := hres.free 1
      go_wp2_with fail
      refine bodyPost_ret (v := .agg #[.slice va k vc, .int .i64 b]) (by simp [results, Try.results97, go_sem, r0, r1]) rfl ?_
      have hkn : k = args.length := by omega
      refine ⟨_, _, rfl, ?_, (hb.setCell (by simp) _).setCell (by simp) _⟩
      have h := (Hacc.out.setCell ⟨w.heap.size + 1, 0, none⟩ (.slice va k vc) (by simp) (by simp)).setCell ⟨w.heap.size + 1, 1, none⟩ (.int .i64 b) (by simp) (by simp)
      rw [List.take_of_length_le (by omega)] at h
      exact isTy_mk (h.sl (F' := fun q => w.heap.size ≤ q) (fun q _ hq => by omega) (fun q hq => by omega)) b
end Go.Proofs.Ytejpgifofkiofaa

namespace Go.Proofs.Ytejpgifofkiofaa
open Go.RowKit

def OutSl (F : Nat → Prop) (l : List Ty) (w : World) (e : Ending) (w' : World) : Prop :=
  ∃ a c, e = .returned (.slice a l.length c) ∧ IsSl rpTy (fun k => F k ∨ w.heap.size ≤ k) w' (.slice a l.length c) l ∧ Below w.heap.size w w'

def OutSl2 (F : Nat → Prop) (l : List Ty) (w : World) (e : Ending) (w' : World) : Prop :=
  ∃ a c, e = .returned (.slice a l.length c) ∧ IsSl2 rpTy (fun k => w.heap.size ≤ k) F w' (.slice a l.length c) l ∧ Below w.heap.size w w'

def GrowPost (w : World) (e : Ending) (w' : World) : Prop := ∃ v, e = .returned v ∧ (∀ F, Acc rpTy 40 w.heap.size F w' v []) ∧ Below w.heap.size w w'

set_option maxRecDepth 100000 in
set_option maxHeartbeats 400000 in
theorem grow_any (n : Nat) (m : Int) (w : World) (hnm : m = n) (hn : n ≤ 1000000) :
    Calls Try.prog 122 #[.slice none 0 0, .int .i64 m] w (GrowPost w) := by
  subst hnm
  obtain ⟨i0, hi0, hz0, hz1, hz2⟩ := info_parts infoK
  by_cases h0 : n = 0
  · subst h0
    go_enter Try.func122, Try.ntmps122
    go_wp2_with fail
    go_ret
    exact ⟨_, rfl, fun F => Acc.nil _ _ _ _ _, Below.refl _ _⟩
  · have hr : ∀ ty, (Builtin.append_ #[33, 3] ty #[.slice none 0 0, .int .i64 (n : Int)]).run Try.prog w = _ := fun ty =>
      Lib.run_append_grow_zeros w 33 3 ty 40 i0 (.agg #[.slice none 0 0, .int .i64 0]) .i64 .i64 Try.underlying33 Try.underlying3 hi0 hz0 none 0 0 [] (run_firstCells_none _ _ _ _ _) n (by omega) (by rw [hz1]; decide) (by omega) (by omega) (by rw [hz2]; omega) (by rw [hz2]; exact growslice_fits (by omega) (by omega))
    have hr' : ∃ g, n ≤ g ∧ g ≤ maxLen ∧ ∀ ty, (Builtin.append_ #[33, 3] ty #[.slice none 0 0, .int .i64 (n : Int)]).run Try.prog w = .ok (.slice (some ⟨w.heap.size, 0, none⟩) n g) (w.drew.alloc (.cells (Builtin.zeroCells (#[.slice none 0 0, .int .i64 0]) n ++ Builtin.zeroCells (#[.slice none 0 0, .int .i64 0]) (g - n)) 40)) := by
      refine ⟨grownCap w n 0 40, grownCap_ge _ _ _ _, grownCap_le_maxLen _ _ _ _ (by unfold maxLen; omega), fun ty => ?_⟩
      have := hr ty
      simpa [Value.cells] using this
    obtain ⟨g, hg1, hg2, hg⟩ := hr'
    have hg2' := hg2
    clear hg2
    clear hr
    have hn0 : 0 < (n : Int) := by omega
    have Hg := Lib.hid hg; clear hg
    go_enter Try.func122, Try.ntmps122
    go_wp2_with (at_builtin; refine wpList_append_eq rfl _ _ _ _ _ rfl (Hg.out _) ?_)
    go_ret
    refine ⟨_, rfl, fun F => ⟨[], rfl, ⟨rfl, .inr ⟨w.heap.size, g, _, rfl, Nat.le_refl _, heap_alloc_new w.drew _, Nat.zero_le _, hg2', ?_, rfl⟩⟩, fun i h => absurd h (by simp)⟩, (Below.refl _ _).drew.alloc (Nat.le_refl _) _⟩
    simp [size_zeroCells, rpTy]; omega

theorem isSl_shape {α : Type} {r : Rp α} {F : Nat → Prop} {w : World} {v : Value} {l : List α} (h : IsSl r F w v l) : ∃ a c, v = .slice a l.length c := by
  obtain ⟨a, c, _, _, _, h, _⟩ := h; exact ⟨a, c, h⟩

set_option maxRecDepth 100000 in
set_option maxHeartbeats 1000000 in
theorem concat_any2 {F : Nat → Prop} {w : World} {B : Nat} {a1 a2 : Option Addr} {c1 c2 : Nat} {l1 l2 : List Ty} {tt : TypeId} (hB : Blk w B #[.slice a1 l1.length c1, .slice a2 l2.length c2] tt)
    {G1 G2 : Nat → Prop} (h1 : IsSl2 rpTy G1 F w (.slice a1 l1.length c1) l1) (h2 : IsSl2 rpTy G2 F w (.slice a2 l2.length c2) l2) (hl : l1.length + l2.length ≤ 100000) :
    Calls Try.prog 98 #[.slice (some ⟨B, 0, none⟩) 2 2] w (OutSl2 F (l1 ++ l2) w) := by
  obtain ⟨i0, hi0, hz0, hz1, hz2⟩ := info_parts infoK
  have H1 := Lib.hid (h1.weaken (G' := fun q => q < w.heap.size) (F' := fun q => F q ∧ q < w.heap.size) (by decide) (fun k hk _ => hk) fun k hk hF => ⟨hF, hk⟩); clear h1
  have H2 := Lib.hid (h2.weaken (G' := fun q => q < w.heap.size) (F' := fun q => F q ∧ q < w.heap.size) (by decide) (fun k hk _ => hk) fun k hk hF => ⟨hF, hk⟩); clear h2
  have b0 : w.cell? ⟨B, 0, none⟩ = some (.slice a1 l1.length c1) := hB.cell rfl
  have b1 : w.cell? ⟨B, 1, none⟩ = some (.slice a2 l2.length c2) := hB.cell rfl
  go_enter Try.func98, Try.ntmps98
  go_wp2_with fail
  go_loop [3, 5, 11] (fun x y i => ∃ k : Nat, k ≤ 2 ∧ i = .int .i64 k ∧ x = .int .i64 ((if k = 0 then 0 else if k = 1 then l1.length else l1.length + l2.length : Nat) : Int)) (fun _ _ i => 2 - (intOf i).toNat)
  case atStart => exact ⟨0, by omega, rfl, rfl⟩
  case round =>
    obtain ⟨k, hk, rfl, rfl⟩ := hrel
    obtain rfl | rfl | rfl : k = 0 ∨ k = 1 ∨ k = 2 := by omega
    · have hs : (0 : Int) + (l1.length : Int) ≤ 100000 := by omega
      go_wp2_with fail
      go_round
      case rel => exact ⟨1, by omega, rfl, by simp⟩
      case measure => simp [intOf]
    · have hs : (l1.length : Int) + (l2.length : Int) ≤ 100000 := by omega
      go_wp2_with fail
      go_round
      case rel => exact ⟨2, by omega, rfl, by simp⟩
      case measure => simp [intOf]
    · go_wp2_with fail
      refine (grow_any (l1.length + l2.length) _ w (by omega) (by omega)).mono ?_
      rintro e w1 ⟨v, rfl, hacc, hb1⟩
      have Hacc := Lib.hid hacc; clear hacc
      have hKp : Keep (fun _ => True) w w1 := (Keep.refl _ _).below hb1
      go_wp2_with fail
      go_loopw [6, 8, 27] (fun x _ i wr => ∃ (k : Nat) (v : Value), x = v ∧ k ≤ 2 ∧ i = .int .i64 k ∧ Below w.heap.size w wr ∧ Acc rpTy 40 w.heap.size (fun q => F q ∧ q < w.heap.size) wr v (if k = 0 then [] else if k = 1 then l1 else l1 ++ l2)) (fun _ _ i _ => 2 - (intOf i).toNat)
      case atStart => exact ⟨0, v, rfl, by omega, rfl, hb1, Hacc.out _⟩
      case round =>
        obtain ⟨k, y, hy, hk, rfl, hb, hacc⟩ := hrel
        subst hy
        have d0 : wr.cell? ⟨B, 0, none⟩ = some (.slice a1 l1.length c1) := (hb.cell (p := ⟨B, 0, none⟩) hB.lt).trans b0
        have d1 : wr.cell? ⟨B, 1, none⟩ = some (.slice a2 l2.length c2) := (hb.cell (p := ⟨B, 1, none⟩) hB.lt).trans b1
        have hsz := hb.size
        have hKr : Keep (fun q => F q ∧ q < w.heap.size) w wr := fun q o v hq hv => (hb.cell (p := ⟨q, o, none⟩) hq.2).trans hv
        have hFa : ∀ {v : Value} {l : List Ty}, Acc rpTy 40 w.heap.size (fun q => F q ∧ q < w.heap.size) wr v l → ∀ q, (F q ∧ q < w.heap.size) → ((F q ∧ q < w.heap.size) ∧ v.ownBlock ≠ some q) :=
          fun h q hq => ⟨hq, fun e => by have := (h.base_le q e).1; omega⟩
        have G1 := Lib.hid ((H1.out.bel hb))
        have G2 := Lib.hid ((H2.out.bel hb))
        obtain rfl | rfl | rfl : k = 0 ∨ k = 1 ∨ k = 2 := by omega
        · have Ha := Lib.hid hacc; clear hacc
          go_wp2_with (at_builtin; refine wpList_push_sl rpTy (by decide) rfl _ _ _ rfl w.heap.size 40 i0 _ 32 Try.underlying33 hi0 hz0 hz1 hz2 rfl (by decide) (fun q => F q ∧ q < w.heap.size) u6 [] rfl Ha.out _ l1 rfl (G1.out.weaken (by decide) (fun _ _ h => h) fun q _ hq => hFa Ha.out q hq) (by simp; omega) hsz ?_; intro v' w2 hacc2 hgrow hat)
          have Hacc2 := Lib.hid hacc2; clear hacc2
          go_roundw
          case rel => exact ⟨1, _, rfl, by omega, rfl, hb.grown hgrow hsz (fun q hq => (Ha.out.base_le q hq).1), by simpa using Hacc2.out⟩
          case measure => simp [intOf]
        · have Ha := Lib.hid hacc; clear hacc
          go_wp2_with (at_builtin; refine wpList_push_sl rpTy (by decide) rfl _ _ _ rfl w.heap.size 40 i0 _ 32 Try.underlying33 hi0 hz0 hz1 hz2 rfl (by decide) (fun q => F q ∧ q < w.heap.size) u6 l1 rfl (by simpa using Ha.out) _ l2 rfl (G2.out.weaken (by decide) (fun _ _ h => h) fun q _ hq => hFa Ha.out q hq) (by omega) hsz ?_; intro v' w2 hacc2 hgrow hat)
          have Hacc2 := Lib.hid hacc2; clear hacc2
          go_roundw
          case rel => exact ⟨2, _, rfl, by omega, rfl, hb.grown hgrow hsz (fun q hq => (Ha.out.base_le q hq).1), by simpa using Hacc2.out⟩
          case measure => simp [intOf]
        · have Ha := Lib.hid hacc; clear hacc
          go_wp2_with fail
          go_ret
          have h0 : Acc rpTy 40 w.heap.size (fun q => F q ∧ q < w.heap.size) wr u6 (l1 ++ l2) := by simpa using Ha.out
          obtain ⟨a, c, hv⟩ := h0.len_shape
          refine ⟨a, c, ?_, ?_, hb⟩
          · rw [← hv]; rfl
          · rw [← hv]; exact h0.sl2.weaken (by decide) (fun _ _ h => h) (fun _ _ h => h.1)
theorem concat_any {F : Nat → Prop} {w : World} {B : Nat} {a1 a2 : Option Addr} {c1 c2 : Nat} {l1 l2 : List Ty} {tt : TypeId} (hB : Blk w B #[.slice a1 l1.length c1, .slice a2 l2.length c2] tt)
    (h1 : IsSl rpTy F w (.slice a1 l1.length c1) l1) (h2 : IsSl rpTy F w (.slice a2 l2.length c2) l2) (hl : l1.length + l2.length ≤ 100000) :
    Calls Try.prog 98 #[.slice (some ⟨B, 0, none⟩) 2 2] w (OutSl F (l1 ++ l2) w) :=
  (concat_any2 hB (.of h1) (.of h2) hl).mono fun _ _ ⟨a, c, h, hs, hb⟩ => ⟨a, c, h, hs.sl (by decide) (fun _ _ h => .inr h) (fun _ _ h => .inl h), hb⟩
end Go.Proofs.Ytejpgifofkiofaa

