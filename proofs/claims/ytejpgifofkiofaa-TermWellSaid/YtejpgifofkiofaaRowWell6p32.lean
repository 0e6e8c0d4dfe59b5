/-
  The laws' worlds: World, Small; the document's RightWorld. The contracts of heads and types once more, where all of memory may be read.
-/
import Derived.Test.YtejpgifofkiofaaRowWell6p31
import Derived.Test.YtejpgifofkiofaaRowWell6p10
import Derived.Test.YtejpgifofkiofaaRowWell6p22
import Derived.Test.YtejpgifofkiofaaRowWell6p24
import Derived.Test.YtejpgifofkiofaaRowWell6p30
set_option linter.unusedVariables false
set_option linter.unusedSimpArgs false
namespace Go.Proofs.Ytejpgifofkiofaa
open Go.RowKit

set_option maxRecDepth 100000 in
set_option maxHeartbeats 2000000 in
theorem RightWorld_r {F : Nat → Prop} {w : World} {b : Int} {cv mv : Value} {C M : List Ty} (hc : IsSl rpTy F w cv C) (hm : IsSl rpTy F w mv M) :
    Calls Try.prog 66 #[.agg #[.int .i64 b, cv, mv]] w (RetB (RightWd b C M) w) := by
  obtain ⟨ca, cc, rfl⟩ := hc.shape
  obtain ⟨ma, mc, rfl⟩ := hm.shape
  have hlc : (C.length : Int) ≤ 9223372036854775807 := by obtain ⟨_, _, _, _, _, _, h, _⟩ := hc; unfold maxLen at h; omega
  have hlm : (M.length : Int) ≤ 9223372036854775807 := by obtain ⟨_, _, _, _, _, _, h, _⟩ := hm; unfold maxLen at h; omega
  have Hc := Lib.hid (sl_at (IsSl2.of hc)); have Hm := Lib.hid (sl_at (IsSl2.of hm))
  clear hc hm
  by_cases g1 : (1000 : Int) < (C.length : Int)
  · skip
    go_enter Try.func66, Try.ntmps66
    go_wp2_with fail
    go_ret
    exact ⟨false, by unfold RightWd; simp; omega, rfl, (Below.refl _ _).alloc (Nat.le_refl _) _⟩
  have hq : IntKind.i64.wrap (1000 - (C.length : Int)) = 1000 - (C.length : Int) := IntWalk.i64_in _ (by omega)
  by_cases g2 : 1000 - (C.length : Int) < (M.length : Int)
  · skip
    go_enter Try.func66, Try.ntmps66
    go_wp2_with fail
    go_ret
    exact ⟨false, by unfold RightWd; simp; omega, rfl, (Below.refl _ _).alloc (Nat.le_refl _) _⟩
  go_enter Try.func66, Try.ntmps66
  go_wp2_with fail
  have hlen : Hid (C.length + M.length ≤ 1000) := by show _ ≤ _; omega
  clear g1 g2 hq
  obtain ⟨w1, hw1⟩ : ∃ w1, w.alloc (.cells #[.int .i64 b, .slice ca C.length cc, .slice ma M.length mc] 87) = w1 := ⟨_, rfl⟩
  have B1 : Below w.heap.size w w1 := by rw [← hw1]; exact (Below.refl _ _).alloc (Nat.le_refl _) _
  have x0 : Blk w1 w.heap.size #[.int .i64 b, .slice ca C.length cc, .slice ma M.length mc] 87 := by rw [← hw1]; exact Blk.new _ _ _ rfl
  rw [hw1]
  clear hw1
  go_loopw [3] (fun i wr => ∃ k : Nat, i = .int .i64 k ∧ k ≤ C.length ∧ Hid (∀ m (h : m < C.length), m < k → RightTy b C[m]) ∧ Below w.heap.size w wr ∧ Blk wr w.heap.size #[.int .i64 b, .slice ca C.length cc, .slice ma M.length mc] 87) (fun i _ => C.length - (intOf i).toNat)
  case atStart => exact ⟨0, rfl, by omega, fun m _ h => absurd h (by omega), B1, x0⟩
  case round =>
    clear B1 x0
    obtain ⟨k, rfl, hk, hrel1, hb, x0_wr⟩ := hrel
    have Hb := Lib.hid hb; clear hb
    by_cases hlt : k < C.length
    · obtain ⟨bl, off, A, N, Cc, Bb, rfl, _, e1, e2, hT⟩ := Hc.out k hlt
      have hkx : Keep (fun _ => True) w wr := (Keep.refl _ _).below Hb.out
      have e1 := hkx _ _ _ trivial e1
      have e2 := hkx _ _ _ trivial e2
      have HT := Lib.hid (hT.bel Hb.out); clear hT
      have i0 : (0 : Int) ≤ (k : Int) := Int.natCast_nonneg _
      have i1 : (k : Int) < (C.length : Int) := by omega
      clear hkx
      have cx00 : wr.cell? ⟨w.heap.size, 0, none⟩ = some (.int .i64 b) := x0_wr.cell rfl
      have cx01 : wr.cell? ⟨w.heap.size, 1, none⟩ = some (.slice (some ⟨bl, off, none⟩) C.length cc) := x0_wr.cell rfl
      have cx02 : wr.cell? ⟨w.heap.size, 2, none⟩ = some (.slice ma M.length mc) := x0_wr.cell rfl
      have lx0 := x0_wr.lt
      go_wp2_with fail
      clear cx00 cx01 cx02 lx0
      refine wp_region_noPanic (wp_region_need (S := fun w' => w'.cell? ⟨w.heap.size, 0, none⟩ = some (.int .i64 b) ∧ w'.cell? ⟨w.heap.size, 1, none⟩ = some (.slice (some ⟨bl, off, none⟩) C.length cc) ∧ w'.cell? ⟨bl, off + k * 2, none⟩ = some (.slice A N Cc) ∧ w'.cell? ⟨bl, off + k * 2 + 1, none⟩ = some (.int .i64 Bb)) (by kernel_rfl) ?_)
      have hS : (wr.drew).cell? ⟨w.heap.size, 0, none⟩ = some (.int .i64 b) ∧ (wr.drew).cell? ⟨w.heap.size, 1, none⟩ = some (.slice (some ⟨bl, off, none⟩) C.length cc) ∧ (wr.drew).cell? ⟨bl, off + k * 2, none⟩ = some (.slice A N Cc) ∧ (wr.drew).cell? ⟨bl, off + k * 2 + 1, none⟩ = some (.int .i64 Bb) := ⟨x0_wr.drew.cell rfl, x0_wr.drew.cell rfl, e1, e2⟩
      refine wpN_take (i := 0) (v := ?v1) rfl (by kernel_rfl) (fun _ _ _ h => h) hS (Or.inl ⟨by rfl, ?hy1⟩) ?hr1
      case hy1 => (intro wS hSw; (try dsimp only at hSw); go_simp; (try with_reducible rfl))
      try simp only [Act.put, List.setIfInBounds_toArray, List.set_cons_zero, List.set_cons_succ, List.getElem_toArray, List.getElem_cons_zero, List.getElem_cons_succ]
      refine wpN_take (i := 1) (v := ?v2) rfl (by kernel_rfl) (fun _ _ _ h => h) hS (Or.inl ⟨by rfl, ?hy2⟩) ?hr2
      case hy2 => (intro wS hSw; (try dsimp only at hSw); go_simp; (try with_reducible rfl))
      try simp only [Act.put, List.setIfInBounds_toArray, List.set_cons_zero, List.set_cons_succ, List.getElem_toArray, List.getElem_cons_zero, List.getElem_cons_succ]
      refine wpN_take (i := 2) (v := ?v3) rfl (by kernel_rfl) (fun _ _ _ h => h) hS (Or.inl ⟨by rfl, ?hy3⟩) ?hr3
      case hy3 => (intro wS hSw; (try dsimp only at hSw); go_simp; (try with_reducible rfl))
      try simp only [Act.put, List.setIfInBounds_toArray, List.set_cons_zero, List.set_cons_succ, List.getElem_toArray, List.getElem_cons_zero, List.getElem_cons_succ]
      refine wpN_take (i := 3) (v := ?v4) rfl (by kernel_rfl) (fun _ _ _ h => h) hS (Or.inl ⟨by rfl, ?hy4⟩) ?hr4
      case hy4 => (intro wS hSw; (try dsimp only at hSw); go_simp; (try with_reducible rfl))
      try simp only [Act.put, List.setIfInBounds_toArray, List.set_cons_zero, List.set_cons_succ, List.getElem_toArray, List.getElem_cons_zero, List.getElem_cons_succ]
      refine wpN_take (i := 4) (v := ?v5) rfl (by kernel_rfl) (fun _ _ _ h => h) hS (Or.inl ⟨by rfl, ?hy5⟩) ?hr5
      case hy5 => (intro wS hSw; (try dsimp only at hSw); go_simp; (try with_reducible rfl))
      try simp only [Act.put, List.setIfInBounds_toArray, List.set_cons_zero, List.set_cons_succ, List.getElem_toArray, List.getElem_cons_zero, List.getElem_cons_succ]
      refine wpN_take (i := 5) (v := ?v6) rfl (by kernel_rfl) (fun _ _ _ h => h) hS (Or.inl ⟨by rfl, ?hy6⟩) ?hr6
      case hy6 => (intro wS hSw; (try dsimp only at hSw); go_simp; (try with_reducible rfl))
      try simp only [Act.put, List.setIfInBounds_toArray, List.set_cons_zero, List.set_cons_succ, List.getElem_toArray, List.getElem_cons_zero, List.getElem_cons_succ]
      refine wpN_take (i := 6) (v := ?v7) rfl (by kernel_rfl) (fun _ _ _ h => h) hS (Or.inl ⟨by rfl, ?hy7⟩) ?hr7
      case hy7 => (intro wS hSw; (try dsimp only at hSw); go_simp; (try with_reducible rfl))
      try simp only [Act.put, List.setIfInBounds_toArray, List.set_cons_zero, List.set_cons_succ, List.getElem_toArray, List.getElem_cons_zero, List.getElem_cons_succ]
      refine wpN_step (i := 7) (by kernel_rfl) rfl (fun K hK => ?_)
      go_simp
      refine (right_r (HT.out.bel (Below.refl _ _).drew) b).mono ?_
      intro e v h
      obtain ⟨r, Hr, rfl, hbx0⟩ := of_retB' h
      clear h
      have hbx : Below wr.heap.size wr v := (Below.refl _ _).drew.trans hbx0
      have hkx : Keep (fun _ => True) wr v := (Keep.refl _ _).below hbx
      have x0_v := x0_wr.below hbx
      have Hbv := Lib.hid (Hb.out.trans (hbx.mono Hb.out.size))
      have hS : (v).cell? ⟨w.heap.size, 0, none⟩ = some (.int .i64 b) ∧ (v).cell? ⟨w.heap.size, 1, none⟩ = some (.slice (some ⟨bl, off, none⟩) C.length cc) ∧ (v).cell? ⟨bl, off + k * 2, none⟩ = some (.slice A N Cc) ∧ (v).cell? ⟨bl, off + k * 2 + 1, none⟩ = some (.int .i64 Bb) := ⟨x0_v.cell rfl, x0_v.cell rfl, hkx _ _ _ trivial e1, hkx _ _ _ trivial e2⟩
      clear hkx hbx hbx0 e1 e2 x0_wr
      refine hK.out _ _ (fun _ => hS) ?_
      clear hK K
      try simp only [Act.put, List.setIfInBounds_toArray, List.set_cons_zero, List.set_cons_succ, List.getElem_toArray, List.getElem_cons_zero, List.getElem_cons_succ]
      refine wpN_take (i := 8) (v := ?v8) rfl (by kernel_rfl) (fun _ _ _ h => h) hS (Or.inl ⟨by rfl, ?hy8⟩) ?hr8
      case hy8 => (intro wS hSw; (try dsimp only at hSw); go_simp; (try with_reducible rfl))
      try simp only [Act.put, List.setIfInBounds_toArray, List.set_cons_zero, List.set_cons_succ, List.getElem_toArray, List.getElem_cons_zero, List.getElem_cons_succ]
      refine wpN_done (by kernel_rfl) ?_
      refine NoPanic.normal ?_
      clear hS
      cases r
      · have hn := Lib.hid (no_of Hr.out)
        go_wp2_with fail
        go_ret
        exact ⟨false, by
          simp only [Bool.false_eq_true, false_iff]
          rintro ⟨_, h⟩
          exact hn.out (h _ (List.mem_append_left _ (List.getElem_mem hlt))), rfl, Hbv.out⟩
      · have Hy := Lib.hid (yes_of Hr.out)
        go_wp2_with fail
        go_roundw
        case rel => exact ⟨k + 1, by go_num, by omega, fun m h hm => by
          by_cases hmk : m < k
          · exact hrel1.out m h hmk
          · obtain rfl : m = k := by omega
            exact Hy.out, Hbv.out, x0_v⟩
        case measure => simp [intOf]; omega
    · have Hall : Hid (∀ m (h : m < C.length), RightTy b C[m]) := fun m h => hrel1.out m h (by omega)
      have cx00 : wr.cell? ⟨w.heap.size, 0, none⟩ = some (.int .i64 b) := x0_wr.cell rfl
      have cx01 : wr.cell? ⟨w.heap.size, 1, none⟩ = some (.slice ca C.length cc) := x0_wr.cell rfl
      have cx02 : wr.cell? ⟨w.heap.size, 2, none⟩ = some (.slice ma M.length mc) := x0_wr.cell rfl
      have lx0 := x0_wr.lt
      go_wp2_with fail
      clear cx00 cx01 cx02 lx0
      go_loopw [4] (fun i wr => ∃ k : Nat, i = .int .i64 k ∧ k ≤ M.length ∧ Hid (∀ m (h : m < M.length), m < k → RightTy b M[m]) ∧ Below w.heap.size w wr ∧ Blk wr w.heap.size #[.int .i64 b, .slice ca C.length cc, .slice ma M.length mc] 87) (fun i _ => M.length - (intOf i).toNat)
      case atStart => exact ⟨0, rfl, by omega, fun m _ h => absurd h (by omega), Hb.out, x0_wr⟩
      case round =>
        clear Hb x0_wr hrel1 hk hlt
        obtain ⟨k, rfl, hk, hrel, hb, x0_wr⟩ := hrel
        have Hb := Lib.hid hb; clear hb
        by_cases hlt : k < M.length
        · obtain ⟨bl, off, A, N, Cc, Bb, rfl, _, e1, e2, hT⟩ := Hm.out k hlt
          have hkx : Keep (fun _ => True) w wr := (Keep.refl _ _).below Hb.out
          have e1 := hkx _ _ _ trivial e1
          have e2 := hkx _ _ _ trivial e2
          have HT := Lib.hid (hT.bel Hb.out); clear hT
          have i0 : (0 : Int) ≤ (k : Int) := Int.natCast_nonneg _
          have i1 : (k : Int) < (M.length : Int) := by omega
          clear hkx
          have cx00 : wr.cell? ⟨w.heap.size, 0, none⟩ = some (.int .i64 b) := x0_wr.cell rfl
          have cx01 : wr.cell? ⟨w.heap.size, 1, none⟩ = some (.slice ca C.length cc) := x0_wr.cell rfl
          have cx02 : wr.cell? ⟨w.heap.size, 2, none⟩ = some (.slice (some ⟨bl, off, none⟩) M.length mc) := x0_wr.cell rfl
          have lx0 := x0_wr.lt
          go_wp2_with fail
          clear cx00 cx01 cx02 lx0
          refine wp_region_noPanic (wp_region_need (S := fun w' => w'.cell? ⟨w.heap.size, 0, none⟩ = some (.int .i64 b) ∧ w'.cell? ⟨w.heap.size, 2, none⟩ = some (.slice (some ⟨bl, off, none⟩) M.length mc) ∧ w'.cell? ⟨bl, off + k * 2, none⟩ = some (.slice A N Cc) ∧ w'.cell? ⟨bl, off + k * 2 + 1, none⟩ = some (.int .i64 Bb)) (by kernel_rfl) ?_)
          have hS : (wr.drew).cell? ⟨w.heap.size, 0, none⟩ = some (.int .i64 b) ∧ (wr.drew).cell? ⟨w.heap.size, 2, none⟩ = some (.slice (some ⟨bl, off, none⟩) M.length mc) ∧ (wr.drew).cell? ⟨bl, off + k * 2, none⟩ = some (.slice A N Cc) ∧ (wr.drew).cell? ⟨bl, off + k * 2 + 1, none⟩ = some (.int .i64 Bb) := ⟨x0_wr.drew.cell rfl, x0_wr.drew.cell rfl, e1, e2⟩
          refine wpN_take (i := 0) (v := ?v9) rfl (by kernel_rfl) (fun _ _ _ h => h) hS (Or.inl ⟨by rfl, ?hy9⟩) ?hr9
          case hy9 => (intro wS hSw; (try dsimp only at hSw); go_simp; (try with_reducible rfl))
          try simp only [Act.put, List.setIfInBounds_toArray, List.set_cons_zero, List.set_cons_succ, List.getElem_toArray, List.getElem_cons_zero, List.getElem_cons_succ]
          refine wpN_take (i := 1) (v := ?v10) rfl (by kernel_rfl) (fun _ _ _ h => h) hS (Or.inl ⟨by rfl, ?hy10⟩) ?hr10
          case hy10 => (intro wS hSw; (try dsimp only at hSw); go_simp; (try with_reducible rfl))
          try simp only [Act.put, List.setIfInBounds_toArray, List.set_cons_zero, List.set_cons_succ, List.getElem_toArray, List.getElem_cons_zero, List.getElem_cons_succ]
          refine wpN_take (i := 2) (v := ?v11) rfl (by kernel_rfl) (fun _ _ _ h => h) hS (Or.inl ⟨by rfl, ?hy11⟩) ?hr11
          case hy11 => (intro wS hSw; (try dsimp only at hSw); go_simp; (try with_reducible rfl))
          try simp only [Act.put, List.setIfInBounds_toArray, List.set_cons_zero, List.set_cons_succ, List.getElem_toArray, List.getElem_cons_zero, List.getElem_cons_succ]
          refine wpN_take (i := 3) (v := ?v12) rfl (by kernel_rfl) (fun _ _ _ h => h) hS (Or.inl ⟨by rfl, ?hy12⟩) ?hr12
          case hy12 => (intro wS hSw; (try dsimp only at hSw); go_simp; (try with_reducible rfl))
          try simp only [Act.put, List.setIfInBounds_toArray, List.set_cons_zero, List.set_cons_succ, List.getElem_toArray, List.getElem_cons_zero, List.getElem_cons_succ]
          refine wpN_take (i := 4) (v := ?v13) rfl (by kernel_rfl) (fun _ _ _ h => h) hS (Or.inl ⟨by rfl, ?hy13⟩) ?hr13
          case hy13 => (intro wS hSw; (try dsimp only at hSw); go_simp; (try with_reducible rfl))
          try simp only [Act.put, List.setIfInBounds_toArray, List.set_cons_zero, List.set_cons_succ, List.getElem_toArray, List.getElem_cons_zero, List.getElem_cons_succ]
          refine wpN_take (i := 5) (v := ?v14) rfl (by kernel_rfl) (fun _ _ _ h => h) hS (Or.inl ⟨by rfl, ?hy14⟩) ?hr14
          case hy14 => (intro wS hSw; (try dsimp only at hSw); go_simp; (try with_reducible rfl))
          try simp only [Act.put, List.setIfInBounds_toArray, List.set_cons_zero, List.set_cons_succ, List.getElem_toArray, List.getElem_cons_zero, List.getElem_cons_succ]
          refine wpN_take (i := 6) (v := ?v15) rfl (by kernel_rfl) (fun _ _ _ h => h) hS (Or.inl ⟨by rfl, ?hy15⟩) ?hr15
          case hy15 => (intro wS hSw; (try dsimp only at hSw); go_simp; (try with_reducible rfl))
          try simp only [Act.put, List.setIfInBounds_toArray, List.set_cons_zero, List.set_cons_succ, List.getElem_toArray, List.getElem_cons_zero, List.getElem_cons_succ]
          refine wpN_step (i := 7) (by kernel_rfl) rfl (fun K hK => ?_)
          go_simp
          refine (right_r (HT.out.bel (Below.refl _ _).drew) b).mono ?_
          intro e v h
          obtain ⟨r, Hr, rfl, hbx0⟩ := of_retB' h
          clear h
          have hbx : Below wr.heap.size wr v := (Below.refl _ _).drew.trans hbx0
          have hkx : Keep (fun _ => True) wr v := (Keep.refl _ _).below hbx
          have x0_v := x0_wr.below hbx
          have Hbv := Lib.hid (Hb.out.trans (hbx.mono Hb.out.size))
          have hS : (v).cell? ⟨w.heap.size, 0, none⟩ = some (.int .i64 b) ∧ (v).cell? ⟨w.heap.size, 2, none⟩ = some (.slice (some ⟨bl, off, none⟩) M.length mc) ∧ (v).cell? ⟨bl, off + k * 2, none⟩ = some (.slice A N Cc) ∧ (v).cell? ⟨bl, off + k * 2 + 1, none⟩ = some (.int .i64 Bb) := ⟨x0_v.cell rfl, x0_v.cell rfl, hkx _ _ _ trivial e1, hkx _ _ _ trivial e2⟩
          clear hkx hbx hbx0 e1 e2 x0_wr
          refine hK.out _ _ (fun _ => hS) ?_
          clear hK K
          try simp only [Act.put, List.setIfInBounds_toArray, List.set_cons_zero, List.set_cons_succ, List.getElem_toArray, List.getElem_cons_zero, List.getElem_cons_succ]
          refine wpN_take (i := 8) (v := ?v16) rfl (by kernel_rfl) (fun _ _ _ h => h) hS (Or.inl ⟨by rfl, ?hy16⟩) ?hr16
          case hy16 => (intro wS hSw; (try dsimp only at hSw); go_simp; (try with_reducible rfl))
          try simp only [Act.put, List.setIfInBounds_toArray, List.set_cons_zero, List.set_cons_succ, List.getElem_toArray, List.getElem_cons_zero, List.getElem_cons_succ]
          refine wpN_done (by kernel_rfl) ?_
          refine NoPanic.normal ?_
          clear hS
          cases r
          · have hn := Lib.hid (no_of Hr.out)
            go_wp2_with fail
            go_ret
            exact ⟨false, by
              simp only [Bool.false_eq_true, false_iff]
              rintro ⟨_, h⟩
              exact hn.out (h _ (List.mem_append_right _ (List.getElem_mem hlt))), rfl, Hbv.out⟩
          · have Hy := Lib.hid (yes_of Hr.out)
            go_wp2_with fail
            go_roundw
            case rel => exact ⟨k + 1, by go_num, by omega, fun m h hm => by
              by_cases hmk : m < k
              · exact hrel.out m h hmk
              · obtain rfl : m = k := by omega
                exact Hy.out, Hbv.out, x0_v⟩
            case measure => simp [intOf]; omega
        · have Hall2 : Hid (∀ m (h : m < M.length), RightTy b M[m]) := fun m h => hrel.out m h (by omega)
          have cx00 : wr.cell? ⟨w.heap.size, 0, none⟩ = some (.int .i64 b) := x0_wr.cell rfl
          have cx01 : wr.cell? ⟨w.heap.size, 1, none⟩ = some (.slice ca C.length cc) := x0_wr.cell rfl
          have cx02 : wr.cell? ⟨w.heap.size, 2, none⟩ = some (.slice ma M.length mc) := x0_wr.cell rfl
          have lx0 := x0_wr.lt
          go_wp2_with fail
          go_ret
          exact ⟨true, by
            simp only [true_iff]
            refine ⟨hlen.out, fun t ht => ?_⟩
            rcases List.mem_append.1 ht with ht | ht
            · obtain ⟨m, hm, rfl⟩ := List.getElem_of_mem ht
              exact Hall.out m hm
            · obtain ⟨m, hm, rfl⟩ := List.getElem_of_mem ht
              exact Hall2.out m hm, rfl, Hb.out⟩

def FreshWd (b : Int) (C M : List Ty) (w : World) (e : Ending) (w' : World) : Prop := ∃ cv mv, e = .returned (.agg #[.int .i64 b, cv, mv]) ∧ IsSl rpTy (fun q => w.heap.size ≤ q) w' cv C ∧ IsSl rpTy (fun q => w.heap.size ≤ q) w' mv M ∧ Below w.heap.size w w'

set_option maxRecDepth 100000 in
set_option maxHeartbeats 2000000 in
theorem world_any {F : Nat → Prop} {w : World} {b : Int} {cv mv : Value} {C M : List Ty} (hc : IsSl rpTy F w cv C) (hm : IsSl rpTy F w mv M) (hz : Ty.sizes C ≤ 1000000 ∧ Ty.sizes M ≤ 1000000) :
    Calls Try.prog 57 #[.agg #[.int .i64 b, cv, mv]] w (FreshWd b C M w) := by
  obtain ⟨ca, cc, rfl⟩ := hc.shape
  obtain ⟨ma, mc, rfl⟩ := hm.shape
  have Hc := Lib.hid fun (w' : World) (hb : Below w.heap.size w w') => types_any (hc.bel hb) w' (Keep.refl _ _) hz.1
  have Hm := Lib.hid fun (w' : World) (hb : Below w.heap.size w w') => types_any (hm.bel hb) w' (Keep.refl _ _) hz.2
  clear hc hm hz
  go_enter Try.func57, Try.ntmps57
  go_wp2_with fail
  obtain ⟨w2, hw2⟩ : ∃ w2, (w.alloc (.cells #[.int .i64 b, .slice ca C.length cc, .slice ma M.length mc] 87)).alloc (.cells #[.int .i64 0, .slice none 0 0, .slice none 0 0] 90) = w2 := ⟨_, rfl⟩
  have B_w2 : Below w.heap.size w w2 := by rw [← hw2]; exact ((Below.refl _ _).alloc (Nat.le_refl _) _).alloc (by simp) _
  have x0_w2 : Blk w2 w.heap.size #[.int .i64 b, .slice ca C.length cc, .slice ma M.length mc] 87 := by rw [← hw2]; exact (Blk.new _ _ _ rfl).alloc _
  have x1_w2 : Blk w2 (w.heap.size + 1) #[.int .i64 0, .slice none 0 0, .slice none 0 0] 90 := by rw [← hw2]; exact Blk.new _ _ _ (by simp)
  rw [hw2]
  clear hw2
  have hs2 : w.heap.size + 2 ≤ w2.heap.size := x1_w2.lt
  refine wp_region_noPanic (wp_region_need (S := fun w' => w'.cell? ⟨w.heap.size, 0, none⟩ = some (.int .i64 b) ∧ w'.cell? ⟨w.heap.size, 1, none⟩ = some (.slice ca C.length cc) ∧ w'.cell? ⟨w.heap.size, 2, none⟩ = some (.slice ma M.length mc) ∧ w'.cell? ⟨w.heap.size + 1, 0, none⟩ = some (.int .i64 0) ∧ w'.cell? ⟨w.heap.size + 1, 1, none⟩ = some (.slice none 0 0) ∧ w'.cell? ⟨w.heap.size + 1, 2, none⟩ = some (.slice none 0 0)) (by kernel_rfl) ?_)
  have hS : (w2.drew).cell? ⟨w.heap.size, 0, none⟩ = some (.int .i64 b) ∧ (w2.drew).cell? ⟨w.heap.size, 1, none⟩ = some (.slice ca C.length cc) ∧ (w2.drew).cell? ⟨w.heap.size, 2, none⟩ = some (.slice ma M.length mc) ∧ (w2.drew).cell? ⟨w.heap.size + 1, 0, none⟩ = some (.int .i64 0) ∧ (w2.drew).cell? ⟨w.heap.size + 1, 1, none⟩ = some (.slice none 0 0) ∧ (w2.drew).cell? ⟨w.heap.size + 1, 2, none⟩ = some (.slice none 0 0) := ⟨x0_w2.drew.cell rfl, x0_w2.drew.cell rfl, x0_w2.drew.cell rfl, x1_w2.drew.cell rfl, x1_w2.drew.cell rfl, x1_w2.drew.cell rfl⟩
  refine wpN_take (i := 0) (v := ?v17) rfl (by kernel_rfl) (fun _ _ _ h => h) hS (Or.inl ⟨by rfl, ?hy17⟩) ?hr17
  case hy17 => (intro wS hSw; (try dsimp only at hSw); go_simp; (try with_reducible rfl))
  try simp only [Act.put, List.setIfInBounds_toArray, List.set_cons_zero, List.set_cons_succ, List.getElem_toArray, List.getElem_cons_zero, List.getElem_cons_succ]
  refine wpN_take (i := 1) (v := ?v18) rfl (by kernel_rfl) (fun _ _ _ h => h) hS (Or.inl ⟨by rfl, ?hy18⟩) ?hr18
  case hy18 => (intro wS hSw; (try dsimp only at hSw); go_simp; (try with_reducible rfl))
  try simp only [Act.put, List.setIfInBounds_toArray, List.set_cons_zero, List.set_cons_succ, List.getElem_toArray, List.getElem_cons_zero, List.getElem_cons_succ]
  refine wpN_take (i := 2) (v := ?v19) rfl (by kernel_rfl) (fun _ _ _ h => h) hS (Or.inl ⟨by rfl, ?hy19⟩) ?hr19
  case hy19 => (intro wS hSw; (try dsimp only at hSw); go_simp; (try with_reducible rfl))
  try simp only [Act.put, List.setIfInBounds_toArray, List.set_cons_zero, List.set_cons_succ, List.getElem_toArray, List.getElem_cons_zero, List.getElem_cons_succ]
  refine wpN_take (i := 3) (v := ?v20) rfl (by kernel_rfl) (fun _ _ _ h => h) hS (Or.inl ⟨by rfl, ?hy20⟩) ?hr20
  case hy20 => (intro wS hSw; (try dsimp only at hSw); go_simp; (try with_reducible rfl))
  try simp only [Act.put, List.setIfInBounds_toArray, List.set_cons_zero, List.set_cons_succ, List.getElem_toArray, List.getElem_cons_zero, List.getElem_cons_succ]
  refine wpN_take (i := 5) (v := ?v21) rfl (by kernel_rfl) (fun _ _ _ h => h) hS (Or.inl ⟨by rfl, ?hy21⟩) ?hr21
  case hy21 => (intro wS hSw; (try dsimp only at hSw); go_simp; (try with_reducible rfl))
  try simp only [Act.put, List.setIfInBounds_toArray, List.set_cons_zero, List.set_cons_succ, List.getElem_toArray, List.getElem_cons_zero, List.getElem_cons_succ]
  refine wpN_take (i := 6) (v := ?v22) rfl (by kernel_rfl) (fun _ _ _ h => h) hS (Or.inl ⟨by rfl, ?hy22⟩) ?hr22
  case hy22 => (intro wS hSw; (try dsimp only at hSw); go_simp; (try with_reducible rfl))
  try simp only [Act.put, List.setIfInBounds_toArray, List.set_cons_zero, List.set_cons_succ, List.getElem_toArray, List.getElem_cons_zero, List.getElem_cons_succ]
  refine wpN_step (i := 4) (by kernel_rfl) rfl (fun K hK => ?_)
  go_simp
  refine (Hc.out w2.drew B_w2.drew).mono ?_
  rintro e w3 ⟨a3, c3, rfl, hT, hbx0⟩
  have hbx : Below w2.heap.size w2 w3 := (Below.refl _ _).drew.trans hbx0
  clear hbx0
  have x0_w3 := x0_w2.below hbx
  have x1_w3 := x1_w2.below hbx
  have B_w3 := B_w2.trans (hbx.mono B_w2.size)
  clear x0_w2 x1_w2 B_w2 hbx
  have hS : (w3).cell? ⟨w.heap.size, 0, none⟩ = some (.int .i64 b) ∧ (w3).cell? ⟨w.heap.size, 1, none⟩ = some (.slice ca C.length cc) ∧ (w3).cell? ⟨w.heap.size, 2, none⟩ = some (.slice ma M.length mc) ∧ (w3).cell? ⟨w.heap.size + 1, 0, none⟩ = some (.int .i64 0) ∧ (w3).cell? ⟨w.heap.size + 1, 1, none⟩ = some (.slice none 0 0) ∧ (w3).cell? ⟨w.heap.size + 1, 2, none⟩ = some (.slice none 0 0) := ⟨x0_w3.cell rfl, x0_w3.cell rfl, x0_w3.cell rfl, x1_w3.cell rfl, x1_w3.cell rfl, x1_w3.cell rfl⟩
  refine hK.out _ _ (fun _ => hS) ?_
  clear hK K
  try simp only [Act.put, List.setIfInBounds_toArray, List.set_cons_zero, List.set_cons_succ, List.getElem_toArray, List.getElem_cons_zero, List.getElem_cons_succ]
  have hs3 : w.heap.size + 2 ≤ w3.heap.size := by have := x1_w3.lt; omega
  have T_w3 := Lib.hid (hT.weaken (F' := fun q => w.heap.size + 2 ≤ q) (by decide) fun q _ h => Nat.le_trans hs2 h)
  clear hT
  refine wpN_step (i := 7) (by kernel_rfl) rfl (fun K hK => ?_)
  go_simp
  refine (Hm.out w3 B_w3).mono ?_
  rintro e w4 ⟨a4, c4, rfl, hT, hbx0⟩
  have hbx : Below w3.heap.size w3 w4 := hbx0
  clear hbx0
  have x0_w4 := x0_w3.below hbx
  have x1_w4 := x1_w3.below hbx
  have T_w4 := Lib.hid (T_w3.out.bel hbx)
  have B_w4 := B_w3.trans (hbx.mono B_w3.size)
  clear x0_w3 x1_w3 T_w3 B_w3 hbx
  have hS : (w4).cell? ⟨w.heap.size, 0, none⟩ = some (.int .i64 b) ∧ (w4).cell? ⟨w.heap.size, 1, none⟩ = some (.slice ca C.length cc) ∧ (w4).cell? ⟨w.heap.size, 2, none⟩ = some (.slice ma M.length mc) ∧ (w4).cell? ⟨w.heap.size + 1, 0, none⟩ = some (.int .i64 0) ∧ (w4).cell? ⟨w.heap.size + 1, 1, none⟩ = some (.slice none 0 0) ∧ (w4).cell? ⟨w.heap.size + 1, 2, none⟩ = some (.slice none 0 0) := ⟨x0_w4.cell rfl, x0_w4.cell rfl, x0_w4.cell rfl, x1_w4.cell rfl, x1_w4.cell rfl, x1_w4.cell rfl⟩
  refine hK.out _ _ (fun _ => hS) ?_
  clear hK K
  try simp only [Act.put, List.setIfInBounds_toArray, List.set_cons_zero, List.set_cons_succ, List.getElem_toArray, List.getElem_cons_zero, List.getElem_cons_succ]
  have U_w4 := Lib.hid (hT.weaken (F' := fun q => w.heap.size + 2 ≤ q) (by decide) fun q _ h => Nat.le_trans hs3 h)
  clear hT
  refine wpN_take (i := 8) (v := ?v23) rfl (by kernel_rfl) (fun _ _ _ h => h) hS (Or.inl ⟨by rfl, ?hy23⟩) ?hr23
  case hy23 => (intro wS hSw; (try dsimp only at hSw); go_simp; (try with_reducible rfl))
  try simp only [Act.put, List.setIfInBounds_toArray, List.set_cons_zero, List.set_cons_succ, List.getElem_toArray, List.getElem_cons_zero, List.getElem_cons_succ]
  have r0 : w4.cell? ⟨w.heap.size + 1, 0, none⟩ = some (.int .i64 0) := x1_w4.cell rfl
  have r1 : w4.cell? ⟨w.heap.size + 1, 1, none⟩ = some (.slice none 0 0) := x1_w4.cell rfl
  have r2 : w4.cell? ⟨w.heap.size + 1, 2, none⟩ = some (.slice none 0 0) := x1_w4.cell rfl
  have f0 := x1_w4.free 0
  have f1 := x1_w4.free 1
  have f2 := x1_w4.free 2
  refine wpN_step (i := 9) (by kernel_rfl) rfl (fun K hK => ?_)
  have hK := Lib.hid hK
  simp only [Act.put, List.setIfInBounds_toArray, List.set_cons_zero, List.set_cons_succ, List.getElem_toArray, List.getElem_cons_zero, List.getElem_cons_succ]
  go_simp
  refine hK.out.out _ _ (fun h => absurd h (by decide)) ?_
  refine wpN_done (by kernel_rfl) ?_
  refine NoPanic.normal ?_
  go_wp2_with fail
  have z0_0 := ((x1_w4).set 0 (.int .i64 b)).cell (i := 0) (v := .int .i64 b) rfl
  have z0_2 := ((((x1_w4).set 0 (.int .i64 b)).set 1 (.slice a3 C.length c3)).set 2 (.slice a4 M.length c4)).cell (i := 0) (v := .int .i64 b) rfl
  have z1_1 := (((x1_w4).set 0 (.int .i64 b)).set 1 (.slice a3 C.length c3)).cell (i := 1) (v := .slice a3 C.length c3) rfl
  have z1_2 := ((((x1_w4).set 0 (.int .i64 b)).set 1 (.slice a3 C.length c3)).set 2 (.slice a4 M.length c4)).cell (i := 1) (v := .slice a3 C.length c3) rfl
  have z2_2 := ((((x1_w4).set 0 (.int .i64 b)).set 1 (.slice a3 C.length c3)).set 2 (.slice a4 M.length c4)).cell (i := 2) (v := .slice a4 M.length c4) rfl
  refine bodyPost_ret (v := .agg #[.int .i64 b, .slice a3 C.length c3, .slice a4 M.length c4]) (by simp [results, Try.results57, go_sem, z0_0, z0_2, z1_1, z1_2, z2_2]) rfl ?_
  clear z0_0 z0_2 z1_1 z1_2 z2_2
  have KP : Keep (fun q => w.heap.size + 2 ≤ q) w4 (((w4.setCell ⟨w.heap.size + 1, 0, none⟩ (.int .i64 b)).setCell ⟨w.heap.size + 1, 1, none⟩ (.slice a3 C.length c3)).setCell ⟨w.heap.size + 1, 2, none⟩ (.slice a4 M.length c4)) :=
    (((Keep.refl _ _).setCell _ _ (by simp)).setCell _ _ (by simp)).setCell _ _ (by simp)
  exact ⟨_, _, rfl, (T_w4.out.keep KP).weaken (by decide) fun q _ h => by omega, (U_w4.out.keep KP).weaken (by decide) fun q _ h => by omega, ((B_w4.setCell (by simp) _).setCell (by simp) _).setCell (by simp) _⟩

def SmallWd (C M X : List Ty) : Prop := C.length ≤ 20 ∧ M.length ≤ 20 ∧ X.length ≤ 20 ∧ ∀ t ∈ (C ++ M) ++ X, t.size ≤ 60 ∧ t.depth ≤ 60

set_option maxRecDepth 100000 in
set_option maxHeartbeats 2000000 in
theorem small_any {F : Nat → Prop} {w : World} {b : Int} {cv mv xv : Value} {C M X : List Ty} (hc : IsSl rpTy F w cv C) (hm : IsSl rpTy F w mv M) (hx : IsSl rpTy F w xv X) :
    Calls Try.prog 56 #[.agg #[.int .i64 b, cv, mv], xv] w (RetY (SmallWd C M X) w) := by
  obtain ⟨ca, cc, rfl⟩ := hc.shape
  obtain ⟨ma, mc, rfl⟩ := hm.shape
  obtain ⟨xa, xc, rfl⟩ := hx.shape
  have hlc : (C.length : Int) ≤ 9223372036854775807 := by obtain ⟨_, _, _, _, _, _, h, _⟩ := hc; unfold maxLen at h; omega
  have hlm : (M.length : Int) ≤ 9223372036854775807 := by obtain ⟨_, _, _, _, _, _, h, _⟩ := hm; unfold maxLen at h; omega
  have hlx : (X.length : Int) ≤ 9223372036854775807 := by obtain ⟨_, _, _, _, _, _, h, _⟩ := hx; unfold maxLen at h; omega
  by_cases g1 : (20 : Int) < (C.length : Int)
  · clear hc hm hx
    go_enter Try.func56, Try.ntmps56
    go_wp2_with fail
    go_ret
    exact ⟨false, fun h => absurd h (by decide), rfl, (Below.refl _ _).alloc (Nat.le_refl _) _⟩
  by_cases g2 : (20 : Int) < (M.length : Int)
  · clear hc hm hx
    go_enter Try.func56, Try.ntmps56
    go_wp2_with fail
    go_ret
    exact ⟨false, fun h => absurd h (by decide), rfl, (Below.refl _ _).alloc (Nat.le_refl _) _⟩
  by_cases g3 : (20 : Int) < (X.length : Int)
  · clear hc hm hx
    go_enter Try.func56, Try.ntmps56
    go_wp2_with fail
    go_ret
    exact ⟨false, fun h => absurd h (by decide), rfl, (Below.refl _ _).alloc (Nat.le_refl _) _⟩
  have Hb1 := Lib.hid fun (w' : World) (hb : Below w.heap.size w w') => behind_r (IsSl2.of (hc.bel hb)) (IsSl2.of (hm.bel hb)) (by omega)
  have Hx := Lib.hid hx
  clear hc hm hx
  have Hl : Hid (C.length ≤ 20 ∧ M.length ≤ 20 ∧ X.length ≤ 20) := by refine ⟨?_, ?_, ?_⟩ <;> omega
  obtain ⟨Y, hY⟩ : ∃ Y, C ++ M = Y := ⟨_, rfl⟩
  have HY := Lib.hid hY
  have hyl : Y.length ≤ 40 := by rw [← hY]; simp; omega
  rw [hY] at Hb1
  clear hY
  go_enter Try.func56, Try.ntmps56
  go_wp2_with fail
  have hb1 : Below w.heap.size w (w.alloc (.cells #[.int .i64 b, .slice ca C.length cc, .slice ma M.length mc] 87)) := (Below.refl _ _).alloc (Nat.le_refl _) _
  refine (Hb1.out _ hb1).mono ?_
  rintro e w2 ⟨a2, c2, rfl, hT, hb2⟩
  have B2 := hb1.trans (hb2.mono hb1.size)
  have HT := Lib.hid hT; clear hT hb1 hb2
  have Hb2 := Lib.hid (behind_r HT.out (IsSl2.of (Hx.out.bel B2)) (by omega))
  obtain ⟨Z, hZ⟩ : ∃ Z, Y ++ X = Z := ⟨_, rfl⟩
  have HZ := Lib.hid hZ
  rw [hZ] at Hb2
  have hzl : (Z.length : Int) ≤ 1000 := by rw [← hZ]; simp; omega
  clear hZ
  go_wp2_with fail
  refine Hb2.out.mono ?_
  rintro e w3 ⟨a3, c3, rfl, hT, hb3⟩
  have B3 := B2.trans (hb3.mono B2.size)
  have Hat := Lib.hid (sl_at hT)
  clear hT hb3 HT Hb2 Hx
  go_wp2_with fail
  go_loopw [6] (fun i wr => ∃ k : Nat, i = .int .i64 k ∧ k ≤ Z.length ∧ Hid (∀ m (h : m < Z.length), m < k → Z[m].size ≤ 60 ∧ Z[m].depth ≤ 60) ∧ Below w3.heap.size w3 wr) (fun i _ => Z.length - (intOf i).toNat)
  case atStart => exact ⟨0, rfl, by omega, fun m _ h => absurd h (by omega), Below.refl _ _⟩
  case round =>
    obtain ⟨k, rfl, hk, hrel1, hb⟩ := hrel
    have Hb := Lib.hid (B3.trans (hb.mono B3.size))
    by_cases hlt : k < Z.length
    · obtain ⟨bl, off, A, N, Cc, Bb, rfl, _, e1, e2, hT⟩ := Hat.out k hlt
      have hkx : Keep (fun _ => True) w3 wr := (Keep.refl _ _).below hb
      have e1 := hkx _ _ _ trivial e1
      have e2 := hkx _ _ _ trivial e2
      have HT := Lib.hid (hT.bel hb); clear hT
      have i0 : (0 : Int) ≤ (k : Int) := Int.natCast_nonneg _
      have i1 : (k : Int) < (Z.length : Int) := by omega
      clear hkx
      go_wp2_with fail
      refine (Few_any HT.out 60 60 (by omega) (by omega) (by omega) (by omega)).mono ?_
      intro e v h
      obtain ⟨r, Hr, rfl, hbx⟩ := of_retB' h
      clear h e1 e2
      cases r
      · clear Hr
        go_wp2_with fail
        go_ret
        exact ⟨false, fun h => absurd h (by decide), rfl, Hb.out.trans (hbx.mono Hb.out.size)⟩
      · have Hy := Lib.hid (yes_of Hr.out)
        go_wp2_with fail
        go_roundw
        case rel => exact ⟨k + 1, by go_num, by omega, fun m h hm => by
          by_cases hmk : m < k
          · exact hrel1.out m h hmk
          · obtain rfl : m = k := by omega
            have := Hy.out
            omega, hb.trans (hbx.mono hb.size)⟩
        case measure => simp [intOf]; omega
    · have i1 : ¬ (k : Int) < (Z.length : Int) := by omega
      go_wp2_with fail
      go_ret
      exact ⟨true, fun _ => ⟨Hl.out.1, Hl.out.2.1, Hl.out.2.2, fun t ht => by
        rw [HY.out, HZ.out] at ht
        obtain ⟨m, hm, rfl⟩ := List.getElem_of_mem ht
        exact hrel1.out m hm (by omega)⟩, rfl, Hb.out⟩
end Go.Proofs.Ytejpgifofkiofaa

namespace Go.Proofs.Ytejpgifofkiofaa
open Go.RowKit

section
variable {w : World} {b : Int} {cv mv xv tb tk ti ta s ub : Value} {C M X : List Ty} {t : Tm} {u : Ty}
theorem IsSl.low {α : Type} {r : Rp α} {v : Value} {l : List α} (hn : 0 < r.n) (h : IsSl r (fun _ => True) w v l) : IsSl r (fun q => q < w.heap.size) w v l := h.weaken hn fun _ hq _ => hq
theorem TyPostE.true {F : Nat → Prop} {o : Option Ty} {e : Ending} {w' : World} (h : TyPostE F o w e w') : TyPostE (fun _ => True) o w e w' := by
  obtain ⟨s, b, h1, h2, h3⟩ := h
  exact ⟨s, b, h1, h2.trueb, h3⟩
theorem HeadPost.true {F : Nat → Prop} {o : Option Ty} {e : Ending} {w' : World} (h : HeadPost F o w e w') : HeadPost (fun _ => True) o w e w' := by
  obtain ⟨s, b, h1, h2, h3⟩ := h
  exact ⟨s, b, h1, h2.trueb, h3⟩
theorem HeadType_kT (hc : IsSl rpTy (fun _ => True) w cv C) (hm : IsSl rpTy (fun _ => True) w mv M) (hx : IsSl rpTy (fun _ => True) w xv X) (k i : Int) (hi : i ≤ 9223372036854775807) (hsz : ∀ t, headTy C M X k i = some t → t.size ≤ 90000) :
    Calls Try.prog 59 #[.agg #[.int .i64 b, cv, mv], xv, .agg #[.int .i64 k, .int .i64 i]] w (TyPostE (fun _ => True) (headTy C M X k i) w) :=
  (HeadType_k (F := fun q => q < w.heap.size) (fun _ h => h) (hc.low (by decide)) (hm.low (by decide)) ((IsSl2.of (hx.low (by decide))).anyRow (by decide)) k i hi hsz).mono fun _ _ h => h.true
theorem headType_rT (hc : IsSl rpTy (fun _ => True) w cv C) (hm : IsSl rpTy (fun _ => True) w mv M) (hx : IsSl rpTy (fun _ => True) w xv X) (k i : Int) :
    Calls Try.prog 60 #[.agg #[.int .i64 b, cv, mv], xv, .agg #[.int .i64 k, .int .i64 i]] w (HeadPost (fun _ => True) (headTy C M X k i) w) :=
  (headType_r (F := fun q => q < w.heap.size) (fun _ h => h) (hc.low (by decide)) (hm.low (by decide)) ((IsSl2.of (hx.low (by decide))).anyRow (by decide)) k i).mono fun _ _ h => h.true
theorem TypeOf_kT (hc : IsSl rpTy (fun _ => True) w cv C) (hm : IsSl rpTy (fun _ => True) w mv M) (hx : IsSl rpTy (fun _ => True) w xv X) (ht : IsTm (fun _ => True) w tb tk ti ta t) (hi : t.index ≤ 9223372036854775807) (hl : X.length ≤ 50000) (hz : t.full ≤ 40000) :
    Calls Try.prog 61 #[.agg #[.int .i64 b, cv, mv], xv, .agg #[tb, tk, ti, ta]] w (TyPostE (fun _ => True) ((headTy C M (X ++ t.binds) t.kind t.index).map fun h => .mk t.binds h.base) w) :=
  (TypeOf_k (F := fun q => q < w.heap.size) (fun _ h => h) (hc.low (by decide)) (hm.low (by decide)) ((IsSl2.of (hx.low (by decide))).anyRow (by decide)) (ht.weaken fun _ hq _ => hq) hi hl hz).mono fun _ _ h => h.true
theorem TypeOf_rT (hc : IsSl rpTy (fun _ => True) w cv C) (hm : IsSl rpTy (fun _ => True) w mv M) (hx : IsSl rpTy (fun _ => True) w xv X) (ht : IsTm (fun _ => True) w tb tk ti ta t) (hi : t.index ≤ 9223372036854775807) (hl : X.length ≤ 50000) (hz : t.full ≤ 40000) :
    Calls Try.prog 62 #[.agg #[.int .i64 b, cv, mv], xv, .agg #[tb, tk, ti, ta]] w (HeadPost (fun _ => True) ((headTy C M (X ++ t.binds) t.kind t.index).map fun h => .mk t.binds h.base) w) :=
  (TypeOf_r (F := fun q => q < w.heap.size) (fun _ h => h) (hc.low (by decide)) (hm.low (by decide)) ((IsSl2.of (hx.low (by decide))).anyRow (by decide)) (ht.weaken fun _ hq _ => hq) hi hl hz).mono fun _ _ h => h.true
theorem Check_kT (hc : IsSl rpTy (fun _ => True) w cv C) (hm : IsSl rpTy (fun _ => True) w mv M) (hx : IsSl rpTy (fun _ => True) w xv X) (ht : IsTm (fun _ => True) w tb tk ti ta t) (hu : IsTy (fun _ => True) w s ub u) (hz : X.length + t.full ≤ 90000) (hfit : t.Fit) :
    Calls Try.prog 63 #[.agg #[.int .i64 b, cv, mv], xv, .agg #[tb, tk, ti, ta], .agg #[s, ub]] w (RetCheck C M t X u w) :=
  Check_k (F := fun q => q < w.heap.size) t w _ _ _ _ _ _ _ _ _ X u (fun _ h => h) (hc.low (by decide)) (hm.low (by decide)) ((IsSl2.of (hx.low (by decide))).anyRow (by decide)) (ht.weaken fun _ hq _ => hq) (hu.weaken fun _ hq _ => hq) hz hfit
theorem Check_rT (hc : IsSl rpTy (fun _ => True) w cv C) (hm : IsSl rpTy (fun _ => True) w mv M) (hx : IsSl rpTy (fun _ => True) w xv X) (ht : IsTm (fun _ => True) w tb tk ti ta t) (hu : IsTy (fun _ => True) w s ub u) (hz : X.length + t.full ≤ 90000) (hfit : t.Fit) :
    Calls Try.prog 64 #[.agg #[.int .i64 b, cv, mv], xv, .agg #[tb, tk, ti, ta], .agg #[s, ub]] w (RetCheck C M t X u w) :=
  Check_r (F := fun q => q < w.heap.size) t w _ _ _ _ _ _ _ _ _ X u (fun _ h => h) (hc.low (by decide)) (hm.low (by decide)) ((IsSl2.of (hx.low (by decide))).anyRow (by decide)) (ht.weaken fun _ hq _ => hq) (hu.weaken fun _ hq _ => hq) hz hfit
end
def TyRet (z : Ty) (c : Int) (w : World) (e : Ending) (w' : World) : Prop := ∃ s b, e = .returned (.tuple #[.agg #[s, b], .int .i64 c]) ∧ IsTy (fun _ => True) w' s b z ∧ Below w.heap.size w w'
def HdRet (z : Ty) (k : Bool) (w : World) (e : Ending) (w' : World) : Prop := ∃ s b, e = .returned (.tuple #[.agg #[s, b], .bool k]) ∧ IsTy (fun _ => True) w' s b z ∧ Below w.heap.size w w'
theorem TyPostE.to {o : Option Ty} {z : Ty} {k : Bool} {c : Int} {w : World} {e : Ending} {w' : World} (hk : o.isSome = k) (hz : o.getD tyZ = z) (hc : c = if k then 0 else 10) (h : TyPostE (fun _ => True) o w e w') : TyRet z c w e w' := by
  subst hk hz hc; exact h
theorem HeadPost.to {o : Option Ty} {z : Ty} {k : Bool} {w : World} {e : Ending} {w' : World} (hk : o.isSome = k) (hz : o.getD tyZ = z) (h : HeadPost (fun _ => True) o w e w') : HdRet z k w e w' := by
  subst hk hz; exact h
theorem headTy_mem {C M X : List Ty} {k i : Int} {t : Ty} (h : headTy C M X k i = some t) : t ∈ (C ++ M) ++ X := by
  unfold headTy at h
  simp only [List.mem_append]
  split at h
  · cases h
  split at h
  · exact .inr (by have := List.mem_of_getElem? h; simpa using this)
  split at h
  · exact .inl (.inl (List.mem_of_getElem? h))
  split at h
  · exact .inl (.inr (List.mem_of_getElem? h))
  · cases h
theorem sizes_le_of {l : List Ty} {n : Nat} (h : ∀ t ∈ l, t.size ≤ n) : Ty.sizes l ≤ l.length * n := by
  induction l with
  | nil => simp [Ty.sizes]
  | cons t l ih =>
    have h1 := h t (by simp)
    have h2 := ih fun u hu => h u (by simp [hu])
    simp only [Ty.sizes, List.length_cons, Nat.succ_mul]
    omega
end Go.Proofs.Ytejpgifofkiofaa

