/-
  Whether two types are the same, as the reference asks it.
-/
import Derived.Test.YtejpgifofkiofaaRefKind
namespace Go.Proofs.Ytejpgifofkiofaa
open Go.RowKit

theorem take_eq_succ {α : Type} {l r : List α} {k : Nat} (hl : k < l.length) (hr : k < r.length) (h : l.take k = r.take k) (h' : l[k] = r[k]) : l.take (k + 1) = r.take (k + 1) := by
  rw [List.take_succ_eq_append_getElem hl, List.take_succ_eq_append_getElem hr, h, h']

set_option maxHeartbeats 1000000 in
theorem same_r {F : Nat → Prop} {w0 : World} {s b : Value} {t : Ty} (ht : IsTy F w0 s b t) : ∀ {F' : Nat → Prop} {w0' : World} {s' b' : Value} {u : Ty} (_ : IsTy F' w0' s' b' u) (w : World), Keep F w0 w → Keep F' w0' w →
    Calls Try.prog 40 #[.agg #[s, b], .agg #[s', b']] w (RetB (t = u) w) := by
  induction ht with
  | mk a n c b args bl off A N C B hn hm ha h1 h2 h3 ih =>
  intro F' w0' s' b' u hu w hw hw'
  cases hu with
  | mk a' n' c' b' args' bl' off' A' N' C' B' hn' hm' ha' h1' h2' h3' =>
  clear h3
  subst hn
  subst hn'
  unfold maxLen at hm hm'
  have Hih := Lib.hid ih; clear ih
  have Hu := Lib.hid h3'; clear h3'
  by_cases hbb : b = b'
  rotate_left
  · have hg : (b == b') = false := by simpa using hbb
    have hg' : (b != b') = true := by simpa using hbb
    go_enter Try.func40, Try.ntmps40
    go_wp2_with fail
    go_ret
    exact ⟨false, by simp [hbb], rfl, ((Below.refl _ _).alloc (Nat.le_refl _) _).alloc (by simp) _⟩
  subst hbb
  by_cases hll : args.length = args'.length
  rotate_left
  · have hg : ((args.length : Int) == (args'.length : Int)) = false := by simpa using by omega
    have hg' : ((args.length : Int) != (args'.length : Int)) = true := by simpa using by omega
    go_enter Try.func40, Try.ntmps40
    go_wp2_with fail
    go_ret
    refine ⟨false, ?_, rfl, ((Below.refl _ _).alloc (Nat.le_refl _) _).alloc (by simp) _⟩
    simp; intro h; rw [h] at hll; exact hll rfl
  have Hll := Lib.hid hll
  have hg : ((args.length : Int) == (args'.length : Int)) = true := by simpa using by omega
  have hg' : ((args.length : Int) != (args'.length : Int)) = false := by simpa using by omega
  clear hll
  go_enter Try.func40, Try.ntmps40
  go_wp2_with fail
  go_loopw [5] (fun i wr => ∃ k : Nat, i = .int .i64 k ∧ k ≤ args.length ∧ Hid (args.take k = args'.take k) ∧ Below w.heap.size w wr ∧ Blk wr w.heap.size #[.slice a args.length c, .int .i64 b] 26 ∧ Blk wr (w.heap.size + 1) #[.slice a' args'.length c', .int .i64 b] 26) (fun i _ => args.length - (intOf i).toNat)
  case atStart => exact ⟨0, rfl, by omega, rfl, ((Below.refl _ _).alloc (Nat.le_refl _) _).alloc (by simp) _, (Blk.new _ _ _ rfl).alloc _, Blk.new _ _ _ (by simp)⟩
  case round =>
    obtain ⟨k, rfl, hk, hall, hb, hbox, hbox'⟩ := hrel
    have c0 : wr.cell? ⟨w.heap.size, 0, none⟩ = some (.slice a args.length c) := hbox.cell rfl
    have c0' : wr.cell? ⟨w.heap.size + 1, 0, none⟩ = some (.slice a' args'.length c') := hbox'.cell rfl
    have hlt0 := hbox'.lt
    by_cases hlt : k < args.length
    · have hlt' : k < args'.length := by rw [← Hll.out]; exact hlt
      obtain ⟨rfl, hF⟩ := ha (by omega)
      obtain ⟨rfl, hF'⟩ := ha' (by omega)
      have e1 : wr.cell? ⟨bl, off + k * 2, none⟩ = some (.slice (A k) (N k) (C k)) := (hw.below hb) _ _ _ hF (h1 k hlt)
      have e2 : wr.cell? ⟨bl, off + k * 2 + 1, none⟩ = some (.int .i64 (B k)) := (hw.below hb) _ _ _ hF (h2 k hlt)
      have e1' : wr.cell? ⟨bl', off' + k * 2, none⟩ = some (.slice (A' k) (N' k) (C' k)) := (hw'.below hb) _ _ _ hF' (h1' k hlt')
      have e2' : wr.cell? ⟨bl', off' + k * 2 + 1, none⟩ = some (.int .i64 (B' k)) := (hw'.below hb) _ _ _ hF' (h2' k hlt')
      have i0 : (0 : Int) ≤ (k : Int) := Int.natCast_nonneg _
      have i1 : (k : Int) < (args.length : Int) := by omega
      have i2 : (k : Int) < (args'.length : Int) := by omega
      go_wp2_with fail
      refine wp_region_noPanic (wp_region_need (S := fun w' => w'.cell? ⟨w.heap.size, 0, none⟩ = some (.slice (some ⟨bl, off, none⟩) args.length c) ∧ w'.cell? ⟨w.heap.size + 1, 0, none⟩ = some (.slice (some ⟨bl', off', none⟩) args'.length c') ∧ w'.cell? ⟨bl, off + k * 2, none⟩ = some (.slice (A k) (N k) (C k)) ∧ w'.cell? ⟨bl, off + k * 2 + 1, none⟩ = some (.int .i64 (B k)) ∧ w'.cell? ⟨bl', off' + k * 2, none⟩ = some (.slice (A' k) (N' k) (C' k)) ∧ w'.cell? ⟨bl', off' + k * 2 + 1, none⟩ = some (.int .i64 (B' k))) (by kernel_rfl) ?_)
      have hS : (wr.drew).cell? ⟨w.heap.size, 0, none⟩ = some (.slice (some ⟨bl, off, none⟩) args.length c) ∧ (wr.drew).cell? ⟨w.heap.size + 1, 0, none⟩ = some (.slice (some ⟨bl', off', none⟩) args'.length c') ∧ (wr.drew).cell? ⟨bl, off + k * 2, none⟩ = some (.slice (A k) (N k) (C k)) ∧ (wr.drew).cell? ⟨bl, off + k * 2 + 1, none⟩ = some (.int .i64 (B k)) ∧ (wr.drew).cell? ⟨bl', off' + k * 2, none⟩ = some (.slice (A' k) (N' k) (C' k)) ∧ (wr.drew).cell? ⟨bl', off' + k * 2 + 1, none⟩ = some (.int .i64 (B' k)) := ⟨c0, c0', e1, e2, e1', e2'⟩
      refine wpN_take (i := 0) (v := ?v1) rfl (by kernel_rfl) (fun _ _ _ h => h) hS (Or.inl ⟨by rfl, ?hy1⟩) ?hr1
      case hy1 => (intro wS hSw; (try dsimp only at hSw); go_simp; (try with_reducible rfl))
      try simp only [Act.put, List.setIfInBounds_toArray, List.set_cons_zero, List.set_cons_succ]
      refine wpN_take (i := 1) (v := ?v2) rfl (by kernel_rfl) (fun _ _ _ h => h) hS (Or.inl ⟨by rfl, ?hy2⟩) ?hr2
      case hy2 => (intro wS hSw; (try dsimp only at hSw); go_simp; (try with_reducible rfl))
      try simp only [Act.put, List.setIfInBounds_toArray, List.set_cons_zero, List.set_cons_succ]
      refine wpN_take (i := 2) (v := ?v3) rfl (by kernel_rfl) (fun _ _ _ h => h) hS (Or.inl ⟨by rfl, ?hy3⟩) ?hr3
      case hy3 => (intro wS hSw; (try dsimp only at hSw); go_simp; (try with_reducible rfl))
      try simp only [Act.put, List.setIfInBounds_toArray, List.set_cons_zero, List.set_cons_succ]
      refine wpN_take (i := 3) (v := ?v4) rfl (by kernel_rfl) (fun _ _ _ h => h) hS (Or.inl ⟨by rfl, ?hy4⟩) ?hr4
      case hy4 => (intro wS hSw; (try dsimp only at hSw); go_simp; (try with_reducible rfl))
      try simp only [Act.put, List.setIfInBounds_toArray, List.set_cons_zero, List.set_cons_succ]
      refine wpN_take (i := 4) (v := ?v5) rfl (by kernel_rfl) (fun _ _ _ h => h) hS (Or.inl ⟨by rfl, ?hy5⟩) ?hr5
      case hy5 => (intro wS hSw; (try dsimp only at hSw); go_simp; (try with_reducible rfl))
      try simp only [Act.put, List.setIfInBounds_toArray, List.set_cons_zero, List.set_cons_succ]
      refine wpN_take (i := 5) (v := ?v6) rfl (by kernel_rfl) (fun _ _ _ h => h) hS (Or.inl ⟨by rfl, ?hy6⟩) ?hr6
      case hy6 => (intro wS hSw; (try dsimp only at hSw); go_simp; (try with_reducible rfl))
      try simp only [Act.put, List.setIfInBounds_toArray, List.set_cons_zero, List.set_cons_succ]
      refine wpN_take (i := 6) (v := ?v7) rfl (by kernel_rfl) (fun _ _ _ h => h) hS (Or.inl ⟨by rfl, ?hy7⟩) ?hr7
      case hy7 => (intro wS hSw; (try dsimp only at hSw); go_simp; (try with_reducible rfl))
      try simp only [Act.put, List.setIfInBounds_toArray, List.set_cons_zero, List.set_cons_succ]
      refine wpN_take (i := 7) (v := ?v8) rfl (by kernel_rfl) (fun _ _ _ h => h) hS (Or.inl ⟨by rfl, ?hy8⟩) ?hr8
      case hy8 => (intro wS hSw; (try dsimp only at hSw); go_simp; (try with_reducible rfl))
      try simp only [Act.put, List.setIfInBounds_toArray, List.set_cons_zero, List.set_cons_succ]
      refine wpN_take (i := 8) (v := ?v9) rfl (by kernel_rfl) (fun _ _ _ h => h) hS (Or.inl ⟨by rfl, ?hy9⟩) ?hr9
      case hy9 => (intro wS hSw; (try dsimp only at hSw); go_simp; (try with_reducible rfl))
      try simp only [Act.put, List.setIfInBounds_toArray, List.set_cons_zero, List.set_cons_succ]
      refine wpN_take (i := 9) (v := ?v10) rfl (by kernel_rfl) (fun _ _ _ h => h) hS (Or.inl ⟨by rfl, ?hy10⟩) ?hr10
      case hy10 => (intro wS hSw; (try dsimp only at hSw); go_simp; (try with_reducible rfl))
      try simp only [Act.put, List.setIfInBounds_toArray, List.set_cons_zero, List.set_cons_succ]
      refine wpN_step (i := 10) (by kernel_rfl) rfl (fun K hK => ?_)
      go_simp
      refine (Hih.out k hlt (Hu.out k hlt') _ (hw.below hb).drew (hw'.below hb).drew).mono ?_
      rintro e w1 ⟨r, hr, rfl, hb1⟩
      have hB : Below w.heap.size w w1 := hb.drew.trans (hb1.mono (by simp; omega))
      have hKp : Keep (fun _ => True) wr w1 := ((Keep.refl _ _).drew).below hb1
      have hS : (w1).cell? ⟨w.heap.size, 0, none⟩ = some (.slice (some ⟨bl, off, none⟩) args.length c) ∧ (w1).cell? ⟨w.heap.size + 1, 0, none⟩ = some (.slice (some ⟨bl', off', none⟩) args'.length c') ∧ (w1).cell? ⟨bl, off + k * 2, none⟩ = some (.slice (A k) (N k) (C k)) ∧ (w1).cell? ⟨bl, off + k * 2 + 1, none⟩ = some (.int .i64 (B k)) ∧ (w1).cell? ⟨bl', off' + k * 2, none⟩ = some (.slice (A' k) (N' k) (C' k)) ∧ (w1).cell? ⟨bl', off' + k * 2 + 1, none⟩ = some (.int .i64 (B' k)) := ⟨hKp _ _ _ trivial c0, hKp _ _ _ trivial c0', hKp _ _ _ trivial e1, hKp _ _ _ trivial e2, hKp _ _ _ trivial e1', hKp _ _ _ trivial e2'⟩
      have hx := Blk.below (w := wr.drew) hbox hb1
      have hx' := Blk.below (w := wr.drew) hbox' hb1
      cases r
      · have Hr := Lib.hid (no_of hr); clear hr
        refine hK.out _ _ (fun _ => hS) ?_
        clear hK K
        try simp only [Act.put, List.setIfInBounds_toArray, List.set_cons_zero, List.set_cons_succ]
        refine wpN_take (i := 11) (v := ?v11) rfl (by kernel_rfl) (fun _ _ _ h => h) hS (Or.inl ⟨by rfl, ?hy11⟩) ?hr11
        case hy11 => (intro wS hSw; (try dsimp only at hSw); go_simp; (try with_reducible rfl))
        try simp only [Act.put, List.setIfInBounds_toArray, List.set_cons_zero, List.set_cons_succ]
        refine wpN_done (by kernel_rfl) ?_
        refine NoPanic.normal ?_
        go_wp2_with fail
        go_ret
        refine ⟨false, ?_, rfl, hB⟩
        simp
        intro h
        subst h
        exact Hr.out rfl
      · have Hr := Lib.hid (yes_of hr); clear hr
        refine hK.out _ _ (fun _ => hS) ?_
        clear hK K
        try simp only [Act.put, List.setIfInBounds_toArray, List.set_cons_zero, List.set_cons_succ]
        refine wpN_take (i := 11) (v := ?v12) rfl (by kernel_rfl) (fun _ _ _ h => h) hS (Or.inl ⟨by rfl, ?hy12⟩) ?hr12
        case hy12 => (intro wS hSw; (try dsimp only at hSw); go_simp; (try with_reducible rfl))
        try simp only [Act.put, List.setIfInBounds_toArray, List.set_cons_zero, List.set_cons_succ]
        refine wpN_done (by kernel_rfl) ?_
        refine NoPanic.normal ?_
        go_wp2_with fail
        go_roundw
        case rel => exact ⟨k + 1, by go_num, by omega, take_eq_succ hlt hlt' hall.out Hr.out, hB, hx, hx'⟩
        case measure => simp [intOf]; omega
    · go_wp2_with fail
      go_ret
      refine ⟨true, ?_, rfl, hb⟩
      have h := hall.out
      rw [List.take_of_length_le (by omega), List.take_of_length_le (by rw [← Hll.out]; omega)] at h
      simp [h]
end Go.Proofs.Ytejpgifofkiofaa
