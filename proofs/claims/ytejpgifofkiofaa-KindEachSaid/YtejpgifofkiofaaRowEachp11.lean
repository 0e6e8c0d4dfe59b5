/-
  A term, copied cell by cell: To, Of of the laws.
-/
import Derived.Test.YtejpgifofkiofaaRowEachp6
import Derived.Test.YtejpgifofkiofaaRowEachp10
set_option linter.unusedVariables false
set_option linter.unusedSimpArgs false
namespace Go.Proofs.Ytejpgifofkiofaa
open Go.RowKit

def FreshTm (t : Tm) (w : World) (e : Ending) (w' : World) : Prop := ∃ b k i a, e = .returned (.agg #[b, k, i, a]) ∧ IsTm (fun q => w.heap.size ≤ q) w' b k i a t ∧ Below w.heap.size w w'

set_option maxRecDepth 100000 in
set_option maxHeartbeats 1600000 in
theorem to6_any {F : Nat → Prop} {w0 : World} {b k i a : Value} {t : Tm} (ht : IsTm F w0 b k i a t) : ∀ (w : World), t.full ≤ 1000000 →
    Keep F w0 w →
    Calls Try.prog 23 #[.agg #[b, k, i, a]] w (FreshTm t w) := by
  induction ht with
  | mk bv k i0 a n c binds args bl off PA A PN PC N C Kd Ix hb hn hm ha h1 h2 h3 h4 h5 ih =>
  intro w hsize hw
  subst hn
  obtain ⟨pa, pc, rfl⟩ := hb.shape
  clear h5
  rw [Tm.full_eq] at hsize
  have hlen : args.length ≤ 1000000 := by have := Tm.len_fulls args; omega
  have Hsz : Hid (∀ j (h : j < args.length), args[j].full ≤ 1000000) := fun j h => by have := Tm.full_mem (List.getElem_mem h); omega
  have Htys : Hid (∀ w, Keep F w0 w → Calls Try.prog 58 #[.slice pa binds.length pc] w (FreshTys binds w)) := fun w hw => types_any hb w hw (by omega)
  have Hih := Lib.hid ih; clear ih hsize hb
  obtain ⟨i1, hi0, hz0, hz1, hz2⟩ := info_parts infoT
  go_enter Try.func23, Try.ntmps23
  go_wp2_with fail
  obtain ⟨w1, hw1⟩ : ∃ w1, (w.alloc (.cells #[.slice pa binds.length pc, .int .i64 k, .int .i64 i0, .slice a args.length c] 29)).alloc (.cells #[.slice none 0 0, .int .i64 0, .int .i64 0, .slice none 0 0] 37) = w1 := ⟨_, rfl⟩
  have B1 : Below w.heap.size w w1 := by rw [← hw1]; exact ((Below.refl _ _).alloc (Nat.le_refl _) _).alloc (by simp) _
  have x0 : Blk w1 w.heap.size #[.slice pa binds.length pc, .int .i64 k, .int .i64 i0, .slice a args.length c] 29 := by rw [← hw1]; exact (Blk.new _ _ _ rfl).alloc _
  have x1 : Blk w1 (w.heap.size + 1) #[.slice none 0 0, .int .i64 0, .int .i64 0, .slice none 0 0] 37 := by rw [← hw1]; exact Blk.new _ _ _ (by simp)
  have hsz1 : w1.heap.size = w.heap.size + 2 := by rw [← hw1]; simp
  rw [hw1]
  clear hw1
  refine wp_region_noPanic (wp_region_need (S := fun w' => w'.cell? ⟨w.heap.size, 0, none⟩ = some (.slice pa binds.length pc) ∧ w'.cell? ⟨w.heap.size, 1, none⟩ = some (.int .i64 k) ∧ w'.cell? ⟨w.heap.size, 2, none⟩ = some (.int .i64 i0)) (by kernel_rfl) ?_)
  have hS : (w1.drew).cell? ⟨w.heap.size, 0, none⟩ = some (.slice pa binds.length pc) ∧ (w1.drew).cell? ⟨w.heap.size, 1, none⟩ = some (.int .i64 k) ∧ (w1.drew).cell? ⟨w.heap.size, 2, none⟩ = some (.int .i64 i0) := ⟨x0.drew.cell rfl, x0.drew.cell rfl, x0.drew.cell rfl⟩
  refine wpN_take (i := 0) (v := ?v1) rfl (by kernel_rfl) (fun _ _ _ h => h) hS (Or.inl ⟨by rfl, ?hy1⟩) ?hr1
  case hy1 => (intro wS hSw; (try dsimp only at hSw); go_simp; (try with_reducible rfl))
  try simp only [Act.put, List.setIfInBounds_toArray, List.set_cons_zero, List.set_cons_succ, List.getElem_toArray, List.getElem_cons_zero, List.getElem_cons_succ]
  refine wpN_take (i := 1) (v := ?v2) rfl (by kernel_rfl) (fun _ _ _ h => h) hS (Or.inl ⟨by rfl, ?hy2⟩) ?hr2
  case hy2 => (intro wS hSw; (try dsimp only at hSw); go_simp; (try with_reducible rfl))
  try simp only [Act.put, List.setIfInBounds_toArray, List.set_cons_zero, List.set_cons_succ, List.getElem_toArray, List.getElem_cons_zero, List.getElem_cons_succ]
  refine wpN_take (i := 3) (v := ?v3) rfl (by kernel_rfl) (fun _ _ _ h => h) hS (Or.inl ⟨by rfl, ?hy3⟩) ?hr3
  case hy3 => (intro wS hSw; (try dsimp only at hSw); go_simp; (try with_reducible rfl))
  try simp only [Act.put, List.setIfInBounds_toArray, List.set_cons_zero, List.set_cons_succ, List.getElem_toArray, List.getElem_cons_zero, List.getElem_cons_succ]
  refine wpN_take (i := 4) (v := ?v4) rfl (by kernel_rfl) (fun _ _ _ h => h) hS (Or.inl ⟨by rfl, ?hy4⟩) ?hr4
  case hy4 => (intro wS hSw; (try dsimp only at hSw); go_simp; (try with_reducible rfl))
  try simp only [Act.put, List.setIfInBounds_toArray, List.set_cons_zero, List.set_cons_succ, List.getElem_toArray, List.getElem_cons_zero, List.getElem_cons_succ]
  refine wpN_take (i := 5) (v := ?v5) rfl (by kernel_rfl) (fun _ _ _ h => h) hS (Or.inl ⟨by rfl, ?hy5⟩) ?hr5
  case hy5 => (intro wS hSw; (try dsimp only at hSw); go_simp; (try with_reducible rfl))
  try simp only [Act.put, List.setIfInBounds_toArray, List.set_cons_zero, List.set_cons_succ, List.getElem_toArray, List.getElem_cons_zero, List.getElem_cons_succ]
  refine wpN_take (i := 6) (v := ?v6) rfl (by kernel_rfl) (fun _ _ _ h => h) hS (Or.inl ⟨by rfl, ?hy6⟩) ?hr6
  case hy6 => (intro wS hSw; (try dsimp only at hSw); go_simp; (try with_reducible rfl))
  try simp only [Act.put, List.setIfInBounds_toArray, List.set_cons_zero, List.set_cons_succ, List.getElem_toArray, List.getElem_cons_zero, List.getElem_cons_succ]
  refine wpN_take (i := 7) (v := ?v7) rfl (by kernel_rfl) (fun _ _ _ h => h) hS (Or.inl ⟨by rfl, ?hy7⟩) ?hr7
  case hy7 => (intro wS hSw; (try dsimp only at hSw); go_simp; (try with_reducible rfl))
  try simp only [Act.put, List.setIfInBounds_toArray, List.set_cons_zero, List.set_cons_succ, List.getElem_toArray, List.getElem_cons_zero, List.getElem_cons_succ]
  refine wpN_take (i := 8) (v := ?v8) rfl (by kernel_rfl) (fun _ _ _ h => h) hS (Or.inl ⟨by rfl, ?hy8⟩) ?hr8
  case hy8 => (intro wS hSw; (try dsimp only at hSw); go_simp; (try with_reducible rfl))
  try simp only [Act.put, List.setIfInBounds_toArray, List.set_cons_zero, List.set_cons_succ, List.getElem_toArray, List.getElem_cons_zero, List.getElem_cons_succ]
  refine wpN_take (i := 9) (v := ?v9) rfl (by kernel_rfl) (fun _ _ _ h => h) hS (Or.inl ⟨by rfl, ?hy9⟩) ?hr9
  case hy9 => (intro wS hSw; (try dsimp only at hSw); go_simp; (try with_reducible rfl))
  try simp only [Act.put, List.setIfInBounds_toArray, List.set_cons_zero, List.set_cons_succ, List.getElem_toArray, List.getElem_cons_zero, List.getElem_cons_succ]
  refine wpN_gathersP [(2, 7), (10, 15), (11, 3)] 1 (fun j v x y w' => match j with
    | 2 => ∃ qa qc, v = .slice qa binds.length qc ∧ IsSl rpTy (fun q => x ≤ q ∧ q < y) w' (.slice qa binds.length qc) binds
    | 10 => True
    | _ => v = .pointer (some ⟨x, 0, none⟩) ∧ x < y ∧ Blk w' x #[.slice none 0 0, .int .i64 0, .int .i64 0, .slice none 0 0] 37) (fun j u => match j with
    | 10 => ∃ qa qc, u 2 = .slice qa binds.length qc ∧ u 10 = .agg #[.slice qa binds.length qc, .int .i64 k, .int .i64 i0, .slice none 0 0]
    | _ => True) rfl rfl (by kernel_rfl) ?gst ?gst' hS ?gop ?gend
  case gst =>
    intro j v x y wa wb h hb
    split at h
    · obtain ⟨a, c, e, ht⟩ := h
      exact ⟨a, c, e, ht.keep ((Keep.refl _ _).below hb)⟩
    · trivial
    · exact ⟨h.1, h.2.1, h.2.2.below hb⟩
  case gst' =>
    intro j hj u u' hu h
    simp only [List.map_cons, List.map_nil, List.mem_cons, List.not_mem_nil, or_false] at hj
    rcases hj with rfl | rfl | rfl
    · trivial
    · obtain ⟨qa, qc, e1, e2⟩ := h
      exact ⟨qa, qc, (hu 2 (.inr (by kernel_rfl))).trans e1, (hu 10 (.inl rfl)).trans e2⟩
    · trivial
  case gop =>
    intro x hx u w' hdep hB' hS'
    obtain ⟨q1, q2, q3⟩ := hS'
    have hbw : Below w1.heap.size w1 w' := (Below.refl _ _).drew.trans hB'
    simp only [List.mem_cons, List.not_mem_nil, or_false] at hx
    rcases hx with rfl | rfl | rfl
    · refine wpOp_step (i := 2) rfl (fun K hK => ?_)
      have hK := Lib.hid hK
      simp only [fills, List.foldl, Act.put, List.setIfInBounds_toArray, List.set_cons_zero, List.set_cons_succ, List.getElem_toArray, List.getElem_cons_zero, List.getElem_cons_succ]
      go_simp
      refine (Htys.out w' (hw.below (B1.trans (hbw.mono B1.size)))).mono ?_
      rintro e w6 ⟨qa, qc, rfl, hT, hb6⟩
      have hKp : Keep (fun _ => True) w' w6 := (Keep.refl _ _).below hb6
      exact hK.out _ _ ⟨_, rfl, ⟨_, _, rfl, hT.weaken (by decide) fun q h1 h2 => ⟨h2, h1⟩⟩, trivial, hb6, hKp _ _ _ trivial q1, hKp _ _ _ trivial q2, hKp _ _ _ trivial q3⟩
    · obtain ⟨_, _, _, qa, qc, e1, _⟩ := hdep 2 (by simp) (by kernel_rfl)
      refine wpOp_step (i := 10) rfl (fun K hK => ?_)
      have hK := Lib.hid hK
      simp only [fills, List.foldl, Act.put, List.setIfInBounds_toArray, List.set_cons_zero, List.set_cons_succ, List.getElem_toArray, List.getElem_cons_zero, List.getElem_cons_succ]
      rw [e1]
      go_simp
      exact hK.out _ _ ⟨.agg #[.slice qa binds.length qc, .int .i64 k, .int .i64 i0, .slice none 0 0], by simp only [fills, List.foldl, Act.put, List.setIfInBounds_toArray, List.set_cons_zero, List.set_cons_succ, List.getElem_toArray, List.getElem_cons_zero, List.getElem_cons_succ]; simp [upd, e1], trivial, ⟨qa, qc, e1, rfl⟩, Below.refl _ _, q1, q2, q3⟩
    · refine wpOp_step (i := 11) rfl (fun K hK => ?_)
      have hK := Lib.hid hK
      simp only [fills, List.foldl, Act.put, List.setIfInBounds_toArray, List.set_cons_zero, List.set_cons_succ, List.getElem_toArray, List.getElem_cons_zero, List.getElem_cons_succ]
      go_simp
      have hb6 : Below w'.heap.size w' (w'.alloc (.cells #[.slice none 0 0, .int .i64 0, .int .i64 0, .slice none 0 0] 37)) := (Below.refl _ _).alloc (Nat.le_refl _) _
      have hKp : Keep (fun _ => True) w' (w'.alloc (.cells #[.slice none 0 0, .int .i64 0, .int .i64 0, .slice none 0 0] 37)) := (Keep.refl _ _).below hb6
      exact hK.out _ _ ⟨_, rfl, ⟨rfl, by simp, Blk.new _ _ _ rfl⟩, trivial, hb6, hKp _ _ _ trivial q1, hKp _ _ _ trivial q2, hKp _ _ _ trivial q3⟩
  case gend =>
    intro u lo hi w' hΦ hΨ hB' hS'
    have hbw : Below w1.heap.size w1 w' := (Below.refl _ _).drew.trans hB'
    obtain ⟨⟨qa, qc, e1, V1⟩, n1, m1, o1⟩ := hΦ.1 2 (by simp) rfl
    obtain ⟨⟨e2, r2, Z2⟩, n2, m2, o2⟩ := hΦ.1 11 (by simp) rfl
    obtain ⟨qa', qc', e3, e4⟩ := hΨ 10 (by simp)
    obtain ⟨rfl, rfl⟩ : qa' = qa ∧ qc' = qc := by rw [e1] at e3; cases e3; exact ⟨rfl, rfl⟩
    clear e3
    have k12 := hΦ.2 2 (by simp) 11 (by simp) rfl rfl (by decide)
    clear hΦ hΨ
    simp only [fills, List.foldl, Act.put, List.setIfInBounds_toArray, List.set_cons_zero, List.set_cons_succ, List.getElem_toArray, List.getElem_cons_zero, List.getElem_cons_succ]
    rw [e1, e2, e4]
    clear e1 e2 e4
    have hsz : w1.drew.heap.size = w1.heap.size := rfl
    rw [hsz, hsz1] at n1 n2
    generalize lo 11 = p at *
    have U1 := Lib.hid (V1.weaken (F' := fun q => w.heap.size + 2 ≤ q ∧ q ≠ p) (by decide) fun q _ h => ⟨by omega, by omega⟩)
    clear V1 k12 n1 m1 o1 m2 r2 o2 hsz
    have B2 := B1.trans (hbw.mono B1.size)
    have y0 := x0.below hbw
    have y1 := x1.below hbw
    have r0 : w'.cell? ⟨p, 0, none⟩ = some (.slice none 0 0) := Z2.cell rfl
    have r1 : w'.cell? ⟨p, 1, none⟩ = some (.int .i64 0) := Z2.cell rfl
    have r2 : w'.cell? ⟨p, 2, none⟩ = some (.int .i64 0) := Z2.cell rfl
    have r3 : w'.cell? ⟨p, 3, none⟩ = some (.slice none 0 0) := Z2.cell rfl
    have f0 := Z2.free 0
    have f1 := Z2.free 1
    have f2 := Z2.free 2
    have f3 := Z2.free 3
    refine wpN_step (i := 12) (by kernel_rfl) rfl (fun K hK => ?_)
    go_simp
    refine hK.out _ _ (fun h => absurd h (by decide)) ?_
    clear hK K
    try simp only [Act.put, List.setIfInBounds_toArray, List.set_cons_zero, List.set_cons_succ, List.getElem_toArray, List.getElem_cons_zero, List.getElem_cons_succ]
    refine wpN_done (by kernel_rfl) ?_
    refine NoPanic.normal ?_
    obtain ⟨w2, hw2⟩ : ∃ w2, ((((w'.setCell ⟨p, 0, none⟩ (.slice qa' binds.length qc')).setCell ⟨p, 1, none⟩ (.int .i64 k)).setCell ⟨p, 2, none⟩ (.int .i64 i0)).setCell ⟨p, 3, none⟩ (.slice none 0 0)) = w2 := ⟨_, rfl⟩
    have hlp := Z2.lt
    have B3 : Below w.heap.size w w2 := by rw [← hw2]; exact ((((B2.setCell (by simp; omega) _).setCell (by simp; omega) _).setCell (by simp; omega) _).setCell (by simp; omega) _)
    have z0 : Blk w2 w.heap.size #[.slice pa binds.length pc, .int .i64 k, .int .i64 i0, .slice a args.length c] 29 := by rw [← hw2]; exact ((((y0.far _ _ (by simp; omega)).far _ _ (by simp; omega)).far _ _ (by simp; omega)).far _ _ (by simp; omega))
    have z1 : Blk w2 (w.heap.size + 1) #[.slice none 0 0, .int .i64 0, .int .i64 0, .slice none 0 0] 37 := by rw [← hw2]; exact ((((y1.far _ _ (by simp; omega)).far _ _ (by simp; omega)).far _ _ (by simp; omega)).far _ _ (by simp; omega))
    have zp : Blk w2 p #[.slice qa' binds.length qc', .int .i64 k, .int .i64 i0, .slice none 0 0] 37 := by rw [← hw2]; exact ((((Z2.set 0 _).set 1 _).set 2 _).set 3 _)
    have KU : Keep (fun q => w.heap.size + 2 ≤ q ∧ q ≠ p) w' w2 := by rw [← hw2]; exact ((((Keep.refl _ _).setCell _ _ (by simp)).setCell _ _ (by simp)).setCell _ _ (by simp)).setCell _ _ (by simp)
    have U2 := Lib.hid (U1.out.keep KU)
    rw [hw2]
    clear hw2 KU U1 y0 y1 Z2 r0 r1 r2 r3 f0 f1 f2 f3 B2 hbw hB' hS' hS x0 x1 B1
    have hlp2 := zp.lt
    obtain ⟨N2, hN2⟩ : ∃ n, w2.heap.size = n := ⟨_, rfl⟩
    have HN2 := Lib.hid hN2; clear hN2
    have hpN : p < N2 := by have := HN2.out; omega
    have c3 : w2.cell? ⟨w.heap.size, 3, none⟩ = some (.slice a args.length c) := z0.cell rfl
    have U3 := Lib.hid (U2.out.weaken (F' := fun q => w.heap.size + 2 ≤ q ∧ q ≠ p ∧ q < N2) (by decide) fun q h1 h2 => ⟨h2.1, h2.2, by have := HN2.out; omega⟩)
    clear U2
    have hsz2 : N2 ≤ w2.heap.size := by have := HN2.out; omega
    have hacc0 : Acc rpTm 37 N2 (fun q => N2 ≤ q) w2 (.slice none 0 0) [] := Acc.nil _ _ _ _ _
    go_wp2_with fail
    go_loopw [4] (fun i wr => ∃ (j : Nat) (v : Value), i = .int .i64 j ∧ j ≤ args.length ∧ N2 ≤ wr.heap.size ∧
        Below w.heap.size w wr ∧ Blk wr w.heap.size #[.slice pa binds.length pc, .int .i64 k, .int .i64 i0, .slice a args.length c] 29 ∧ Blk wr (w.heap.size + 1) #[.slice none 0 0, .int .i64 0, .int .i64 0, .slice none 0 0] 37 ∧ Blk wr p #[.slice qa' binds.length qc', .int .i64 k, .int .i64 i0, v] 37 ∧
        Hid (IsSl rpTy (fun q => w.heap.size + 2 ≤ q ∧ q ≠ p ∧ q < N2) wr (.slice qa' binds.length qc') binds) ∧
        Acc rpTm 37 N2 (fun q => N2 ≤ q) wr v (args.take j)) (fun i _ => args.length - (intOf i).toNat)
    case atStart => exact ⟨0, _, rfl, by omega, hsz2, B3, z0, z1, zp, U3.out, hacc0⟩
    case round =>
      clear B3 z0 z1 zp U3 hacc0 hsz2 hlp hlp2 c3
      obtain ⟨j, v, rfl, hj, hsN, hb, hbox, hres, hout, hbi, hacc⟩ := hrel
      have c0 : wr.cell? ⟨w.heap.size, 3, none⟩ = some (.slice a args.length c) := hbox.cell rfl
      have d0 : wr.cell? ⟨p, 3, none⟩ = some v := hout.cell rfl
      have hszp := hout.lt
      have hszb := hres.lt
      have Hacc := Lib.hid hacc; clear hacc
      by_cases hlt : j < args.length
      · obtain ⟨rfl, hF⟩ := ha (by omega)
        clear ha
        have hkp : Keep F w0 wr := hw.below hb
        have e1 := hkp _ _ _ hF (h1 j hlt)
        have e2 := hkp _ _ _ hF (h2 j hlt)
        have e3 := hkp _ _ _ hF (h3 j hlt)
        have e4 := hkp _ _ _ hF (h4 j hlt)
        have hlt0 : (0 : Int) ≤ (j : Int) := Int.natCast_nonneg _
        have hlt1 : (j : Int) < (args.length : Int) := by omega
        have Hbw : Hid (bl < w.heap.size) := Keep.lt (hw _ _ _ hF (h1 j hlt))
        have Hbl : Hid (v.ownBlock ≠ some bl) := fun e => by have := (Hacc.out.base_le bl e).1; have := Hbw.out; omega
        have Hl : Hid ((args.take j).length = j) := by show _ = _; simp; omega
        have Hne : Hid (∀ q, q < N2 → v.ownBlock ≠ some q) := fun q hq e => by have := (Hacc.out.base_le q e).1; omega
        go_wp2_with fail
        refine wp_region_noPanic (wp_region_need (S := fun w' => w'.cell? ⟨w.heap.size, 3, none⟩ = some (.slice (some ⟨bl, off, none⟩) args.length c) ∧ w'.cell? ⟨p, 3, none⟩ = some v ∧ w'.cell? ⟨bl, off + j * 4, none⟩ = some (.slice (PA j) (PN j) (PC j)) ∧ w'.cell? ⟨bl, off + j * 4 + 1, none⟩ = some (.int .i64 (Kd j)) ∧ w'.cell? ⟨bl, off + j * 4 + 2, none⟩ = some (.int .i64 (Ix j)) ∧ w'.cell? ⟨bl, off + j * 4 + 3, none⟩ = some (.slice (A j) (N j) (C j))) (by kernel_rfl) ?_)
        have hS : (wr.drew).cell? ⟨w.heap.size, 3, none⟩ = some (.slice (some ⟨bl, off, none⟩) args.length c) ∧ (wr.drew).cell? ⟨p, 3, none⟩ = some v ∧ (wr.drew).cell? ⟨bl, off + j * 4, none⟩ = some (.slice (PA j) (PN j) (PC j)) ∧ (wr.drew).cell? ⟨bl, off + j * 4 + 1, none⟩ = some (.int .i64 (Kd j)) ∧ (wr.drew).cell? ⟨bl, off + j * 4 + 2, none⟩ = some (.int .i64 (Ix j)) ∧ (wr.drew).cell? ⟨bl, off + j * 4 + 3, none⟩ = some (.slice (A j) (N j) (C j)) := ⟨c0, d0, e1, e2, e3, e4⟩
        refine wpN_take (i := 0) (v := ?v10) rfl (by kernel_rfl) (fun _ _ _ h => h) hS (Or.inl ⟨by rfl, ?hy10⟩) ?hr10
        case hy10 => (intro wS hSw; (try dsimp only at hSw); go_simp; (try with_reducible rfl))
        try simp only [Act.put, List.setIfInBounds_toArray, List.set_cons_zero, List.set_cons_succ, List.getElem_toArray, List.getElem_cons_zero, List.getElem_cons_succ]
        refine wpN_take (i := 1) (v := ?v11) rfl (by kernel_rfl) (fun _ _ _ h => h) hS (Or.inl ⟨by rfl, ?hy11⟩) ?hr11
        case hy11 => (intro wS hSw; (try dsimp only at hSw); go_simp; (try with_reducible rfl))
        try simp only [Act.put, List.setIfInBounds_toArray, List.set_cons_zero, List.set_cons_succ, List.getElem_toArray, List.getElem_cons_zero, List.getElem_cons_succ]
        refine wpN_take (i := 2) (v := ?v12) rfl (by kernel_rfl) (fun _ _ _ h => h) hS (Or.inl ⟨by rfl, ?hy12⟩) ?hr12
        case hy12 => (intro wS hSw; (try dsimp only at hSw); go_simp; (try with_reducible rfl))
        try simp only [Act.put, List.setIfInBounds_toArray, List.set_cons_zero, List.set_cons_succ, List.getElem_toArray, List.getElem_cons_zero, List.getElem_cons_succ]
        refine wpN_take (i := 3) (v := ?v13) rfl (by kernel_rfl) (fun _ _ _ h => h) hS (Or.inl ⟨by rfl, ?hy13⟩) ?hr13
        case hy13 => (intro wS hSw; (try dsimp only at hSw); go_simp; (try with_reducible rfl))
        try simp only [Act.put, List.setIfInBounds_toArray, List.set_cons_zero, List.set_cons_succ, List.getElem_toArray, List.getElem_cons_zero, List.getElem_cons_succ]
        refine wpN_take (i := 4) (v := ?v14) rfl (by kernel_rfl) (fun _ _ _ h => h) hS (Or.inl ⟨by rfl, ?hy14⟩) ?hr14
        case hy14 => (intro wS hSw; (try dsimp only at hSw); go_simp; (try with_reducible rfl))
        try simp only [Act.put, List.setIfInBounds_toArray, List.set_cons_zero, List.set_cons_succ, List.getElem_toArray, List.getElem_cons_zero, List.getElem_cons_succ]
        refine wpN_take (i := 5) (v := ?v15) rfl (by kernel_rfl) (fun _ _ _ h => h) hS (Or.inl ⟨by rfl, ?hy15⟩) ?hr15
        case hy15 => (intro wS hSw; (try dsimp only at hSw); go_simp; (try with_reducible rfl))
        try simp only [Act.put, List.setIfInBounds_toArray, List.set_cons_zero, List.set_cons_succ, List.getElem_toArray, List.getElem_cons_zero, List.getElem_cons_succ]
        refine wpN_take (i := 6) (v := ?v16) rfl (by kernel_rfl) (fun _ _ _ h => h) hS (Or.inl ⟨by rfl, ?hy16⟩) ?hr16
        case hy16 => (intro wS hSw; (try dsimp only at hSw); go_simp; (try with_reducible rfl))
        try simp only [Act.put, List.setIfInBounds_toArray, List.set_cons_zero, List.set_cons_succ, List.getElem_toArray, List.getElem_cons_zero, List.getElem_cons_succ]
        refine wpN_step (i := 7) (by kernel_rfl) rfl (fun K hK => ?_)
        go_simp
        refine (Hih.out j hlt _ (Hsz.out j hlt) (hkp.drew)).mono ?_
        rintro e w3 ⟨b', k', i', a', rfl, hr1, hb1⟩
        have hK1 : Keep (fun q => v.ownBlock ≠ some q) wr w3 := ((Keep.refl _ _).drew).below hb1
        have hS : (w3).cell? ⟨w.heap.size, 3, none⟩ = some (.slice (some ⟨bl, off, none⟩) args.length c) ∧ (w3).cell? ⟨p, 3, none⟩ = some v ∧ (w3).cell? ⟨bl, off + j * 4, none⟩ = some (.slice (PA j) (PN j) (PC j)) ∧ (w3).cell? ⟨bl, off + j * 4 + 1, none⟩ = some (.int .i64 (Kd j)) ∧ (w3).cell? ⟨bl, off + j * 4 + 2, none⟩ = some (.int .i64 (Ix j)) ∧ (w3).cell? ⟨bl, off + j * 4 + 3, none⟩ = some (.slice (A j) (N j) (C j)) := ⟨(Blk.below (w := wr.drew) hbox hb1).cell rfl, (Blk.below (w := wr.drew) hout hb1).cell rfl, hK1 _ _ _ Hbl.out e1, hK1 _ _ _ Hbl.out e2, hK1 _ _ _ Hbl.out e3, hK1 _ _ _ Hbl.out e4⟩
        refine hK.out _ _ (fun _ => hS) ?_
        clear hK K
        try simp only [Act.put, List.setIfInBounds_toArray, List.set_cons_zero, List.set_cons_succ, List.getElem_toArray, List.getElem_cons_zero, List.getElem_cons_succ]
        refine wpN_step (i := 8) (by kernel_rfl) rfl (fun K hK => ?_)
        go_simp
        have hS : (w3.alloc (.cells #[b', k', i', a'] 37)).cell? ⟨w.heap.size, 3, none⟩ = some (.slice (some ⟨bl, off, none⟩) args.length c) ∧ (w3.alloc (.cells #[b', k', i', a'] 37)).cell? ⟨p, 3, none⟩ = some v ∧ (w3.alloc (.cells #[b', k', i', a'] 37)).cell? ⟨bl, off + j * 4, none⟩ = some (.slice (PA j) (PN j) (PC j)) ∧ (w3.alloc (.cells #[b', k', i', a'] 37)).cell? ⟨bl, off + j * 4 + 1, none⟩ = some (.int .i64 (Kd j)) ∧ (w3.alloc (.cells #[b', k', i', a'] 37)).cell? ⟨bl, off + j * 4 + 2, none⟩ = some (.int .i64 (Ix j)) ∧ (w3.alloc (.cells #[b', k', i', a'] 37)).cell? ⟨bl, off + j * 4 + 3, none⟩ = some (.slice (A j) (N j) (C j)) := ⟨((Blk.below (w := wr.drew) hbox hb1).alloc _).cell rfl, ((Blk.below (w := wr.drew) hout hb1).alloc _).cell rfl, (hK1.alloc _) _ _ _ Hbl.out e1, (hK1.alloc _) _ _ _ Hbl.out e2, (hK1.alloc _) _ _ _ Hbl.out e3, (hK1.alloc _) _ _ _ Hbl.out e4⟩
        refine hK.out _ _ (fun _ => hS) ?_
        clear hK K
        try simp only [Act.put, List.setIfInBounds_toArray, List.set_cons_zero, List.set_cons_succ, List.getElem_toArray, List.getElem_cons_zero, List.getElem_cons_succ]
        refine wpN_step (i := 9) (by kernel_rfl) rfl (fun K hK => ?_)
        refine step_push rpTm (by decide) (by rfl) _ _ _ (by rfl) N2 37 i1 _ 64 Try.underlying35 hi0 hz0 hz1 hz2 rfl (by decide)
               (fun q => N2 ≤ q) v (args.take j) (by rfl) (((Hacc.out.drew).below hb1).alloc _) (by rw [Hl.out]; omega)
               w3.heap.size _ [b', k', i', a'] args[j] (by rfl) (heap_alloc_new _ _) ⟨_, _, _, _, rfl, (hr1.weaken (fun q _ hq => ⟨Nat.le_trans (show N2 ≤ wr.drew.heap.size from hsN) hq, fun e => by have := (Hacc.out.base_le q e).2; exact absurd this (Nat.not_lt.2 hq)⟩)).keep ((Keep.refl _ _).alloc _)⟩ (by have := hb1.size; simp at this ⊢; omega) ?_
        intro gg cap w4 hacc2 hgrow hat hlt2
        have hK2 : Keep (fun q => v.ownBlock ≠ some q) wr w4 := (hK1.alloc _).grown hgrow (fun _ hr hf => hf hr)
        have o2 := hout.push hb1 hgrow (Hne.out _ (by omega))
        have o1 := hres.push hb1 hgrow (Hne.out _ (by omega))
        have o0 := hbox.push hb1 hgrow (Hne.out _ (by omega))
        have bi4 := Lib.hid ((hbi.out.weaken (F' := fun q => (w.heap.size + 2 ≤ q ∧ q ≠ p ∧ q < N2) ∧ v.ownBlock ≠ some q) (by decide) fun q _ h => ⟨h, Hne.out q h.2.2⟩).keep (hK2.weaken fun q h => h.2))
        have B4 := below_push hb (by have := hb.size; omega) hb1 hgrow (fun q hq => by have := (Hacc.out.base_le q hq).1; omega)
        have hS : (w4).cell? ⟨w.heap.size, 3, none⟩ = some (.slice (some ⟨bl, off, none⟩) args.length c) ∧ (w4).cell? ⟨p, 3, none⟩ = some v ∧ (w4).cell? ⟨bl, off + j * 4, none⟩ = some (.slice (PA j) (PN j) (PC j)) ∧ (w4).cell? ⟨bl, off + j * 4 + 1, none⟩ = some (.int .i64 (Kd j)) ∧ (w4).cell? ⟨bl, off + j * 4 + 2, none⟩ = some (.int .i64 (Ix j)) ∧ (w4).cell? ⟨bl, off + j * 4 + 3, none⟩ = some (.slice (A j) (N j) (C j)) := ⟨o0.cell (i := 3) rfl, o2.cell (i := 3) rfl, hK2 _ _ _ Hbl.out e1, hK2 _ _ _ Hbl.out e2, hK2 _ _ _ Hbl.out e3, hK2 _ _ _ Hbl.out e4⟩
        have p2 := o2.free 3
        have Hacc2 := Lib.hid hacc2; clear hacc2
        refine hK.out _ _ (fun _ => hS) ?_
        clear hK K
        try simp only [Act.put, List.setIfInBounds_toArray, List.set_cons_zero, List.set_cons_succ, List.getElem_toArray, List.getElem_cons_zero, List.getElem_cons_succ]
        refine wpN_take (i := 10) (v := ?v17) rfl (by kernel_rfl) (fun _ _ _ h => h) hS (Or.inl ⟨by rfl, ?hy17⟩) ?hr17
        case hy17 => (intro wS hSw; (try dsimp only at hSw); go_simp; (try with_reducible rfl))
        try simp only [Act.put, List.setIfInBounds_toArray, List.set_cons_zero, List.set_cons_succ, List.getElem_toArray, List.getElem_cons_zero, List.getElem_cons_succ]
        refine wpN_step (i := 11) (by kernel_rfl) rfl (fun K hK => ?_)
        go_simp
        refine hK.out _ _ (fun h => absurd h (by decide)) ?_
        clear hK K
        try simp only [Act.put, List.setIfInBounds_toArray, List.set_cons_zero, List.set_cons_succ, List.getElem_toArray, List.getElem_cons_zero, List.getElem_cons_succ]
        refine wpN_done (by kernel_rfl) ?_
        refine NoPanic.normal ?_
        have hs4 : N2 ≤ w4.heap.size := by have := B4.size; have := hgrow.size; have := hb1.size; simp at *; omega
        go_wp2_with fail
        refine ⟨⟨j + 1, _, by go_num, by omega, by simpa using hs4, B4.setCell (by simp; omega) _, o0.far _ _ (by simp; omega), o1.far _ _ (by simp; omega), o2.set 3 _, ?_, ?_⟩, by simp [intOf]; omega⟩
        · exact ((bi4.out.weaken (F' := fun q => w.heap.size + 2 ≤ q ∧ q ≠ p ∧ q < N2) (by decide) fun q _ h => h.1).keep ((Keep.refl _ _).setCell _ _ (by simp)))
        · have h := Hacc2.out
          rw [Hl.out, ← List.take_succ_eq_append_getElem hlt] at h
          exact h.setCell _ _ (by simp; omega) (by simp; omega)
      · obtain ⟨va, vc, hv⟩ := Hacc.out.len_shape
        rw [List.length_take, Nat.min_eq_left hj] at hv
        subst hv
        have d1 : wr.cell? ⟨p, 0, none⟩ = some (.slice qa' binds.length qc') := hout.cell rfl
        have d2 : wr.cell? ⟨p, 1, none⟩ = some (.int .i64 k) := hout.cell rfl
        have d3 : wr.cell? ⟨p, 2, none⟩ = some (.int .i64 i0) := hout.cell rfl
        have r0 : wr.cell? ⟨w.heap.size + 1, 0, none⟩ = some (.slice none 0 0) := hres.cell rfl
        have r1 : wr.cell? ⟨w.heap.size + 1, 1, none⟩ = some (.int .i64 0) := hres.cell rfl
        have r2 : wr.cell? ⟨w.heap.size + 1, 2, none⟩ = some (.int .i64 0) := hres.cell rfl
        have r3 : wr.cell? ⟨w.heap.size + 1, 3, none⟩ = some (.slice none 0 0) := hres.cell rfl
        have f0 := hres.free 0
        have f1 := hres.free 1
        have f2 := hres.free 2
        have f3 := hres.free 3
        go_wp2_with fail
        refine bodyPost_ret (v := .agg #[.slice qa' binds.length qc', .int .i64 k, .int .i64 i0, .slice va j vc]) (by simp [results, Try.results23, go_sem, r0, r1, r2, r3]) rfl ?_
        have hkn : j = args.length := by omega
        refine ⟨_, _, _, _, rfl, ?_, (((hb.setCell (by simp) _).setCell (by simp) _).setCell (by simp) _).setCell (by simp) _⟩
        have hf : ∀ q, N2 ≤ q → q ≠ w.heap.size + 1 := fun q h => by omega
        have h := Hacc.out
        rw [List.take_of_length_le (by omega)] at h
        have hA := ((((h.setCell ⟨w.heap.size + 1, 0, none⟩ (.slice qa' binds.length qc') (by simp; omega) (by simp; omega)).setCell ⟨w.heap.size + 1, 1, none⟩ (.int .i64 k) (by simp; omega) (by simp; omega)).setCell ⟨w.heap.size + 1, 2, none⟩ (.int .i64 i0) (by simp; omega) (by simp; omega)).setCell ⟨w.heap.size + 1, 3, none⟩ (.slice va j vc) (by simp; omega) (by simp; omega))
        have KR : Keep (fun q => w.heap.size + 2 ≤ q ∧ q ≠ p ∧ q < N2) wr ((((wr.setCell ⟨w.heap.size + 1, 0, none⟩ (.slice qa' binds.length qc')).setCell ⟨w.heap.size + 1, 1, none⟩ (.int .i64 k)).setCell ⟨w.heap.size + 1, 2, none⟩ (.int .i64 i0)).setCell ⟨w.heap.size + 1, 3, none⟩ (.slice va j vc)) :=
          ((((Keep.refl _ _).setCell _ _ (by simp)).setCell _ _ (by simp)).setCell _ _ (by simp)).setCell _ _ (by simp)
        exact isTm_mk ((hbi.out.keep KR).weaken (by decide) fun q _ h => by omega) (hA.sl (F' := fun q => w.heap.size ≤ q) (fun q _ hq => by omega) (fun q hq => by omega)) k i0
set_option maxRecDepth 100000 in
set_option maxHeartbeats 1600000 in
theorem of6_any {F : Nat → Prop} {w0 : World} {b k i a : Value} {t : Tm} (ht : IsTm F w0 b k i a t) : ∀ (w : World), t.full ≤ 1000000 →
    Keep F w0 w →
    Calls Try.prog 20 #[.agg #[b, k, i, a]] w (FreshTm t w) := by
  induction ht with
  | mk bv k i0 a n c binds args bl off PA A PN PC N C Kd Ix hb hn hm ha h1 h2 h3 h4 h5 ih =>
  intro w hsize hw
  subst hn
  obtain ⟨pa, pc, rfl⟩ := hb.shape
  clear h5
  rw [Tm.full_eq] at hsize
  have hlen : args.length ≤ 1000000 := by have := Tm.len_fulls args; omega
  have Hsz : Hid (∀ j (h : j < args.length), args[j].full ≤ 1000000) := fun j h => by have := Tm.full_mem (List.getElem_mem h); omega
  have Htys : Hid (∀ w, Keep F w0 w → Calls Try.prog 86 #[.slice pa binds.length pc] w (FreshTys binds w)) := fun w hw => ofTypes_any hb w hw (by omega)
  have Hih := Lib.hid ih; clear ih hsize hb
  obtain ⟨i1, hi0, hz0, hz1, hz2⟩ := info_parts infoM
  go_enter Try.func20, Try.ntmps20
  go_wp2_with fail
  obtain ⟨w1, hw1⟩ : ∃ w1, (w.alloc (.cells #[.slice pa binds.length pc, .int .i64 k, .int .i64 i0, .slice a args.length c] 37)).alloc (.cells #[.slice none 0 0, .int .i64 0, .int .i64 0, .slice none 0 0] 29) = w1 := ⟨_, rfl⟩
  have B1 : Below w.heap.size w w1 := by rw [← hw1]; exact ((Below.refl _ _).alloc (Nat.le_refl _) _).alloc (by simp) _
  have x0 : Blk w1 w.heap.size #[.slice pa binds.length pc, .int .i64 k, .int .i64 i0, .slice a args.length c] 37 := by rw [← hw1]; exact (Blk.new _ _ _ rfl).alloc _
  have x1 : Blk w1 (w.heap.size + 1) #[.slice none 0 0, .int .i64 0, .int .i64 0, .slice none 0 0] 29 := by rw [← hw1]; exact Blk.new _ _ _ (by simp)
  have hsz1 : w1.heap.size = w.heap.size + 2 := by rw [← hw1]; simp
  rw [hw1]
  clear hw1
  refine wp_region_noPanic (wp_region_need (S := fun w' => w'.cell? ⟨w.heap.size, 0, none⟩ = some (.slice pa binds.length pc) ∧ w'.cell? ⟨w.heap.size, 1, none⟩ = some (.int .i64 k) ∧ w'.cell? ⟨w.heap.size, 2, none⟩ = some (.int .i64 i0)) (by kernel_rfl) ?_)
  have hS : (w1.drew).cell? ⟨w.heap.size, 0, none⟩ = some (.slice pa binds.length pc) ∧ (w1.drew).cell? ⟨w.heap.size, 1, none⟩ = some (.int .i64 k) ∧ (w1.drew).cell? ⟨w.heap.size, 2, none⟩ = some (.int .i64 i0) := ⟨x0.drew.cell rfl, x0.drew.cell rfl, x0.drew.cell rfl⟩
  refine wpN_take (i := 0) (v := ?v18) rfl (by kernel_rfl) (fun _ _ _ h => h) hS (Or.inl ⟨by rfl, ?hy18⟩) ?hr18
  case hy18 => (intro wS hSw; (try dsimp only at hSw); go_simp; (try with_reducible rfl))
  try simp only [Act.put, List.setIfInBounds_toArray, List.set_cons_zero, List.set_cons_succ, List.getElem_toArray, List.getElem_cons_zero, List.getElem_cons_succ]
  refine wpN_take (i := 1) (v := ?v19) rfl (by kernel_rfl) (fun _ _ _ h => h) hS (Or.inl ⟨by rfl, ?hy19⟩) ?hr19
  case hy19 => (intro wS hSw; (try dsimp only at hSw); go_simp; (try with_reducible rfl))
  try simp only [Act.put, List.setIfInBounds_toArray, List.set_cons_zero, List.set_cons_succ, List.getElem_toArray, List.getElem_cons_zero, List.getElem_cons_succ]
  refine wpN_take (i := 3) (v := ?v20) rfl (by kernel_rfl) (fun _ _ _ h => h) hS (Or.inl ⟨by rfl, ?hy20⟩) ?hr20
  case hy20 => (intro wS hSw; (try dsimp only at hSw); go_simp; (try with_reducible rfl))
  try simp only [Act.put, List.setIfInBounds_toArray, List.set_cons_zero, List.set_cons_succ, List.getElem_toArray, List.getElem_cons_zero, List.getElem_cons_succ]
  refine wpN_take (i := 4) (v := ?v21) rfl (by kernel_rfl) (fun _ _ _ h => h) hS (Or.inl ⟨by rfl, ?hy21⟩) ?hr21
  case hy21 => (intro wS hSw; (try dsimp only at hSw); go_simp; (try with_reducible rfl))
  try simp only [Act.put, List.setIfInBounds_toArray, List.set_cons_zero, List.set_cons_succ, List.getElem_toArray, List.getElem_cons_zero, List.getElem_cons_succ]
  refine wpN_take (i := 5) (v := ?v22) rfl (by kernel_rfl) (fun _ _ _ h => h) hS (Or.inl ⟨by rfl, ?hy22⟩) ?hr22
  case hy22 => (intro wS hSw; (try dsimp only at hSw); go_simp; (try with_reducible rfl))
  try simp only [Act.put, List.setIfInBounds_toArray, List.set_cons_zero, List.set_cons_succ, List.getElem_toArray, List.getElem_cons_zero, List.getElem_cons_succ]
  refine wpN_take (i := 6) (v := ?v23) rfl (by kernel_rfl) (fun _ _ _ h => h) hS (Or.inl ⟨by rfl, ?hy23⟩) ?hr23
  case hy23 => (intro wS hSw; (try dsimp only at hSw); go_simp; (try with_reducible rfl))
  try simp only [Act.put, List.setIfInBounds_toArray, List.set_cons_zero, List.set_cons_succ, List.getElem_toArray, List.getElem_cons_zero, List.getElem_cons_succ]
  refine wpN_take (i := 7) (v := ?v24) rfl (by kernel_rfl) (fun _ _ _ h => h) hS (Or.inl ⟨by rfl, ?hy24⟩) ?hr24
  case hy24 => (intro wS hSw; (try dsimp only at hSw); go_simp; (try with_reducible rfl))
  try simp only [Act.put, List.setIfInBounds_toArray, List.set_cons_zero, List.set_cons_succ, List.getElem_toArray, List.getElem_cons_zero, List.getElem_cons_succ]
  refine wpN_take (i := 8) (v := ?v25) rfl (by kernel_rfl) (fun _ _ _ h => h) hS (Or.inl ⟨by rfl, ?hy25⟩) ?hr25
  case hy25 => (intro wS hSw; (try dsimp only at hSw); go_simp; (try with_reducible rfl))
  try simp only [Act.put, List.setIfInBounds_toArray, List.set_cons_zero, List.set_cons_succ, List.getElem_toArray, List.getElem_cons_zero, List.getElem_cons_succ]
  refine wpN_take (i := 9) (v := ?v26) rfl (by kernel_rfl) (fun _ _ _ h => h) hS (Or.inl ⟨by rfl, ?hy26⟩) ?hr26
  case hy26 => (intro wS hSw; (try dsimp only at hSw); go_simp; (try with_reducible rfl))
  try simp only [Act.put, List.setIfInBounds_toArray, List.set_cons_zero, List.set_cons_succ, List.getElem_toArray, List.getElem_cons_zero, List.getElem_cons_succ]
  refine wpN_gathersP [(2, 7), (10, 15), (11, 3)] 1 (fun j v x y w' => match j with
    | 2 => ∃ qa qc, v = .slice qa binds.length qc ∧ IsSl rpTy (fun q => x ≤ q ∧ q < y) w' (.slice qa binds.length qc) binds
    | 10 => True
    | _ => v = .pointer (some ⟨x, 0, none⟩) ∧ x < y ∧ Blk w' x #[.slice none 0 0, .int .i64 0, .int .i64 0, .slice none 0 0] 29) (fun j u => match j with
    | 10 => ∃ qa qc, u 2 = .slice qa binds.length qc ∧ u 10 = .agg #[.slice qa binds.length qc, .int .i64 k, .int .i64 i0, .slice none 0 0]
    | _ => True) rfl rfl (by kernel_rfl) ?gst ?gst' hS ?gop ?gend
  case gst =>
    intro j v x y wa wb h hb
    split at h
    · obtain ⟨a, c, e, ht⟩ := h
      exact ⟨a, c, e, ht.keep ((Keep.refl _ _).below hb)⟩
    · trivial
    · exact ⟨h.1, h.2.1, h.2.2.below hb⟩
  case gst' =>
    intro j hj u u' hu h
    simp only [List.map_cons, List.map_nil, List.mem_cons, List.not_mem_nil, or_false] at hj
    rcases hj with rfl | rfl | rfl
    · trivial
    · obtain ⟨qa, qc, e1, e2⟩ := h
      exact ⟨qa, qc, (hu 2 (.inr (by kernel_rfl))).trans e1, (hu 10 (.inl rfl)).trans e2⟩
    · trivial
  case gop =>
    intro x hx u w' hdep hB' hS'
    obtain ⟨q1, q2, q3⟩ := hS'
    have hbw : Below w1.heap.size w1 w' := (Below.refl _ _).drew.trans hB'
    simp only [List.mem_cons, List.not_mem_nil, or_false] at hx
    rcases hx with rfl | rfl | rfl
    · refine wpOp_step (i := 2) rfl (fun K hK => ?_)
      have hK := Lib.hid hK
      simp only [fills, List.foldl, Act.put, List.setIfInBounds_toArray, List.set_cons_zero, List.set_cons_succ, List.getElem_toArray, List.getElem_cons_zero, List.getElem_cons_succ]
      go_simp
      refine (Htys.out w' (hw.below (B1.trans (hbw.mono B1.size)))).mono ?_
      rintro e w6 ⟨qa, qc, rfl, hT, hb6⟩
      have hKp : Keep (fun _ => True) w' w6 := (Keep.refl _ _).below hb6
      exact hK.out _ _ ⟨_, rfl, ⟨_, _, rfl, hT.weaken (by decide) fun q h1 h2 => ⟨h2, h1⟩⟩, trivial, hb6, hKp _ _ _ trivial q1, hKp _ _ _ trivial q2, hKp _ _ _ trivial q3⟩
    · obtain ⟨_, _, _, qa, qc, e1, _⟩ := hdep 2 (by simp) (by kernel_rfl)
      refine wpOp_step (i := 10) rfl (fun K hK => ?_)
      have hK := Lib.hid hK
      simp only [fills, List.foldl, Act.put, List.setIfInBounds_toArray, List.set_cons_zero, List.set_cons_succ, List.getElem_toArray, List.getElem_cons_zero, List.getElem_cons_succ]
      rw [e1]
      go_simp
      exact hK.out _ _ ⟨.agg #[.slice qa binds.length qc, .int .i64 k, .int .i64 i0, .slice none 0 0], by simp only [fills, List.foldl, Act.put, List.setIfInBounds_toArray, List.set_cons_zero, List.set_cons_succ, List.getElem_toArray, List.getElem_cons_zero, List.getElem_cons_succ]; simp [upd, e1], trivial, ⟨qa, qc, e1, rfl⟩, Below.refl _ _, q1, q2, q3⟩
    · refine wpOp_step (i := 11) rfl (fun K hK => ?_)
      have hK := Lib.hid hK
      simp only [fills, List.foldl, Act.put, List.setIfInBounds_toArray, List.set_cons_zero, List.set_cons_succ, List.getElem_toArray, List.getElem_cons_zero, List.getElem_cons_succ]
      go_simp
      have hb6 : Below w'.heap.size w' (w'.alloc (.cells #[.slice none 0 0, .int .i64 0, .int .i64 0, .slice none 0 0] 29)) := (Below.refl _ _).alloc (Nat.le_refl _) _
      have hKp : Keep (fun _ => True) w' (w'.alloc (.cells #[.slice none 0 0, .int .i64 0, .int .i64 0, .slice none 0 0] 29)) := (Keep.refl _ _).below hb6
      exact hK.out _ _ ⟨_, rfl, ⟨rfl, by simp, Blk.new _ _ _ rfl⟩, trivial, hb6, hKp _ _ _ trivial q1, hKp _ _ _ trivial q2, hKp _ _ _ trivial q3⟩
  case gend =>
    intro u lo hi w' hΦ hΨ hB' hS'
    have hbw : Below w1.heap.size w1 w' := (Below.refl _ _).drew.trans hB'
    obtain ⟨⟨qa, qc, e1, V1⟩, n1, m1, o1⟩ := hΦ.1 2 (by simp) rfl
    obtain ⟨⟨e2, r2, Z2⟩, n2, m2, o2⟩ := hΦ.1 11 (by simp) rfl
    obtain ⟨qa', qc', e3, e4⟩ := hΨ 10 (by simp)
    obtain ⟨rfl, rfl⟩ : qa' = qa ∧ qc' = qc := by rw [e1] at e3; cases e3; exact ⟨rfl, rfl⟩
    clear e3
    have k12 := hΦ.2 2 (by simp) 11 (by simp) rfl rfl (by decide)
    clear hΦ hΨ
    simp only [fills, List.foldl, Act.put, List.setIfInBounds_toArray, List.set_cons_zero, List.set_cons_succ, List.getElem_toArray, List.getElem_cons_zero, List.getElem_cons_succ]
    rw [e1, e2, e4]
    clear e1 e2 e4
    have hsz : w1.drew.heap.size = w1.heap.size := rfl
    rw [hsz, hsz1] at n1 n2
    generalize lo 11 = p at *
    have U1 := Lib.hid (V1.weaken (F' := fun q => w.heap.size + 2 ≤ q ∧ q ≠ p) (by decide) fun q _ h => ⟨by omega, by omega⟩)
    clear V1 k12 n1 m1 o1 m2 r2 o2 hsz
    have B2 := B1.trans (hbw.mono B1.size)
    have y0 := x0.below hbw
    have y1 := x1.below hbw
    have r0 : w'.cell? ⟨p, 0, none⟩ = some (.slice none 0 0) := Z2.cell rfl
    have r1 : w'.cell? ⟨p, 1, none⟩ = some (.int .i64 0) := Z2.cell rfl
    have r2 : w'.cell? ⟨p, 2, none⟩ = some (.int .i64 0) := Z2.cell rfl
    have r3 : w'.cell? ⟨p, 3, none⟩ = some (.slice none 0 0) := Z2.cell rfl
    have f0 := Z2.free 0
    have f1 := Z2.free 1
    have f2 := Z2.free 2
    have f3 := Z2.free 3
    refine wpN_step (i := 12) (by kernel_rfl) rfl (fun K hK => ?_)
    go_simp
    refine hK.out _ _ (fun h => absurd h (by decide)) ?_
    clear hK K
    try simp only [Act.put, List.setIfInBounds_toArray, List.set_cons_zero, List.set_cons_succ, List.getElem_toArray, List.getElem_cons_zero, List.getElem_cons_succ]
    refine wpN_done (by kernel_rfl) ?_
    refine NoPanic.normal ?_
    obtain ⟨w2, hw2⟩ : ∃ w2, ((((w'.setCell ⟨p, 0, none⟩ (.slice qa' binds.length qc')).setCell ⟨p, 1, none⟩ (.int .i64 k)).setCell ⟨p, 2, none⟩ (.int .i64 i0)).setCell ⟨p, 3, none⟩ (.slice none 0 0)) = w2 := ⟨_, rfl⟩
    have hlp := Z2.lt
    have B3 : Below w.heap.size w w2 := by rw [← hw2]; exact ((((B2.setCell (by simp; omega) _).setCell (by simp; omega) _).setCell (by simp; omega) _).setCell (by simp; omega) _)
    have z0 : Blk w2 w.heap.size #[.slice pa binds.length pc, .int .i64 k, .int .i64 i0, .slice a args.length c] 37 := by rw [← hw2]; exact ((((y0.far _ _ (by simp; omega)).far _ _ (by simp; omega)).far _ _ (by simp; omega)).far _ _ (by simp; omega))
    have z1 : Blk w2 (w.heap.size + 1) #[.slice none 0 0, .int .i64 0, .int .i64 0, .slice none 0 0] 29 := by rw [← hw2]; exact ((((y1.far _ _ (by simp; omega)).far _ _ (by simp; omega)).far _ _ (by simp; omega)).far _ _ (by simp; omega))
    have zp : Blk w2 p #[.slice qa' binds.length qc', .int .i64 k, .int .i64 i0, .slice none 0 0] 29 := by rw [← hw2]; exact ((((Z2.set 0 _).set 1 _).set 2 _).set 3 _)
    have KU : Keep (fun q => w.heap.size + 2 ≤ q ∧ q ≠ p) w' w2 := by rw [← hw2]; exact ((((Keep.refl _ _).setCell _ _ (by simp)).setCell _ _ (by simp)).setCell _ _ (by simp)).setCell _ _ (by simp)
    have U2 := Lib.hid (U1.out.keep KU)
    rw [hw2]
    clear hw2 KU U1 y0 y1 Z2 r0 r1 r2 r3 f0 f1 f2 f3 B2 hbw hB' hS' hS x0 x1 B1
    have hlp2 := zp.lt
    obtain ⟨N2, hN2⟩ : ∃ n, w2.heap.size = n := ⟨_, rfl⟩
    have HN2 := Lib.hid hN2; clear hN2
    have hpN : p < N2 := by have := HN2.out; omega
    have c3 : w2.cell? ⟨w.heap.size, 3, none⟩ = some (.slice a args.length c) := z0.cell rfl
    have U3 := Lib.hid (U2.out.weaken (F' := fun q => w.heap.size + 2 ≤ q ∧ q ≠ p ∧ q < N2) (by decide) fun q h1 h2 => ⟨h2.1, h2.2, by have := HN2.out; omega⟩)
    clear U2
    have hsz2 : N2 ≤ w2.heap.size := by have := HN2.out; omega
    have hacc0 : Acc rpTm 29 N2 (fun q => N2 ≤ q) w2 (.slice none 0 0) [] := Acc.nil _ _ _ _ _
    go_wp2_with fail
    go_loopw [4] (fun i wr => ∃ (j : Nat) (v : Value), i = .int .i64 j ∧ j ≤ args.length ∧ N2 ≤ wr.heap.size ∧
        Below w.heap.size w wr ∧ Blk wr w.heap.size #[.slice pa binds.length pc, .int .i64 k, .int .i64 i0, .slice a args.length c] 37 ∧ Blk wr (w.heap.size + 1) #[.slice none 0 0, .int .i64 0, .int .i64 0, .slice none 0 0] 29 ∧ Blk wr p #[.slice qa' binds.length qc', .int .i64 k, .int .i64 i0, v] 29 ∧
        Hid (IsSl rpTy (fun q => w.heap.size + 2 ≤ q ∧ q ≠ p ∧ q < N2) wr (.slice qa' binds.length qc') binds) ∧
        Acc rpTm 29 N2 (fun q => N2 ≤ q) wr v (args.take j)) (fun i _ => args.length - (intOf i).toNat)
    case atStart => exact ⟨0, _, rfl, by omega, hsz2, B3, z0, z1, zp, U3.out, hacc0⟩
    case round =>
      clear B3 z0 z1 zp U3 hacc0 hsz2 hlp hlp2 c3
      obtain ⟨j, v, rfl, hj, hsN, hb, hbox, hres, hout, hbi, hacc⟩ := hrel
      have c0 : wr.cell? ⟨w.heap.size, 3, none⟩ = some (.slice a args.length c) := hbox.cell rfl
      have d0 : wr.cell? ⟨p, 3, none⟩ = some v := hout.cell rfl
      have hszp := hout.lt
      have hszb := hres.lt
      have Hacc := Lib.hid hacc; clear hacc
      by_cases hlt : j < args.length
      · obtain ⟨rfl, hF⟩ := ha (by omega)
        clear ha
        have hkp : Keep F w0 wr := hw.below hb
        have e1 := hkp _ _ _ hF (h1 j hlt)
        have e2 := hkp _ _ _ hF (h2 j hlt)
        have e3 := hkp _ _ _ hF (h3 j hlt)
        have e4 := hkp _ _ _ hF (h4 j hlt)
        have hlt0 : (0 : Int) ≤ (j : Int) := Int.natCast_nonneg _
        have hlt1 : (j : Int) < (args.length : Int) := by omega
        have Hbw : Hid (bl < w.heap.size) := Keep.lt (hw _ _ _ hF (h1 j hlt))
        have Hbl : Hid (v.ownBlock ≠ some bl) := fun e => by have := (Hacc.out.base_le bl e).1; have := Hbw.out; omega
        have Hl : Hid ((args.take j).length = j) := by show _ = _; simp; omega
        have Hne : Hid (∀ q, q < N2 → v.ownBlock ≠ some q) := fun q hq e => by have := (Hacc.out.base_le q e).1; omega
        go_wp2_with fail
        refine wp_region_noPanic (wp_region_need (S := fun w' => w'.cell? ⟨w.heap.size, 3, none⟩ = some (.slice (some ⟨bl, off, none⟩) args.length c) ∧ w'.cell? ⟨p, 3, none⟩ = some v ∧ w'.cell? ⟨bl, off + j * 4, none⟩ = some (.slice (PA j) (PN j) (PC j)) ∧ w'.cell? ⟨bl, off + j * 4 + 1, none⟩ = some (.int .i64 (Kd j)) ∧ w'.cell? ⟨bl, off + j * 4 + 2, none⟩ = some (.int .i64 (Ix j)) ∧ w'.cell? ⟨bl, off + j * 4 + 3, none⟩ = some (.slice (A j) (N j) (C j))) (by kernel_rfl) ?_)
        have hS : (wr.drew).cell? ⟨w.heap.size, 3, none⟩ = some (.slice (some ⟨bl, off, none⟩) args.length c) ∧ (wr.drew).cell? ⟨p, 3, none⟩ = some v ∧ (wr.drew).cell? ⟨bl, off + j * 4, none⟩ = some (.slice (PA j) (PN j) (PC j)) ∧ (wr.drew).cell? ⟨bl, off + j * 4 + 1, none⟩ = some (.int .i64 (Kd j)) ∧ (wr.drew).cell? ⟨bl, off + j * 4 + 2, none⟩ = some (.int .i64 (Ix j)) ∧ (wr.drew).cell? ⟨bl, off + j * 4 + 3, none⟩ = some (.slice (A j) (N j) (C j)) := ⟨c0, d0, e1, e2, e3, e4⟩
        refine wpN_take (i := 0) (v := ?v27) rfl (by kernel_rfl) (fun _ _ _ h => h) hS (Or.inl ⟨by rfl, ?hy27⟩) ?hr27
        case hy27 => (intro wS hSw; (try dsimp only at hSw); go_simp; (try with_reducible rfl))
        try simp only [Act.put, List.setIfInBounds_toArray, List.set_cons_zero, List.set_cons_succ, List.getElem_toArray, List.getElem_cons_zero, List.getElem_cons_succ]
        refine wpN_take (i := 1) (v := ?v28) rfl (by kernel_rfl) (fun _ _ _ h => h) hS (Or.inl ⟨by rfl, ?hy28⟩) ?hr28
        case hy28 => (intro wS hSw; (try dsimp only at hSw); go_simp; (try with_reducible rfl))
        try simp only [Act.put, List.setIfInBounds_toArray, List.set_cons_zero, List.set_cons_succ, List.getElem_toArray, List.getElem_cons_zero, List.getElem_cons_succ]
        refine wpN_take (i := 2) (v := ?v29) rfl (by kernel_rfl) (fun _ _ _ h => h) hS (Or.inl ⟨by rfl, ?hy29⟩) ?hr29
        case hy29 => (intro wS hSw; (try dsimp only at hSw); go_simp; (try with_reducible rfl))
        try simp only [Act.put, List.setIfInBounds_toArray, List.set_cons_zero, List.set_cons_succ, List.getElem_toArray, List.getElem_cons_zero, List.getElem_cons_succ]
        refine wpN_take (i := 3) (v := ?v30) rfl (by kernel_rfl) (fun _ _ _ h => h) hS (Or.inl ⟨by rfl, ?hy30⟩) ?hr30
        case hy30 => (intro wS hSw; (try dsimp only at hSw); go_simp; (try with_reducible rfl))
        try simp only [Act.put, List.setIfInBounds_toArray, List.set_cons_zero, List.set_cons_succ, List.getElem_toArray, List.getElem_cons_zero, List.getElem_cons_succ]
        refine wpN_take (i := 4) (v := ?v31) rfl (by kernel_rfl) (fun _ _ _ h => h) hS (Or.inl ⟨by rfl, ?hy31⟩) ?hr31
        case hy31 => (intro wS hSw; (try dsimp only at hSw); go_simp; (try with_reducible rfl))
        try simp only [Act.put, List.setIfInBounds_toArray, List.set_cons_zero, List.set_cons_succ, List.getElem_toArray, List.getElem_cons_zero, List.getElem_cons_succ]
        refine wpN_take (i := 5) (v := ?v32) rfl (by kernel_rfl) (fun _ _ _ h => h) hS (Or.inl ⟨by rfl, ?hy32⟩) ?hr32
        case hy32 => (intro wS hSw; (try dsimp only at hSw); go_simp; (try with_reducible rfl))
        try simp only [Act.put, List.setIfInBounds_toArray, List.set_cons_zero, List.set_cons_succ, List.getElem_toArray, List.getElem_cons_zero, List.getElem_cons_succ]
        refine wpN_take (i := 6) (v := ?v33) rfl (by kernel_rfl) (fun _ _ _ h => h) hS (Or.inl ⟨by rfl, ?hy33⟩) ?hr33
        case hy33 => (intro wS hSw; (try dsimp only at hSw); go_simp; (try with_reducible rfl))
        try simp only [Act.put, List.setIfInBounds_toArray, List.set_cons_zero, List.set_cons_succ, List.getElem_toArray, List.getElem_cons_zero, List.getElem_cons_succ]
        refine wpN_step (i := 7) (by kernel_rfl) rfl (fun K hK => ?_)
        go_simp
        refine (Hih.out j hlt _ (Hsz.out j hlt) (hkp.drew)).mono ?_
        rintro e w3 ⟨b', k', i', a', rfl, hr1, hb1⟩
        have hK1 : Keep (fun q => v.ownBlock ≠ some q) wr w3 := ((Keep.refl _ _).drew).below hb1
        have hS : (w3).cell? ⟨w.heap.size, 3, none⟩ = some (.slice (some ⟨bl, off, none⟩) args.length c) ∧ (w3).cell? ⟨p, 3, none⟩ = some v ∧ (w3).cell? ⟨bl, off + j * 4, none⟩ = some (.slice (PA j) (PN j) (PC j)) ∧ (w3).cell? ⟨bl, off + j * 4 + 1, none⟩ = some (.int .i64 (Kd j)) ∧ (w3).cell? ⟨bl, off + j * 4 + 2, none⟩ = some (.int .i64 (Ix j)) ∧ (w3).cell? ⟨bl, off + j * 4 + 3, none⟩ = some (.slice (A j) (N j) (C j)) := ⟨(Blk.below (w := wr.drew) hbox hb1).cell rfl, (Blk.below (w := wr.drew) hout hb1).cell rfl, hK1 _ _ _ Hbl.out e1, hK1 _ _ _ Hbl.out e2, hK1 _ _ _ Hbl.out e3, hK1 _ _ _ Hbl.out e4⟩
        refine hK.out _ _ (fun _ => hS) ?_
        clear hK K
        try simp only [Act.put, List.setIfInBounds_toArray, List.set_cons_zero, List.set_cons_succ, List.getElem_toArray, List.getElem_cons_zero, List.getElem_cons_succ]
        refine wpN_step (i := 8) (by kernel_rfl) rfl (fun K hK => ?_)
        go_simp
        have hS : (w3.alloc (.cells #[b', k', i', a'] 29)).cell? ⟨w.heap.size, 3, none⟩ = some (.slice (some ⟨bl, off, none⟩) args.length c) ∧ (w3.alloc (.cells #[b', k', i', a'] 29)).cell? ⟨p, 3, none⟩ = some v ∧ (w3.alloc (.cells #[b', k', i', a'] 29)).cell? ⟨bl, off + j * 4, none⟩ = some (.slice (PA j) (PN j) (PC j)) ∧ (w3.alloc (.cells #[b', k', i', a'] 29)).cell? ⟨bl, off + j * 4 + 1, none⟩ = some (.int .i64 (Kd j)) ∧ (w3.alloc (.cells #[b', k', i', a'] 29)).cell? ⟨bl, off + j * 4 + 2, none⟩ = some (.int .i64 (Ix j)) ∧ (w3.alloc (.cells #[b', k', i', a'] 29)).cell? ⟨bl, off + j * 4 + 3, none⟩ = some (.slice (A j) (N j) (C j)) := ⟨((Blk.below (w := wr.drew) hbox hb1).alloc _).cell rfl, ((Blk.below (w := wr.drew) hout hb1).alloc _).cell rfl, (hK1.alloc _) _ _ _ Hbl.out e1, (hK1.alloc _) _ _ _ Hbl.out e2, (hK1.alloc _) _ _ _ Hbl.out e3, (hK1.alloc _) _ _ _ Hbl.out e4⟩
        refine hK.out _ _ (fun _ => hS) ?_
        clear hK K
        try simp only [Act.put, List.setIfInBounds_toArray, List.set_cons_zero, List.set_cons_succ, List.getElem_toArray, List.getElem_cons_zero, List.getElem_cons_succ]
        refine wpN_step (i := 9) (by kernel_rfl) rfl (fun K hK => ?_)
        refine step_push rpTm (by decide) (by rfl) _ _ _ (by rfl) N2 29 i1 _ 64 Try.underlying27 hi0 hz0 hz1 hz2 rfl (by decide)
               (fun q => N2 ≤ q) v (args.take j) (by rfl) (((Hacc.out.drew).below hb1).alloc _) (by rw [Hl.out]; omega)
               w3.heap.size _ [b', k', i', a'] args[j] (by rfl) (heap_alloc_new _ _) ⟨_, _, _, _, rfl, (hr1.weaken (fun q _ hq => ⟨Nat.le_trans (show N2 ≤ wr.drew.heap.size from hsN) hq, fun e => by have := (Hacc.out.base_le q e).2; exact absurd this (Nat.not_lt.2 hq)⟩)).keep ((Keep.refl _ _).alloc _)⟩ (by have := hb1.size; simp at this ⊢; omega) ?_
        intro gg cap w4 hacc2 hgrow hat hlt2
        have hK2 : Keep (fun q => v.ownBlock ≠ some q) wr w4 := (hK1.alloc _).grown hgrow (fun _ hr hf => hf hr)
        have o2 := hout.push hb1 hgrow (Hne.out _ (by omega))
        have o1 := hres.push hb1 hgrow (Hne.out _ (by omega))
        have o0 := hbox.push hb1 hgrow (Hne.out _ (by omega))
        have bi4 := Lib.hid ((hbi.out.weaken (F' := fun q => (w.heap.size + 2 ≤ q ∧ q ≠ p ∧ q < N2) ∧ v.ownBlock ≠ some q) (by decide) fun q _ h => ⟨h, Hne.out q h.2.2⟩).keep (hK2.weaken fun q h => h.2))
        have B4 := below_push hb (by have := hb.size; omega) hb1 hgrow (fun q hq => by have := (Hacc.out.base_le q hq).1; omega)
        have hS : (w4).cell? ⟨w.heap.size, 3, none⟩ = some (.slice (some ⟨bl, off, none⟩) args.length c) ∧ (w4).cell? ⟨p, 3, none⟩ = some v ∧ (w4).cell? ⟨bl, off + j * 4, none⟩ = some (.slice (PA j) (PN j) (PC j)) ∧ (w4).cell? ⟨bl, off + j * 4 + 1, none⟩ = some (.int .i64 (Kd j)) ∧ (w4).cell? ⟨bl, off + j * 4 + 2, none⟩ = some (.int .i64 (Ix j)) ∧ (w4).cell? ⟨bl, off + j * 4 + 3, none⟩ = some (.slice (A j) (N j) (C j)) := ⟨o0.cell (i := 3) rfl, o2.cell (i := 3) rfl, hK2 _ _ _ Hbl.out e1, hK2 _ _ _ Hbl.out e2, hK2 _ _ _ Hbl.out e3, hK2 _ _ _ Hbl.out e4⟩
        have p2 := o2.free 3
        have Hacc2 := Lib.hid hacc2; clear hacc2
        refine hK.out _ _ (fun _ => hS) ?_
        clear hK K
        try simp only [Act.put, List.setIfInBounds_toArray, List.set_cons_zero, List.set_cons_succ, List.getElem_toArray, List.getElem_cons_zero, List.getElem_cons_succ]
        refine wpN_take (i := 10) (v := ?v34) rfl (by kernel_rfl) (fun _ _ _ h => h) hS (Or.inl ⟨by rfl, ?hy34⟩) ?hr34
        case hy34 => (intro wS hSw; (try dsimp only at hSw); go_simp; (try with_reducible rfl))
        try simp only [Act.put, List.setIfInBounds_toArray, List.set_cons_zero, List.set_cons_succ, List.getElem_toArray, List.getElem_cons_zero, List.getElem_cons_succ]
        refine wpN_step (i := 11) (by kernel_rfl) rfl (fun K hK => ?_)
        go_simp
        refine hK.out _ _ (fun h => absurd h (by decide)) ?_
        clear hK K
        try simp only [Act.put, List.setIfInBounds_toArray, List.set_cons_zero, List.set_cons_succ, List.getElem_toArray, List.getElem_cons_zero, List.getElem_cons_succ]
        refine wpN_done (by kernel_rfl) ?_
        refine NoPanic.normal ?_
        have hs4 : N2 ≤ w4.heap.size := by have := B4.size; have := hgrow.size; have := hb1.size; simp at *; omega
        go_wp2_with fail
        refine ⟨⟨j + 1, _, by go_num, by omega, by simpa using hs4, B4.setCell (by simp; omega) _, o0.far _ _ (by simp; omega), o1.far _ _ (by simp; omega), o2.set 3 _, ?_, ?_⟩, by simp [intOf]; omega⟩
        · exact ((bi4.out.weaken (F' := fun q => w.heap.size + 2 ≤ q ∧ q ≠ p ∧ q < N2) (by decide) fun q _ h => h.1).keep ((Keep.refl _ _).setCell _ _ (by simp)))
        · have h := Hacc2.out
          rw [Hl.out, ← List.take_succ_eq_append_getElem hlt] at h
          exact h.setCell _ _ (by simp; omega) (by simp; omega)
      · obtain ⟨va, vc, hv⟩ := Hacc.out.len_shape
        rw [List.length_take, Nat.min_eq_left hj] at hv
        subst hv
        have d1 : wr.cell? ⟨p, 0, none⟩ = some (.slice qa' binds.length qc') := hout.cell rfl
        have d2 : wr.cell? ⟨p, 1, none⟩ = some (.int .i64 k) := hout.cell rfl
        have d3 : wr.cell? ⟨p, 2, none⟩ = some (.int .i64 i0) := hout.cell rfl
        have r0 : wr.cell? ⟨w.heap.size + 1, 0, none⟩ = some (.slice none 0 0) := hres.cell rfl
        have r1 : wr.cell? ⟨w.heap.size + 1, 1, none⟩ = some (.int .i64 0) := hres.cell rfl
        have r2 : wr.cell? ⟨w.heap.size + 1, 2, none⟩ = some (.int .i64 0) := hres.cell rfl
        have r3 : wr.cell? ⟨w.heap.size + 1, 3, none⟩ = some (.slice none 0 0) := hres.cell rfl
        have f0 := hres.free 0
        have f1 := hres.free 1
        have f2 := hres.free 2
        have f3 := hres.free 3
        go_wp2_with fail
        refine bodyPost_ret (v := .agg #[.slice qa' binds.length qc', .int .i64 k, .int .i64 i0, .slice va j vc]) (by simp [results, Try.results20, go_sem, r0, r1, r2, r3]) rfl ?_
        have hkn : j = args.length := by omega
        refine ⟨_, _, _, _, rfl, ?_, (((hb.setCell (by simp) _).setCell (by simp) _).setCell (by simp) _).setCell (by simp) _⟩
        have hf : ∀ q, N2 ≤ q → q ≠ w.heap.size + 1 := fun q h => by omega
        have h := Hacc.out
        rw [List.take_of_length_le (by omega)] at h
        have hA := ((((h.setCell ⟨w.heap.size + 1, 0, none⟩ (.slice qa' binds.length qc') (by simp; omega) (by simp; omega)).setCell ⟨w.heap.size + 1, 1, none⟩ (.int .i64 k) (by simp; omega) (by simp; omega)).setCell ⟨w.heap.size + 1, 2, none⟩ (.int .i64 i0) (by simp; omega) (by simp; omega)).setCell ⟨w.heap.size + 1, 3, none⟩ (.slice va j vc) (by simp; omega) (by simp; omega))
        have KR : Keep (fun q => w.heap.size + 2 ≤ q ∧ q ≠ p ∧ q < N2) wr ((((wr.setCell ⟨w.heap.size + 1, 0, none⟩ (.slice qa' binds.length qc')).setCell ⟨w.heap.size + 1, 1, none⟩ (.int .i64 k)).setCell ⟨w.heap.size + 1, 2, none⟩ (.int .i64 i0)).setCell ⟨w.heap.size + 1, 3, none⟩ (.slice va j vc)) :=
          ((((Keep.refl _ _).setCell _ _ (by simp)).setCell _ _ (by simp)).setCell _ _ (by simp)).setCell _ _ (by simp)
        exact isTm_mk ((hbi.out.keep KR).weaken (by decide) fun q _ h => by omega) (hA.sl (F' := fun q => w.heap.size ≤ q) (fun q _ hq => by omega) (fun q hq => by omega)) k i0
end Go.Proofs.Ytejpgifofkiofaa

