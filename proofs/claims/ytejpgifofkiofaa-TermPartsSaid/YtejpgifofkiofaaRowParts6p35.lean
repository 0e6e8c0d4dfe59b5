/-
  term.Eta.
-/
import Derived.Test.YtejpgifofkiofaaRowParts6p14
import Derived.Test.YtejpgifofkiofaaRowParts6p15
import Derived.Test.YtejpgifofkiofaaRowParts6p16
set_option linter.unusedVariables false
set_option linter.unusedSimpArgs false
namespace Go.Proofs.Ytejpgifofkiofaa
open Go.RowKit

def EtaKind (t : Ty) : Prop := ∀ (F : Nat → Prop) (w0 : World) (s b : Value), IsTy F w0 s b t → ∀ (k i : Int) (w : World), t.size ≤ 1000 → Keep F w0 w →
    Calls Try.prog 17 #[.agg #[.int .i64 k, .int .i64 i], .agg #[s, b]] w (FreshTm (Ty.Eta t k i) w)

set_option maxRecDepth 100000 in
set_option maxHeartbeats 1600000 in
theorem eta_k : ∀ t : Ty, EtaKind t := Ty.ind fun args b ih => by
  intro F w0 s b0 ht k i w hsize hw
  obtain ⟨rfl, hs0⟩ := ht.inv
  have hs := (hs0.keep hw).weaken (F' := fun q => F q ∧ q < w.heap.size) (by decide) fun q h1 h2 => ⟨h2, h1⟩
  clear hs0 ht hw
  rw [args_mk'] at hs
  rw [base_mk']
  obtain ⟨a, c, rfl⟩ := sl_shape' hs
  obtain ⟨_, hm, bl, off, A, N, C, B, ha, h1, h2, h3⟩ := sl_cells' hs
  have Hself := Lib.hid hs; clear hs
  unfold maxLen at hm
  have hlen : args.length ≤ 1000 := by have := Ty.length_lt (l := args) (b := b); omega
  have Hih : Hid (∀ j (h : j < args.length) (k i : Int) (w' : World), Keep (fun q => F q ∧ q < w.heap.size) w w' →
      Calls Try.prog 17 #[.agg #[.int .i64 k, .int .i64 i], .agg #[.slice (A j) (N j) (C j), .int .i64 (B j)]] w' (FreshTm (Ty.Eta args[j] k i) w')) :=
    fun j h k i w' hw => ih _ (List.getElem_mem h) _ _ _ _ (h3 j h) k i w' (by have := Ty.size_get (b := b) j h; omega) hw
  clear ih h3
  have Harr : Hid (∀ w' : World, Below w.heap.size w w' → Calls Try.prog 46 #[.agg #[.slice a args.length c, .int .i64 b], .slice none 0 0] w' (FreshTy (.mk ([] ++ args) b) w')) := fun w' hb => by
    have h := arrow_k (isTy_mk (Hself.out.keep ((Keep.refl _ _).below hb)) b) (isSl_nil rpTy (fun q => F q ∧ q < w.heap.size) w') (by simp [Ty.sizes]; omega)
    exact h
  obtain ⟨i2, hi0, hz0, hz1, hz2⟩ := info_parts infoT
  obtain ⟨tm, htm⟩ : ∃ tm, Ty.Eta (.mk args b) k i = tm := ⟨_, rfl⟩
  rw [htm]
  by_cases hk : k = 0
  · subst hk
    by_cases h0 : i < 0
    · have Htm := Lib.hid (show tm = Tm.zero by rw [← htm]; simp [Ty.Eta, h0])
      go_enter Try.func17, Try.ntmps17
      go_wp2_with fail
      refine bodyPost_ret (v := .agg #[.slice none 0 0, .int .i64 0, .int .i64 0, .slice none 0 0]) (by simp [results, Try.results17, go_sem]) rfl ?_
      refine ⟨_, _, _, _, rfl, ?_, (((Below.refl _ _).alloc (Nat.le_refl _) _).alloc (by simp) _).alloc (by simp; omega) _⟩
      rw [Htm.out]
      exact isTm_zero _ _
    by_cases h1' : i > 1000
    · have Htm := Lib.hid (show tm = Tm.zero by rw [← htm]; simp [Ty.Eta, show 1000 < i from h1'])
      go_enter Try.func17, Try.ntmps17
      go_wp2_with fail
      refine bodyPost_ret (v := .agg #[.slice none 0 0, .int .i64 0, .int .i64 0, .slice none 0 0]) (by simp [results, Try.results17, go_sem]) rfl ?_
      refine ⟨_, _, _, _, rfl, ?_, (((Below.refl _ _).alloc (Nat.le_refl _) _).alloc (by simp) _).alloc (by simp; omega) _⟩
      rw [Htm.out]
      exact isTm_zero _ _
    have Htm : Hid (Tm.mk args 0 (i + (args.length : Nat)) (Ty.etas args) = tm) := by show _ = _; rw [← htm, Ty.Eta, if_neg (by omega), Ty.eta_eq, if_pos rfl]
    have hsum : IntKind.i64.wrap (i + (args.length : Int)) = i + (args.length : Int) := IntWalk.i64_in _ (by omega)
    go_enter Try.func17, Try.ntmps17
    go_wp2_with fail
    obtain ⟨w3, hw3⟩ : ∃ w3, ((w.alloc (.cells #[.int .i64 0, .int .i64 i] 34)).alloc (.cells #[.slice a args.length c, .int .i64 b] 40)).alloc (.cells #[.slice none 0 0, .int .i64 0, .int .i64 0, .slice none 0 0] 37) = w3 := ⟨_, rfl⟩
    have B3 : Below w.heap.size w w3 := by rw [← hw3]; exact (((Below.refl _ _).alloc (Nat.le_refl _) _).alloc (by simp) _).alloc (by simp; omega) _
    have x0 : Blk w3 w.heap.size #[.int .i64 0, .int .i64 i] 34 := by rw [← hw3]; exact ((Blk.new _ _ _ rfl).alloc _).alloc _
    have x1 : Blk w3 (w.heap.size + 1) #[.slice a args.length c, .int .i64 b] 40 := by rw [← hw3]; exact (Blk.new _ _ _ (by simp)).alloc _
    have x2 : Blk w3 (w.heap.size + 1 + 1) #[.slice none 0 0, .int .i64 0, .int .i64 0, .slice none 0 0] 37 := by rw [← hw3]; exact Blk.new _ _ _ (by simp)
    have hsz1 : w3.heap.size = w.heap.size + 3 := by rw [← hw3]; simp
    try rw [hw3]
    clear hw3
    refine wp_region_noPanic (wp_region_need (S := fun w' => w'.cell? ⟨w.heap.size, 0, none⟩ = some (.int .i64 0) ∧ w'.cell? ⟨w.heap.size, 1, none⟩ = some (.int .i64 i) ∧ w'.cell? ⟨w.heap.size + 1, 0, none⟩ = some (.slice a args.length c) ∧ w'.cell? ⟨w.heap.size + 1, 1, none⟩ = some (.int .i64 b)) (by kernel_rfl) ?_)
    have hS : (w3.drew).cell? ⟨w.heap.size, 0, none⟩ = some (.int .i64 0) ∧ (w3.drew).cell? ⟨w.heap.size, 1, none⟩ = some (.int .i64 i) ∧ (w3.drew).cell? ⟨w.heap.size + 1, 0, none⟩ = some (.slice a args.length c) ∧ (w3.drew).cell? ⟨w.heap.size + 1, 1, none⟩ = some (.int .i64 b) := ⟨x0.drew.cell rfl, x0.drew.cell rfl, x1.drew.cell rfl, x1.drew.cell rfl⟩
    refine wpN_take (i := 0) (v := ?v1) rfl (by kernel_rfl) (fun _ _ _ h => h) hS (Or.inl ⟨by rfl, ?hy1⟩) ?hr1
    case hy1 => (intro wS hSw; (try dsimp only at hSw); go_simp; (try with_reducible rfl))
    try simp only [Act.put, List.setIfInBounds_toArray, List.set_cons_zero, List.set_cons_succ, List.getElem_toArray, List.getElem_cons_zero, List.getElem_cons_succ]
    refine wpN_take (i := 3) (v := ?v2) rfl (by kernel_rfl) (fun _ _ _ h => h) hS (Or.inl ⟨by rfl, ?hy2⟩) ?hr2
    case hy2 => (intro wS hSw; (try dsimp only at hSw); go_simp; (try with_reducible rfl))
    try simp only [Act.put, List.setIfInBounds_toArray, List.set_cons_zero, List.set_cons_succ, List.getElem_toArray, List.getElem_cons_zero, List.getElem_cons_succ]
    refine wpN_gathersP [(1, 27), (2, 28), (4, 30), (5, 6)] 1 (fun j v x y w' => match j with
      | 1 => ∃ qa qc, v = .agg #[.slice qa args.length qc, .int .i64 b] ∧ IsSl rpTy (fun q => x ≤ q ∧ q < y) w' (.slice qa args.length qc) args
      | 2 => True
      | 4 => True
      | _ => v = .pointer (some ⟨x, 0, none⟩) ∧ x < y ∧ Blk w' x #[.slice none 0 0, .int .i64 0, .int .i64 0, .slice none 0 0] 37) (fun j u => match j with
      | 2 => ∃ qa qc, u 1 = .agg #[.slice qa args.length qc, .int .i64 b] ∧ u 2 = .slice qa args.length qc
      | 4 => ∃ qa qc, u 2 = .slice qa args.length qc ∧ u 4 = .agg #[.slice qa args.length qc, .int .i64 0, .int .i64 i, .slice none 0 0]
      | _ => True) rfl rfl (by kernel_rfl) ?gst ?gst' hS ?gop ?gend
    case gst =>
      intro j v x y wa wb h hb
      split at h
      · obtain ⟨a, c, e, ht⟩ := h
        exact ⟨a, c, e, ht.keep ((Keep.refl _ _).below hb)⟩
      · trivial
      · trivial
      · exact ⟨h.1, h.2.1, h.2.2.below hb⟩
    case gst' =>
      intro j hj u u' hu h
      simp only [List.map_cons, List.map_nil, List.mem_cons, List.not_mem_nil, or_false] at hj
      rcases hj with rfl | rfl | rfl | rfl
      · trivial
      · obtain ⟨qa, qc, e1, e2⟩ := h
        exact ⟨qa, qc, (hu 1 (.inr (by kernel_rfl))).trans e1, (hu 2 (.inl rfl)).trans e2⟩
      · obtain ⟨qa, qc, e1, e2⟩ := h
        exact ⟨qa, qc, (hu 2 (.inr (by kernel_rfl))).trans e1, (hu 4 (.inl rfl)).trans e2⟩
      · trivial
    case gop =>
      intro x hx u w' hdep hB' hS'
      obtain ⟨q1, q2, q3, q4⟩ := hS'
      have hbw : Below w3.heap.size w3 w' := (Below.refl _ _).drew.trans hB'
      simp only [List.mem_cons, List.not_mem_nil, or_false] at hx
      rcases hx with rfl | rfl | rfl | rfl
      · refine wpOp_step (i := 1) rfl (fun K hK => ?_)
        have hK := Lib.hid hK
        simp only [fills, List.foldl, Act.put, List.setIfInBounds_toArray, List.set_cons_zero, List.set_cons_succ, List.getElem_toArray, List.getElem_cons_zero, List.getElem_cons_succ]
        go_simp
        refine (Harr.out w' (B3.trans (hbw.mono B3.size))).mono ?_
        rintro e w6 ⟨s', b', rfl, hT, hb6⟩
        obtain ⟨qa, qc, rfl, rfl⟩ := hT.shape
        have hSl := hT.inv.2
        simp only [List.nil_append, args_mk', base_mk'] at hSl ⊢
        have hKp : Keep (fun _ => True) w' w6 := (Keep.refl _ _).below hb6
        exact hK.out _ _ ⟨_, rfl, ⟨_, _, rfl, hSl.weaken (by decide) fun q h1 h2 => ⟨h2, h1⟩⟩, trivial, hb6, hKp _ _ _ trivial q1, hKp _ _ _ trivial q2, hKp _ _ _ trivial q3, hKp _ _ _ trivial q4⟩
      · obtain ⟨_, _, _, qa, qc, e1, _⟩ := hdep 1 (by simp) (by kernel_rfl)
        refine wpOp_step (i := 2) rfl (fun K hK => ?_)
        have hK := Lib.hid hK
        simp only [fills, List.foldl, Act.put, List.setIfInBounds_toArray, List.set_cons_zero, List.set_cons_succ, List.getElem_toArray, List.getElem_cons_zero, List.getElem_cons_succ]
        rw [e1]
        go_simp
        exact hK.out _ _ ⟨.slice qa args.length qc, by simp only [fills, List.foldl, Act.put, List.setIfInBounds_toArray, List.set_cons_zero, List.set_cons_succ, List.getElem_toArray, List.getElem_cons_zero, List.getElem_cons_succ]; simp [upd, e1], trivial, ⟨qa, qc, e1, rfl⟩, Below.refl _ _, q1, q2, q3, q4⟩
      · obtain ⟨⟨qa, qc, e0, e1⟩, _⟩ := hdep 2 (by simp) (by kernel_rfl)
        refine wpOp_step (i := 4) rfl (fun K hK => ?_)
        have hK := Lib.hid hK
        simp only [fills, List.foldl, Act.put, List.setIfInBounds_toArray, List.set_cons_zero, List.set_cons_succ, List.getElem_toArray, List.getElem_cons_zero, List.getElem_cons_succ]
        rw [e1]
        go_simp
        exact hK.out _ _ ⟨.agg #[.slice qa args.length qc, .int .i64 0, .int .i64 i, .slice none 0 0], by simp only [fills, List.foldl, Act.put, List.setIfInBounds_toArray, List.set_cons_zero, List.set_cons_succ, List.getElem_toArray, List.getElem_cons_zero, List.getElem_cons_succ]; simp [upd, e1, e0], trivial, ⟨qa, qc, e1, rfl⟩, Below.refl _ _, q1, q2, q3, q4⟩
      · refine wpOp_step (i := 5) rfl (fun K hK => ?_)
        have hK := Lib.hid hK
        simp only [fills, List.foldl, Act.put, List.setIfInBounds_toArray, List.set_cons_zero, List.set_cons_succ, List.getElem_toArray, List.getElem_cons_zero, List.getElem_cons_succ]
        go_simp
        have hb6 : Below w'.heap.size w' (w'.alloc (.cells #[.slice none 0 0, .int .i64 0, .int .i64 0, .slice none 0 0] 37)) := (Below.refl _ _).alloc (Nat.le_refl _) _
        have hKp : Keep (fun _ => True) w' (w'.alloc (.cells #[.slice none 0 0, .int .i64 0, .int .i64 0, .slice none 0 0] 37)) := (Keep.refl _ _).below hb6
        exact hK.out _ _ ⟨_, rfl, ⟨rfl, by simp, Blk.new _ _ _ rfl⟩, trivial, hb6, hKp _ _ _ trivial q1, hKp _ _ _ trivial q2, hKp _ _ _ trivial q3, hKp _ _ _ trivial q4⟩
    case gend =>
      intro u lo hi w' hΦ hΨ hB' hS'
      have hbw : Below w3.heap.size w3 w' := (Below.refl _ _).drew.trans hB'
      obtain ⟨⟨qa, qc, e1, V1⟩, n1, m1, o1⟩ := hΦ.1 1 (by simp) rfl
      obtain ⟨⟨e2, r2, Z2⟩, n2, m2, o2⟩ := hΦ.1 5 (by simp) rfl
      obtain ⟨qa', qc', e3, e4⟩ := hΨ 2 (by simp)
      obtain ⟨qa2, qc2, e5, e6⟩ := hΨ 4 (by simp)
      obtain ⟨rfl, rfl⟩ : qa' = qa ∧ qc' = qc := by rw [e1] at e3; cases e3; exact ⟨rfl, rfl⟩
      obtain ⟨rfl, rfl⟩ : qa2 = qa' ∧ qc2 = qc' := by rw [e4] at e5; cases e5; exact ⟨rfl, rfl⟩
      clear e3 e5
      have k12 := hΦ.2 1 (by simp) 5 (by simp) rfl rfl (by decide)
      clear hΦ hΨ
      simp only [fills, List.foldl, Act.put, List.setIfInBounds_toArray, List.set_cons_zero, List.set_cons_succ, List.getElem_toArray, List.getElem_cons_zero, List.getElem_cons_succ]
      rw [e1, e2, e4, e6]
      clear e1 e2 e4 e6
      have hsz : w3.drew.heap.size = w3.heap.size := rfl
      rw [hsz, hsz1] at n1 n2
      generalize lo 5 = p at *
      have U1 := Lib.hid (V1.weaken (F' := fun q => w.heap.size + 3 ≤ q ∧ q ≠ p) (by decide) fun q _ h => ⟨by omega, by omega⟩)
      clear V1 k12 n1 m1 o1 m2 r2 o2 hsz
      have B2 := B3.trans (hbw.mono B3.size)
      have y0 := x0.below hbw
      have y1 := x1.below hbw
      have y2 := x2.below hbw
      have r0 : w'.cell? ⟨p, 0, none⟩ = some (.slice none 0 0) := Z2.cell rfl
      have r1 : w'.cell? ⟨p, 1, none⟩ = some (.int .i64 0) := Z2.cell rfl
      have r2 : w'.cell? ⟨p, 2, none⟩ = some (.int .i64 0) := Z2.cell rfl
      have r3 : w'.cell? ⟨p, 3, none⟩ = some (.slice none 0 0) := Z2.cell rfl
      have f0 := Z2.free 0
      have f1 := Z2.free 1
      have f2 := Z2.free 2
      have f3 := Z2.free 3
      refine wpN_step (i := 6) (by kernel_rfl) rfl (fun K hK => ?_)
      go_simp
      refine hK.out _ _ (fun h => absurd h (by decide)) ?_
      clear hK K
      try simp only [Act.put, List.setIfInBounds_toArray, List.set_cons_zero, List.set_cons_succ, List.getElem_toArray, List.getElem_cons_zero, List.getElem_cons_succ]
      refine wpN_done (by kernel_rfl) ?_
      refine NoPanic.normal ?_
      obtain ⟨w2, hw2⟩ : ∃ w2, ((((w'.setCell ⟨p, 0, none⟩ (.slice qa2 args.length qc2)).setCell ⟨p, 1, none⟩ (.int .i64 0)).setCell ⟨p, 2, none⟩ (.int .i64 i)).setCell ⟨p, 3, none⟩ (.slice none 0 0)) = w2 := ⟨_, rfl⟩
      have hlp := Z2.lt
      have B5 : Below w.heap.size w w2 := by rw [← hw2]; exact ((((B2.setCell (by simp; omega) _).setCell (by simp; omega) _).setCell (by simp; omega) _).setCell (by simp; omega) _)
      have z0 : Blk w2 w.heap.size #[.int .i64 0, .int .i64 i] 34 := by rw [← hw2]; exact ((((y0.far _ _ (by simp; omega)).far _ _ (by simp; omega)).far _ _ (by simp; omega)).far _ _ (by simp; omega))
      have z1 : Blk w2 (w.heap.size + 1) #[.slice a args.length c, .int .i64 b] 40 := by rw [← hw2]; exact ((((y1.far _ _ (by simp; omega)).far _ _ (by simp; omega)).far _ _ (by simp; omega)).far _ _ (by simp; omega))
      have z2 : Blk w2 (w.heap.size + 1 + 1) #[.slice none 0 0, .int .i64 0, .int .i64 0, .slice none 0 0] 37 := by rw [← hw2]; exact ((((y2.far _ _ (by simp; omega)).far _ _ (by simp; omega)).far _ _ (by simp; omega)).far _ _ (by simp; omega))
      have zp : Blk w2 p #[.slice qa2 args.length qc2, .int .i64 0, .int .i64 i, .slice none 0 0] 37 := by rw [← hw2]; exact ((((Z2.set 0 _).set 1 _).set 2 _).set 3 _)
      have KU : Keep (fun q => w.heap.size + 3 ≤ q ∧ q ≠ p) w' w2 := by rw [← hw2]; exact ((((Keep.refl _ _).setCell _ _ (by simp)).setCell _ _ (by simp)).setCell _ _ (by simp)).setCell _ _ (by simp)
      have U2 := Lib.hid (U1.out.keep KU)
      rw [hw2]
      clear hw2 KU U1 y0 y1 y2 Z2 r0 r1 r2 r3 f0 f1 f2 f3 B2 hbw hB' hS' hS x0 x1 x2 B3 hlp
      have hlp2 := zp.lt
      obtain ⟨N2, hN2⟩ : ∃ n, w2.heap.size = n := ⟨_, rfl⟩
      have HN2 := Lib.hid hN2; clear hN2
      have hpN : p < N2 := by have := HN2.out; omega
      have c00 : w2.cell? ⟨w.heap.size, 0, none⟩ = some (.int .i64 0) := z0.cell rfl
      have c10 : w2.cell? ⟨w.heap.size + 1, 0, none⟩ = some (.slice a args.length c) := z1.cell rfl
      have cp2 : w2.cell? ⟨p, 2, none⟩ = some (.int .i64 i) := zp.cell rfl
      have fp2 := zp.free 2
      go_wp2_with fail
      obtain ⟨w7, hw7⟩ : ∃ w7, w2.setCell ⟨p, 2, none⟩ (.int .i64 (i + (args.length : Nat))) = w7 := ⟨_, rfl⟩
      have B7 : Below w.heap.size w w7 := by rw [← hw7]; exact B5.setCell (by simp; omega) _
      have s2 : Blk w7 (w.heap.size + 1 + 1) #[.slice none 0 0, .int .i64 0, .int .i64 0, .slice none 0 0] 37 := by rw [← hw7]; exact z2.far _ _ (by simp; omega)
      have sp : Blk w7 p #[.slice qa2 args.length qc2, .int .i64 0, .int .i64 (i + (args.length : Nat)), .slice none 0 0] 37 := by rw [← hw7]; exact zp.set 2 _
      have U4 := Lib.hid (U2.out.keep ((Keep.refl _ _).setCell ⟨p, 2, none⟩ (.int .i64 (i + (args.length : Nat))) (by simp)))
      rw [hw7] at U4
      have hs7 : w7.heap.size = w2.heap.size := by rw [← hw7]; simp
      rw [hw7]
      clear hw7
      clear B5 z0 z1 z2 zp U2 c00 c10 cp2 fp2 hlp2
      have U3 := Lib.hid (U4.out.weaken (F' := fun q => w.heap.size + 3 ≤ q ∧ q ≠ p ∧ q < N2) (by decide) fun q h1 h2 => ⟨h2.1, h2.2, by have := HN2.out; omega⟩)
      clear U4
      have hsz2 : N2 ≤ w7.heap.size := by have := HN2.out; omega
      clear hs7
      have hacc0 : Acc rpTm 37 N2 (fun q => N2 ≤ q) w7 (.slice none 0 0) [] := Acc.nil _ _ _ _ _
      go_loopw [44] (fun ii wr => ∃ (j : Nat) (v : Value), ii = .int .i64 j ∧ j ≤ args.length ∧ N2 ≤ wr.heap.size ∧
          Below w.heap.size w wr ∧ Blk wr (w.heap.size + 1 + 1) #[.slice none 0 0, .int .i64 0, .int .i64 0, .slice none 0 0] 37 ∧ Blk wr p #[.slice qa2 args.length qc2, .int .i64 0, .int .i64 (i + (args.length : Nat)), v] 37 ∧
          Hid (IsSl rpTy (fun q => w.heap.size + 3 ≤ q ∧ q ≠ p ∧ q < N2) wr (.slice qa2 args.length qc2) args) ∧
          Acc rpTm 37 N2 (fun q => N2 ≤ q) wr v ((Ty.etas args).take j)) (fun ii _ => args.length - (intOf ii).toNat)
      case atStart => exact ⟨0, _, rfl, by omega, hsz2, B7, s2, sp, U3.out, hacc0⟩
      case round =>
        clear B7 s2 sp U3 hacc0 hsz2
        obtain ⟨j, v, rfl, hj, hsN, hb, hres, hout, hbi, hacc⟩ := hrel
        have hszp := hout.lt
        have hszb := hres.lt
        have Hacc := Lib.hid hacc; clear hacc
        by_cases hlt : j < args.length
        · obtain ⟨rfl, hF⟩ := ha (by omega)
          clear ha
          have hkp : Keep (fun q => F q ∧ q < w.heap.size) w wr := (Keep.refl _ _).below hb
          have e1 := hkp _ _ _ hF (h1 j hlt)
          have e2 := hkp _ _ _ hF (h2 j hlt)
          have hlt0 : (0 : Int) ≤ (j : Int) := Int.natCast_nonneg _
          have hlt1 : (j : Int) < (args.length : Int) := by omega
          have hlen2 : (args.length : Int) ≤ 1000 := by omega
          have Hl : Hid (((Ty.etas args).take j).length = j) := by show _ = _; rw [List.length_take, Ty.etas_len]; omega
          have Hne : Hid (∀ q, q < N2 → v.ownBlock ≠ some q) := fun q hq e => by have := (Hacc.out.base_le q e).1; omega
          have Htk := Lib.hid (Ty.etas_take args j hlt)
          have hq1 : IntKind.i64.wrap ((args.length : Int) - 1) = (args.length : Int) - 1 := IntWalk.i64_in _ (by omega)
          have hq2 : IntKind.i64.wrap ((args.length : Int) - 1 - (j : Int)) = (args.length : Int) - 1 - (j : Int) := IntWalk.i64_in _ (by omega)
          have HE : Hid (Ty.Eta args[j] 0 ((args.length : Int) - 1 - j) = Ty.eta args[j] 0 ((args.length : Int) - 1 - j)) := by
            show _ = _
            unfold Ty.Eta
            rw [if_neg (by intro h; omega)]
          have hblw : bl < wr.heap.size := by have := hF.2; have := hb.size; omega
          go_wp2_with fail
          obtain ⟨wa, hwa⟩ : ∃ wa, wr.alloc (.cells #[.slice (A j) (N j) (C j), .int .i64 (B j)] 40) = wa := ⟨_, rfl⟩
          obtain ⟨qn, hqn⟩ : ∃ qn, wr.heap.size = qn := ⟨_, rfl⟩
          have ba : Below wr.heap.size wr wa := by rw [← hwa]; exact (Below.refl _ _).alloc (Nat.le_refl _) _
          have xa : Blk wa qn #[.slice (A j) (N j) (C j), .int .i64 (B j)] 40 := by rw [← hwa]; exact Blk.new _ _ _ hqn.symm
          have hba := hb.trans (ba.mono hb.size)
          have hresa := hres.below ba
          have houta := hout.below ba
          have Hacca := Lib.hid (Hacc.out.below ba)
          have hbia := Lib.hid (hbi.out.keep ((Keep.refl _ _).below ba))
          have hown : Hid (v.ownBlock ≠ some qn) := fun e => by have := (Hacc.out.base_le qn e).2; omega
          have hsNa : N2 ≤ wa.heap.size := Nat.le_trans hsN ba.size
          have hqN : N2 ≤ qn := by omega
          try rw [hwa]
          try rw [hqn]
          clear hwa hqn ba hb hres hout Hacc hbi hsN hszp hszb hblw e1 e2
          have hszp := houta.lt
          have hszb := hresa.lt
          refine wp_region_noPanic (wp_region_need (S := fun w' => w'.cell? ⟨p, 3, none⟩ = some v ∧ w'.cell? ⟨qn, 0, none⟩ = some (.slice (A j) (N j) (C j)) ∧ w'.cell? ⟨qn, 1, none⟩ = some (.int .i64 (B j))) (by kernel_rfl) ?_)
          have hS : (wa.drew).cell? ⟨p, 3, none⟩ = some v ∧ (wa.drew).cell? ⟨qn, 0, none⟩ = some (.slice (A j) (N j) (C j)) ∧ (wa.drew).cell? ⟨qn, 1, none⟩ = some (.int .i64 (B j)) := ⟨houta.drew.cell rfl, xa.drew.cell rfl, xa.drew.cell rfl⟩
          refine wpN_take (i := 0) (v := ?v3) rfl (by kernel_rfl) (fun _ _ _ h => h) hS (Or.inl ⟨by rfl, ?hy3⟩) ?hr3
          case hy3 => (intro wS hSw; (try dsimp only at hSw); go_simp; (try with_reducible rfl))
          try simp only [Act.put, List.setIfInBounds_toArray, List.set_cons_zero, List.set_cons_succ, List.getElem_toArray, List.getElem_cons_zero, List.getElem_cons_succ]
          refine wpN_take (i := 1) (v := ?v4) rfl (by kernel_rfl) (fun _ _ _ h => h) hS (Or.inl ⟨by rfl, ?hy4⟩) ?hr4
          case hy4 => (intro wS hSw; (try dsimp only at hSw); go_simp; (try with_reducible rfl))
          try simp only [Act.put, List.setIfInBounds_toArray, List.set_cons_zero, List.set_cons_succ, List.getElem_toArray, List.getElem_cons_zero, List.getElem_cons_succ]
          refine wpN_take (i := 2) (v := ?v5) rfl (by kernel_rfl) (fun _ _ _ h => h) hS (Or.inl ⟨by rfl, ?hy5⟩) ?hr5
          case hy5 => (intro wS hSw; (try dsimp only at hSw); go_simp; (try with_reducible rfl))
          try simp only [Act.put, List.setIfInBounds_toArray, List.set_cons_zero, List.set_cons_succ, List.getElem_toArray, List.getElem_cons_zero, List.getElem_cons_succ]
          refine wpN_take (i := 3) (v := ?v6) rfl (by kernel_rfl) (fun _ _ _ h => h) hS (Or.inl ⟨by rfl, ?hy6⟩) ?hr6
          case hy6 => (intro wS hSw; (try dsimp only at hSw); go_simp; (try with_reducible rfl))
          try simp only [Act.put, List.setIfInBounds_toArray, List.set_cons_zero, List.set_cons_succ, List.getElem_toArray, List.getElem_cons_zero, List.getElem_cons_succ]
          refine wpN_take (i := 4) (v := ?v7) rfl (by kernel_rfl) (fun _ _ _ h => h) hS (Or.inl ⟨by rfl, ?hy7⟩) ?hr7
          case hy7 => (intro wS hSw; (try dsimp only at hSw); go_simp; (try with_reducible rfl))
          try simp only [Act.put, List.setIfInBounds_toArray, List.set_cons_zero, List.set_cons_succ, List.getElem_toArray, List.getElem_cons_zero, List.getElem_cons_succ]
          refine wpN_take (i := 5) (v := ?v8) rfl (by kernel_rfl) (fun _ _ _ h => h) hS (Or.inl ⟨by rfl, ?hy8⟩) ?hr8
          case hy8 => (intro wS hSw; (try dsimp only at hSw); go_simp; (try with_reducible rfl))
          try simp only [Act.put, List.setIfInBounds_toArray, List.set_cons_zero, List.set_cons_succ, List.getElem_toArray, List.getElem_cons_zero, List.getElem_cons_succ]
          refine wpN_take (i := 6) (v := ?v9) rfl (by kernel_rfl) (fun _ _ _ h => h) hS (Or.inl ⟨by rfl, ?hy9⟩) ?hr9
          case hy9 => (intro wS hSw; (try dsimp only at hSw); go_simp; (try with_reducible rfl))
          try simp only [Act.put, List.setIfInBounds_toArray, List.set_cons_zero, List.set_cons_succ, List.getElem_toArray, List.getElem_cons_zero, List.getElem_cons_succ]
          refine wpN_take (i := 7) (v := ?v10) rfl (by kernel_rfl) (fun _ _ _ h => h) hS (Or.inl ⟨by rfl, ?hy10⟩) ?hr10
          case hy10 => (intro wS hSw; (try dsimp only at hSw); go_simp; (try with_reducible rfl))
          try simp only [Act.put, List.setIfInBounds_toArray, List.set_cons_zero, List.set_cons_succ, List.getElem_toArray, List.getElem_cons_zero, List.getElem_cons_succ]
          refine wpN_step (i := 8) (by kernel_rfl) rfl (fun K hK => ?_)
          go_simp
          try rw [hq1]
          try rw [hq2]
          refine (Hih.out j hlt 0 ((args.length : Int) - 1 - j) _ ((Keep.refl _ _).below hba).drew).mono ?_
          rw [HE.out]
          rintro e w5 ⟨b', k', i', a', rfl, hr1, hb1⟩
          have hK1 : Keep (fun q => v.ownBlock ≠ some q) wa w5 := ((Keep.refl _ _).drew).below hb1
          have hS : (w5).cell? ⟨p, 3, none⟩ = some v ∧ (w5).cell? ⟨qn, 0, none⟩ = some (.slice (A j) (N j) (C j)) ∧ (w5).cell? ⟨qn, 1, none⟩ = some (.int .i64 (B j)) := ⟨(Blk.below (w := wa.drew) houta hb1).cell rfl, (Blk.below (w := wa.drew) xa hb1).cell rfl, (Blk.below (w := wa.drew) xa hb1).cell rfl⟩
          refine hK.out _ _ (fun _ => hS) ?_
          clear hK K
          try simp only [Act.put, List.setIfInBounds_toArray, List.set_cons_zero, List.set_cons_succ, List.getElem_toArray, List.getElem_cons_zero, List.getElem_cons_succ]
          refine wpN_step (i := 9) (by kernel_rfl) rfl (fun K hK => ?_)
          go_simp
          have hS : (w5.alloc (.cells #[b', k', i', a'] 37)).cell? ⟨p, 3, none⟩ = some v ∧ (w5.alloc (.cells #[b', k', i', a'] 37)).cell? ⟨qn, 0, none⟩ = some (.slice (A j) (N j) (C j)) ∧ (w5.alloc (.cells #[b', k', i', a'] 37)).cell? ⟨qn, 1, none⟩ = some (.int .i64 (B j)) := ⟨((Blk.below (w := wa.drew) houta hb1).alloc _).cell rfl, ((Blk.below (w := wa.drew) xa hb1).alloc _).cell rfl, ((Blk.below (w := wa.drew) xa hb1).alloc _).cell rfl⟩
          refine hK.out _ _ (fun _ => hS) ?_
          clear hK K
          try simp only [Act.put, List.setIfInBounds_toArray, List.set_cons_zero, List.set_cons_succ, List.getElem_toArray, List.getElem_cons_zero, List.getElem_cons_succ]
          refine wpN_step (i := 10) (by kernel_rfl) rfl (fun K hK => ?_)
          refine step_push rpTm (by decide) (by rfl) _ _ _ (by rfl) N2 37 i2 _ 64 Try.underlying35 hi0 hz0 hz1 hz2 rfl (by decide)
                 (fun q => N2 ≤ q) v ((Ty.etas args).take j) (by rfl) (((Hacca.out.drew).below hb1).alloc _) (by rw [Hl.out]; omega)
                 w5.heap.size _ [b', k', i', a'] (Ty.eta args[j] 0 ((args.length : Int) - 1 - j)) (by rfl) (heap_alloc_new _ _) ⟨_, _, _, _, rfl, (hr1.weaken (fun q _ hq => ⟨Nat.le_trans (show N2 ≤ wa.drew.heap.size from hsNa) hq, fun e => by have := (Hacca.out.base_le q e).2; exact absurd this (Nat.not_lt.2 hq)⟩)).keep ((Keep.refl _ _).alloc _)⟩ (by have := hb1.size; simp at this ⊢; omega) ?_
          intro gg cap w6 hacc2 hgrow hat hlt2
          have hK2 : Keep (fun q => v.ownBlock ≠ some q) wa w6 := (hK1.alloc _).grown hgrow (fun _ hr hf => hf hr)
          have o2 := houta.push hb1 hgrow (Hne.out _ (by omega))
          have o1 := hresa.push hb1 hgrow (Hne.out _ (by omega))
          have oq := xa.push hb1 hgrow hown.out
          have bi6 := Lib.hid ((hbia.out.weaken (F' := fun q => (w.heap.size + 3 ≤ q ∧ q ≠ p ∧ q < N2) ∧ v.ownBlock ≠ some q) (by decide) fun q _ h => ⟨h, Hne.out q h.2.2⟩).keep (hK2.weaken fun q h => h.2))
          have B6 := below_push hba (by have := hba.size; omega) hb1 hgrow (fun q hq => by have := (Hacca.out.base_le q hq).1; omega)
          have hS : (w6).cell? ⟨p, 3, none⟩ = some v ∧ (w6).cell? ⟨qn, 0, none⟩ = some (.slice (A j) (N j) (C j)) ∧ (w6).cell? ⟨qn, 1, none⟩ = some (.int .i64 (B j)) := ⟨o2.cell (i := 3) rfl, oq.cell rfl, oq.cell rfl⟩
          have p2 := o2.free 3
          have Hacc2 := Lib.hid hacc2; clear hacc2
          refine hK.out _ _ (fun _ => hS) ?_
          clear hK K
          try simp only [Act.put, List.setIfInBounds_toArray, List.set_cons_zero, List.set_cons_succ, List.getElem_toArray, List.getElem_cons_zero, List.getElem_cons_succ]
          refine wpN_take (i := 11) (v := ?v11) rfl (by kernel_rfl) (fun _ _ _ h => h) hS (Or.inl ⟨by rfl, ?hy11⟩) ?hr11
          case hy11 => (intro wS hSw; (try dsimp only at hSw); go_simp; (try with_reducible rfl))
          try simp only [Act.put, List.setIfInBounds_toArray, List.set_cons_zero, List.set_cons_succ, List.getElem_toArray, List.getElem_cons_zero, List.getElem_cons_succ]
          refine wpN_step (i := 12) (by kernel_rfl) rfl (fun K hK => ?_)
          go_simp
          refine hK.out _ _ (fun h => absurd h (by decide)) ?_
          clear hK K
          try simp only [Act.put, List.setIfInBounds_toArray, List.set_cons_zero, List.set_cons_succ, List.getElem_toArray, List.getElem_cons_zero, List.getElem_cons_succ]
          refine wpN_done (by kernel_rfl) ?_
          refine NoPanic.normal ?_
          have hs6 : N2 ≤ w6.heap.size := by have := hgrow.size; have := hb1.size; simp at *; omega
          go_wp2_with fail
          refine ⟨⟨j + 1, _, by go_num, by omega, by simpa using hs6, B6.setCell (by simp <;> omega) _, o1.far _ _ (by simp <;> omega), o2.set 3 _, ?_, ?_⟩, by simp [intOf]; omega⟩
          · exact ((bi6.out.weaken (F' := fun q => w.heap.size + 3 ≤ q ∧ q ≠ p ∧ q < N2) (by decide) fun q _ h => h.1).keep ((Keep.refl _ _).setCell _ _ (by simp)))
          · have h := Hacc2.out
            rw [Hl.out, ← Htk.out] at h
            rw [show min j (Ty.etas args).length = j from by rw [Ty.etas_len]; omega]
            exact h.setCell ⟨p, 3, none⟩ _ (by simp <;> omega) (by simp <;> omega)
        · obtain ⟨va, vc, hv⟩ := Hacc.out.len_shape
          rw [List.length_take, Ty.etas_len, Nat.min_eq_left hj] at hv
          subst hv
          have d1 : wr.cell? ⟨p, 0, none⟩ = some (.slice qa2 args.length qc2) := hout.cell rfl
          have d2 : wr.cell? ⟨p, 1, none⟩ = some (.int .i64 0) := hout.cell rfl
          have d3 : wr.cell? ⟨p, 2, none⟩ = some (.int .i64 (i + (args.length : Nat))) := hout.cell rfl
          have d4 : wr.cell? ⟨p, 3, none⟩ = some (.slice va j vc) := hout.cell rfl
          have r0 : wr.cell? ⟨w.heap.size + 1 + 1, 0, none⟩ = some (.slice none 0 0) := hres.cell rfl
          have r1 : wr.cell? ⟨w.heap.size + 1 + 1, 1, none⟩ = some (.int .i64 0) := hres.cell rfl
          have r2 : wr.cell? ⟨w.heap.size + 1 + 1, 2, none⟩ = some (.int .i64 0) := hres.cell rfl
          have r3 : wr.cell? ⟨w.heap.size + 1 + 1, 3, none⟩ = some (.slice none 0 0) := hres.cell rfl
          have f0 := hres.free 0
          have f1 := hres.free 1
          have f2 := hres.free 2
          have f3 := hres.free 3
          go_wp2_with fail
          refine bodyPost_ret (v := .agg #[.slice qa2 args.length qc2, .int .i64 0, .int .i64 (i + (args.length : Nat)), .slice va j vc]) (by simp [results, Try.results17, go_sem, r0, r1, r2, r3]) rfl ?_
          refine ⟨_, _, _, _, rfl, ?_, (((hb.setCell (by simp <;> omega) _).setCell (by simp <;> omega) _).setCell (by simp <;> omega) _).setCell (by simp <;> omega) _⟩
          have h := Hacc.out
          rw [List.take_of_length_le (by rw [Ty.etas_len]; omega)] at h
          have hA := (((h.setCell ⟨w.heap.size + 1 + 1, 0, none⟩ (.slice qa2 args.length qc2) (by simp <;> omega) (by simp <;> omega)).setCell ⟨w.heap.size + 1 + 1, 1, none⟩ (.int .i64 0) (by simp <;> omega) (by simp <;> omega)).setCell ⟨w.heap.size + 1 + 1, 2, none⟩ (.int .i64 (i + (args.length : Nat))) (by simp <;> omega) (by simp <;> omega)).setCell ⟨w.heap.size + 1 + 1, 3, none⟩ (.slice va j vc) (by simp <;> omega) (by simp <;> omega)
          have KR := (((((Keep.refl (fun q => w.heap.size + 3 ≤ q ∧ q ≠ p ∧ q < N2) wr).setCell ⟨w.heap.size + 1 + 1, 0, none⟩ (.slice qa2 args.length qc2) (by simp <;> omega)).setCell ⟨w.heap.size + 1 + 1, 1, none⟩ (.int .i64 0) (by simp <;> omega)).setCell ⟨w.heap.size + 1 + 1, 2, none⟩ (.int .i64 (i + (args.length : Nat))) (by simp <;> omega)).setCell ⟨w.heap.size + 1 + 1, 3, none⟩ (.slice va j vc) (by simp <;> omega))
          rw [← Htm.out]
          exact isTm_mk ((hbi.out.keep KR).weaken (by decide) fun q _ h => by omega) (hA.sl (F' := fun q => w.heap.size ≤ q) (fun q _ hq => by omega) (fun q hq => by omega)) 0 (i + (args.length : Nat))
  · have hk0 : (k == 0) = false := by simpa using hk
    have Htm : Hid (Tm.mk args k i (Ty.etas args) = tm) := by show _ = _; rw [← htm, Ty.Eta, if_neg (fun h => hk h.1), Ty.eta_eq, if_neg hk]
    go_enter Try.func17, Try.ntmps17
    go_wp2_with fail
    obtain ⟨w3, hw3⟩ : ∃ w3, ((w.alloc (.cells #[.int .i64 k, .int .i64 i] 34)).alloc (.cells #[.slice a args.length c, .int .i64 b] 40)).alloc (.cells #[.slice none 0 0, .int .i64 0, .int .i64 0, .slice none 0 0] 37) = w3 := ⟨_, rfl⟩
    have B3 : Below w.heap.size w w3 := by rw [← hw3]; exact (((Below.refl _ _).alloc (Nat.le_refl _) _).alloc (by simp) _).alloc (by simp; omega) _
    have x0 : Blk w3 w.heap.size #[.int .i64 k, .int .i64 i] 34 := by rw [← hw3]; exact ((Blk.new _ _ _ rfl).alloc _).alloc _
    have x1 : Blk w3 (w.heap.size + 1) #[.slice a args.length c, .int .i64 b] 40 := by rw [← hw3]; exact (Blk.new _ _ _ (by simp)).alloc _
    have x2 : Blk w3 (w.heap.size + 1 + 1) #[.slice none 0 0, .int .i64 0, .int .i64 0, .slice none 0 0] 37 := by rw [← hw3]; exact Blk.new _ _ _ (by simp)
    have hsz1 : w3.heap.size = w.heap.size + 3 := by rw [← hw3]; simp
    try rw [hw3]
    clear hw3
    refine wp_region_noPanic (wp_region_need (S := fun w' => w'.cell? ⟨w.heap.size, 0, none⟩ = some (.int .i64 k) ∧ w'.cell? ⟨w.heap.size, 1, none⟩ = some (.int .i64 i) ∧ w'.cell? ⟨w.heap.size + 1, 0, none⟩ = some (.slice a args.length c) ∧ w'.cell? ⟨w.heap.size + 1, 1, none⟩ = some (.int .i64 b)) (by kernel_rfl) ?_)
    have hS : (w3.drew).cell? ⟨w.heap.size, 0, none⟩ = some (.int .i64 k) ∧ (w3.drew).cell? ⟨w.heap.size, 1, none⟩ = some (.int .i64 i) ∧ (w3.drew).cell? ⟨w.heap.size + 1, 0, none⟩ = some (.slice a args.length c) ∧ (w3.drew).cell? ⟨w.heap.size + 1, 1, none⟩ = some (.int .i64 b) := ⟨x0.drew.cell rfl, x0.drew.cell rfl, x1.drew.cell rfl, x1.drew.cell rfl⟩
    refine wpN_take (i := 0) (v := ?v12) rfl (by kernel_rfl) (fun _ _ _ h => h) hS (Or.inl ⟨by rfl, ?hy12⟩) ?hr12
    case hy12 => (intro wS hSw; (try dsimp only at hSw); go_simp; (try with_reducible rfl))
    try simp only [Act.put, List.setIfInBounds_toArray, List.set_cons_zero, List.set_cons_succ, List.getElem_toArray, List.getElem_cons_zero, List.getElem_cons_succ]
    refine wpN_take (i := 3) (v := ?v13) rfl (by kernel_rfl) (fun _ _ _ h => h) hS (Or.inl ⟨by rfl, ?hy13⟩) ?hr13
    case hy13 => (intro wS hSw; (try dsimp only at hSw); go_simp; (try with_reducible rfl))
    try simp only [Act.put, List.setIfInBounds_toArray, List.set_cons_zero, List.set_cons_succ, List.getElem_toArray, List.getElem_cons_zero, List.getElem_cons_succ]
    refine wpN_gathersP [(1, 27), (2, 28), (4, 30), (5, 6)] 1 (fun j v x y w' => match j with
      | 1 => ∃ qa qc, v = .agg #[.slice qa args.length qc, .int .i64 b] ∧ IsSl rpTy (fun q => x ≤ q ∧ q < y) w' (.slice qa args.length qc) args
      | 2 => True
      | 4 => True
      | _ => v = .pointer (some ⟨x, 0, none⟩) ∧ x < y ∧ Blk w' x #[.slice none 0 0, .int .i64 0, .int .i64 0, .slice none 0 0] 37) (fun j u => match j with
      | 2 => ∃ qa qc, u 1 = .agg #[.slice qa args.length qc, .int .i64 b] ∧ u 2 = .slice qa args.length qc
      | 4 => ∃ qa qc, u 2 = .slice qa args.length qc ∧ u 4 = .agg #[.slice qa args.length qc, .int .i64 k, .int .i64 i, .slice none 0 0]
      | _ => True) rfl rfl (by kernel_rfl) ?gst ?gst' hS ?gop ?gend
    case gst =>
      intro j v x y wa wb h hb
      split at h
      · obtain ⟨a, c, e, ht⟩ := h
        exact ⟨a, c, e, ht.keep ((Keep.refl _ _).below hb)⟩
      · trivial
      · trivial
      · exact ⟨h.1, h.2.1, h.2.2.below hb⟩
    case gst' =>
      intro j hj u u' hu h
      simp only [List.map_cons, List.map_nil, List.mem_cons, List.not_mem_nil, or_false] at hj
      rcases hj with rfl | rfl | rfl | rfl
      · trivial
      · obtain ⟨qa, qc, e1, e2⟩ := h
        exact ⟨qa, qc, (hu 1 (.inr (by kernel_rfl))).trans e1, (hu 2 (.inl rfl)).trans e2⟩
      · obtain ⟨qa, qc, e1, e2⟩ := h
        exact ⟨qa, qc, (hu 2 (.inr (by kernel_rfl))).trans e1, (hu 4 (.inl rfl)).trans e2⟩
      · trivial
    case gop =>
      intro x hx u w' hdep hB' hS'
      obtain ⟨q1, q2, q3, q4⟩ := hS'
      have hbw : Below w3.heap.size w3 w' := (Below.refl _ _).drew.trans hB'
      simp only [List.mem_cons, List.not_mem_nil, or_false] at hx
      rcases hx with rfl | rfl | rfl | rfl
      · refine wpOp_step (i := 1) rfl (fun K hK => ?_)
        have hK := Lib.hid hK
        simp only [fills, List.foldl, Act.put, List.setIfInBounds_toArray, List.set_cons_zero, List.set_cons_succ, List.getElem_toArray, List.getElem_cons_zero, List.getElem_cons_succ]
        go_simp
        refine (Harr.out w' (B3.trans (hbw.mono B3.size))).mono ?_
        rintro e w6 ⟨s', b', rfl, hT, hb6⟩
        obtain ⟨qa, qc, rfl, rfl⟩ := hT.shape
        have hSl := hT.inv.2
        simp only [List.nil_append, args_mk', base_mk'] at hSl ⊢
        have hKp : Keep (fun _ => True) w' w6 := (Keep.refl _ _).below hb6
        exact hK.out _ _ ⟨_, rfl, ⟨_, _, rfl, hSl.weaken (by decide) fun q h1 h2 => ⟨h2, h1⟩⟩, trivial, hb6, hKp _ _ _ trivial q1, hKp _ _ _ trivial q2, hKp _ _ _ trivial q3, hKp _ _ _ trivial q4⟩
      · obtain ⟨_, _, _, qa, qc, e1, _⟩ := hdep 1 (by simp) (by kernel_rfl)
        refine wpOp_step (i := 2) rfl (fun K hK => ?_)
        have hK := Lib.hid hK
        simp only [fills, List.foldl, Act.put, List.setIfInBounds_toArray, List.set_cons_zero, List.set_cons_succ, List.getElem_toArray, List.getElem_cons_zero, List.getElem_cons_succ]
        rw [e1]
        go_simp
        exact hK.out _ _ ⟨.slice qa args.length qc, by simp only [fills, List.foldl, Act.put, List.setIfInBounds_toArray, List.set_cons_zero, List.set_cons_succ, List.getElem_toArray, List.getElem_cons_zero, List.getElem_cons_succ]; simp [upd, e1], trivial, ⟨qa, qc, e1, rfl⟩, Below.refl _ _, q1, q2, q3, q4⟩
      · obtain ⟨⟨qa, qc, e0, e1⟩, _⟩ := hdep 2 (by simp) (by kernel_rfl)
        refine wpOp_step (i := 4) rfl (fun K hK => ?_)
        have hK := Lib.hid hK
        simp only [fills, List.foldl, Act.put, List.setIfInBounds_toArray, List.set_cons_zero, List.set_cons_succ, List.getElem_toArray, List.getElem_cons_zero, List.getElem_cons_succ]
        rw [e1]
        go_simp
        exact hK.out _ _ ⟨.agg #[.slice qa args.length qc, .int .i64 k, .int .i64 i, .slice none 0 0], by simp only [fills, List.foldl, Act.put, List.setIfInBounds_toArray, List.set_cons_zero, List.set_cons_succ, List.getElem_toArray, List.getElem_cons_zero, List.getElem_cons_succ]; simp [upd, e1, e0], trivial, ⟨qa, qc, e1, rfl⟩, Below.refl _ _, q1, q2, q3, q4⟩
      · refine wpOp_step (i := 5) rfl (fun K hK => ?_)
        have hK := Lib.hid hK
        simp only [fills, List.foldl, Act.put, List.setIfInBounds_toArray, List.set_cons_zero, List.set_cons_succ, List.getElem_toArray, List.getElem_cons_zero, List.getElem_cons_succ]
        go_simp
        have hb6 : Below w'.heap.size w' (w'.alloc (.cells #[.slice none 0 0, .int .i64 0, .int .i64 0, .slice none 0 0] 37)) := (Below.refl _ _).alloc (Nat.le_refl _) _
        have hKp : Keep (fun _ => True) w' (w'.alloc (.cells #[.slice none 0 0, .int .i64 0, .int .i64 0, .slice none 0 0] 37)) := (Keep.refl _ _).below hb6
        exact hK.out _ _ ⟨_, rfl, ⟨rfl, by simp, Blk.new _ _ _ rfl⟩, trivial, hb6, hKp _ _ _ trivial q1, hKp _ _ _ trivial q2, hKp _ _ _ trivial q3, hKp _ _ _ trivial q4⟩
    case gend =>
      intro u lo hi w' hΦ hΨ hB' hS'
      have hbw : Below w3.heap.size w3 w' := (Below.refl _ _).drew.trans hB'
      obtain ⟨⟨qa, qc, e1, V1⟩, n1, m1, o1⟩ := hΦ.1 1 (by simp) rfl
      obtain ⟨⟨e2, r2, Z2⟩, n2, m2, o2⟩ := hΦ.1 5 (by simp) rfl
      obtain ⟨qa', qc', e3, e4⟩ := hΨ 2 (by simp)
      obtain ⟨qa2, qc2, e5, e6⟩ := hΨ 4 (by simp)
      obtain ⟨rfl, rfl⟩ : qa' = qa ∧ qc' = qc := by rw [e1] at e3; cases e3; exact ⟨rfl, rfl⟩
      obtain ⟨rfl, rfl⟩ : qa2 = qa' ∧ qc2 = qc' := by rw [e4] at e5; cases e5; exact ⟨rfl, rfl⟩
      clear e3 e5
      have k12 := hΦ.2 1 (by simp) 5 (by simp) rfl rfl (by decide)
      clear hΦ hΨ
      simp only [fills, List.foldl, Act.put, List.setIfInBounds_toArray, List.set_cons_zero, List.set_cons_succ, List.getElem_toArray, List.getElem_cons_zero, List.getElem_cons_succ]
      rw [e1, e2, e4, e6]
      clear e1 e2 e4 e6
      have hsz : w3.drew.heap.size = w3.heap.size := rfl
      rw [hsz, hsz1] at n1 n2
      generalize lo 5 = p at *
      have U1 := Lib.hid (V1.weaken (F' := fun q => w.heap.size + 3 ≤ q ∧ q ≠ p) (by decide) fun q _ h => ⟨by omega, by omega⟩)
      clear V1 k12 n1 m1 o1 m2 r2 o2 hsz
      have B2 := B3.trans (hbw.mono B3.size)
      have y0 := x0.below hbw
      have y1 := x1.below hbw
      have y2 := x2.below hbw
      have r0 : w'.cell? ⟨p, 0, none⟩ = some (.slice none 0 0) := Z2.cell rfl
      have r1 : w'.cell? ⟨p, 1, none⟩ = some (.int .i64 0) := Z2.cell rfl
      have r2 : w'.cell? ⟨p, 2, none⟩ = some (.int .i64 0) := Z2.cell rfl
      have r3 : w'.cell? ⟨p, 3, none⟩ = some (.slice none 0 0) := Z2.cell rfl
      have f0 := Z2.free 0
      have f1 := Z2.free 1
      have f2 := Z2.free 2
      have f3 := Z2.free 3
      refine wpN_step (i := 6) (by kernel_rfl) rfl (fun K hK => ?_)
      go_simp
      refine hK.out _ _ (fun h => absurd h (by decide)) ?_
      clear hK K
      try simp only [Act.put, List.setIfInBounds_toArray, List.set_cons_zero, List.set_cons_succ, List.getElem_toArray, List.getElem_cons_zero, List.getElem_cons_succ]
      refine wpN_done (by kernel_rfl) ?_
      refine NoPanic.normal ?_
      obtain ⟨w2, hw2⟩ : ∃ w2, ((((w'.setCell ⟨p, 0, none⟩ (.slice qa2 args.length qc2)).setCell ⟨p, 1, none⟩ (.int .i64 k)).setCell ⟨p, 2, none⟩ (.int .i64 i)).setCell ⟨p, 3, none⟩ (.slice none 0 0)) = w2 := ⟨_, rfl⟩
      have hlp := Z2.lt
      have B5 : Below w.heap.size w w2 := by rw [← hw2]; exact ((((B2.setCell (by simp; omega) _).setCell (by simp; omega) _).setCell (by simp; omega) _).setCell (by simp; omega) _)
      have z0 : Blk w2 w.heap.size #[.int .i64 k, .int .i64 i] 34 := by rw [← hw2]; exact ((((y0.far _ _ (by simp; omega)).far _ _ (by simp; omega)).far _ _ (by simp; omega)).far _ _ (by simp; omega))
      have z1 : Blk w2 (w.heap.size + 1) #[.slice a args.length c, .int .i64 b] 40 := by rw [← hw2]; exact ((((y1.far _ _ (by simp; omega)).far _ _ (by simp; omega)).far _ _ (by simp; omega)).far _ _ (by simp; omega))
      have z2 : Blk w2 (w.heap.size + 1 + 1) #[.slice none 0 0, .int .i64 0, .int .i64 0, .slice none 0 0] 37 := by rw [← hw2]; exact ((((y2.far _ _ (by simp; omega)).far _ _ (by simp; omega)).far _ _ (by simp; omega)).far _ _ (by simp; omega))
      have zp : Blk w2 p #[.slice qa2 args.length qc2, .int .i64 k, .int .i64 i, .slice none 0 0] 37 := by rw [← hw2]; exact ((((Z2.set 0 _).set 1 _).set 2 _).set 3 _)
      have KU : Keep (fun q => w.heap.size + 3 ≤ q ∧ q ≠ p) w' w2 := by rw [← hw2]; exact ((((Keep.refl _ _).setCell _ _ (by simp)).setCell _ _ (by simp)).setCell _ _ (by simp)).setCell _ _ (by simp)
      have U2 := Lib.hid (U1.out.keep KU)
      rw [hw2]
      clear hw2 KU U1 y0 y1 y2 Z2 r0 r1 r2 r3 f0 f1 f2 f3 B2 hbw hB' hS' hS x0 x1 x2 B3 hlp
      have hlp2 := zp.lt
      obtain ⟨N2, hN2⟩ : ∃ n, w2.heap.size = n := ⟨_, rfl⟩
      have HN2 := Lib.hid hN2; clear hN2
      have hpN : p < N2 := by have := HN2.out; omega
      have c00 : w2.cell? ⟨w.heap.size, 0, none⟩ = some (.int .i64 k) := z0.cell rfl
      have c10 : w2.cell? ⟨w.heap.size + 1, 0, none⟩ = some (.slice a args.length c) := z1.cell rfl
      have cp2 : w2.cell? ⟨p, 2, none⟩ = some (.int .i64 i) := zp.cell rfl
      have fp2 := zp.free 2
      go_wp2_with fail
      obtain ⟨w7, hw7⟩ : ∃ w7, w2 = w7 := ⟨_, rfl⟩
      have hs7 : w7.heap.size = w2.heap.size := by rw [hw7]
      rw [hw7] at B5 z2 zp U2 ⊢
      have B7 := B5
      have s2 := z2
      have sp := zp
      have U4 := U2
      clear hw7
      clear B5 z0 z1 z2 zp U2 c00 c10 cp2 fp2 hlp2
      have U3 := Lib.hid (U4.out.weaken (F' := fun q => w.heap.size + 3 ≤ q ∧ q ≠ p ∧ q < N2) (by decide) fun q h1 h2 => ⟨h2.1, h2.2, by have := HN2.out; omega⟩)
      clear U4
      have hsz2 : N2 ≤ w7.heap.size := by have := HN2.out; omega
      clear hs7
      have hacc0 : Acc rpTm 37 N2 (fun q => N2 ≤ q) w7 (.slice none 0 0) [] := Acc.nil _ _ _ _ _
      go_loopw [44] (fun ii wr => ∃ (j : Nat) (v : Value), ii = .int .i64 j ∧ j ≤ args.length ∧ N2 ≤ wr.heap.size ∧
          Below w.heap.size w wr ∧ Blk wr (w.heap.size + 1 + 1) #[.slice none 0 0, .int .i64 0, .int .i64 0, .slice none 0 0] 37 ∧ Blk wr p #[.slice qa2 args.length qc2, .int .i64 k, .int .i64 i, v] 37 ∧
          Hid (IsSl rpTy (fun q => w.heap.size + 3 ≤ q ∧ q ≠ p ∧ q < N2) wr (.slice qa2 args.length qc2) args) ∧
          Acc rpTm 37 N2 (fun q => N2 ≤ q) wr v ((Ty.etas args).take j)) (fun ii _ => args.length - (intOf ii).toNat)
      case atStart => exact ⟨0, _, rfl, by omega, hsz2, B7, s2, sp, U3.out, hacc0⟩
      case round =>
        clear B7 s2 sp U3 hacc0 hsz2
        obtain ⟨j, v, rfl, hj, hsN, hb, hres, hout, hbi, hacc⟩ := hrel
        have hszp := hout.lt
        have hszb := hres.lt
        have Hacc := Lib.hid hacc; clear hacc
        by_cases hlt : j < args.length
        · obtain ⟨rfl, hF⟩ := ha (by omega)
          clear ha
          have hkp : Keep (fun q => F q ∧ q < w.heap.size) w wr := (Keep.refl _ _).below hb
          have e1 := hkp _ _ _ hF (h1 j hlt)
          have e2 := hkp _ _ _ hF (h2 j hlt)
          have hlt0 : (0 : Int) ≤ (j : Int) := Int.natCast_nonneg _
          have hlt1 : (j : Int) < (args.length : Int) := by omega
          have hlen2 : (args.length : Int) ≤ 1000 := by omega
          have Hl : Hid (((Ty.etas args).take j).length = j) := by show _ = _; rw [List.length_take, Ty.etas_len]; omega
          have Hne : Hid (∀ q, q < N2 → v.ownBlock ≠ some q) := fun q hq e => by have := (Hacc.out.base_le q e).1; omega
          have Htk := Lib.hid (Ty.etas_take args j hlt)
          have hq1 : IntKind.i64.wrap ((args.length : Int) - 1) = (args.length : Int) - 1 := IntWalk.i64_in _ (by omega)
          have hq2 : IntKind.i64.wrap ((args.length : Int) - 1 - (j : Int)) = (args.length : Int) - 1 - (j : Int) := IntWalk.i64_in _ (by omega)
          have HE : Hid (Ty.Eta args[j] 0 ((args.length : Int) - 1 - j) = Ty.eta args[j] 0 ((args.length : Int) - 1 - j)) := by
            show _ = _
            unfold Ty.Eta
            rw [if_neg (by intro h; omega)]
          have hblw : bl < wr.heap.size := by have := hF.2; have := hb.size; omega
          go_wp2_with fail
          obtain ⟨wa, hwa⟩ : ∃ wa, wr.alloc (.cells #[.slice (A j) (N j) (C j), .int .i64 (B j)] 40) = wa := ⟨_, rfl⟩
          obtain ⟨qn, hqn⟩ : ∃ qn, wr.heap.size = qn := ⟨_, rfl⟩
          have ba : Below wr.heap.size wr wa := by rw [← hwa]; exact (Below.refl _ _).alloc (Nat.le_refl _) _
          have xa : Blk wa qn #[.slice (A j) (N j) (C j), .int .i64 (B j)] 40 := by rw [← hwa]; exact Blk.new _ _ _ hqn.symm
          have hba := hb.trans (ba.mono hb.size)
          have hresa := hres.below ba
          have houta := hout.below ba
          have Hacca := Lib.hid (Hacc.out.below ba)
          have hbia := Lib.hid (hbi.out.keep ((Keep.refl _ _).below ba))
          have hown : Hid (v.ownBlock ≠ some qn) := fun e => by have := (Hacc.out.base_le qn e).2; omega
          have hsNa : N2 ≤ wa.heap.size := Nat.le_trans hsN ba.size
          have hqN : N2 ≤ qn := by omega
          try rw [hwa]
          try rw [hqn]
          clear hwa hqn ba hb hres hout Hacc hbi hsN hszp hszb hblw e1 e2
          have hszp := houta.lt
          have hszb := hresa.lt
          refine wp_region_noPanic (wp_region_need (S := fun w' => w'.cell? ⟨p, 3, none⟩ = some v ∧ w'.cell? ⟨qn, 0, none⟩ = some (.slice (A j) (N j) (C j)) ∧ w'.cell? ⟨qn, 1, none⟩ = some (.int .i64 (B j))) (by kernel_rfl) ?_)
          have hS : (wa.drew).cell? ⟨p, 3, none⟩ = some v ∧ (wa.drew).cell? ⟨qn, 0, none⟩ = some (.slice (A j) (N j) (C j)) ∧ (wa.drew).cell? ⟨qn, 1, none⟩ = some (.int .i64 (B j)) := ⟨houta.drew.cell rfl, xa.drew.cell rfl, xa.drew.cell rfl⟩
          refine wpN_take (i := 0) (v := ?v14) rfl (by kernel_rfl) (fun _ _ _ h => h) hS (Or.inl ⟨by rfl, ?hy14⟩) ?hr14
          case hy14 => (intro wS hSw; (try dsimp only at hSw); go_simp; (try with_reducible rfl))
          try simp only [Act.put, List.setIfInBounds_toArray, List.set_cons_zero, List.set_cons_succ, List.getElem_toArray, List.getElem_cons_zero, List.getElem_cons_succ]
          refine wpN_take (i := 1) (v := ?v15) rfl (by kernel_rfl) (fun _ _ _ h => h) hS (Or.inl ⟨by rfl, ?hy15⟩) ?hr15
          case hy15 => (intro wS hSw; (try dsimp only at hSw); go_simp; (try with_reducible rfl))
          try simp only [Act.put, List.setIfInBounds_toArray, List.set_cons_zero, List.set_cons_succ, List.getElem_toArray, List.getElem_cons_zero, List.getElem_cons_succ]
          refine wpN_take (i := 2) (v := ?v16) rfl (by kernel_rfl) (fun _ _ _ h => h) hS (Or.inl ⟨by rfl, ?hy16⟩) ?hr16
          case hy16 => (intro wS hSw; (try dsimp only at hSw); go_simp; (try with_reducible rfl))
          try simp only [Act.put, List.setIfInBounds_toArray, List.set_cons_zero, List.set_cons_succ, List.getElem_toArray, List.getElem_cons_zero, List.getElem_cons_succ]
          refine wpN_take (i := 3) (v := ?v17) rfl (by kernel_rfl) (fun _ _ _ h => h) hS (Or.inl ⟨by rfl, ?hy17⟩) ?hr17
          case hy17 => (intro wS hSw; (try dsimp only at hSw); go_simp; (try with_reducible rfl))
          try simp only [Act.put, List.setIfInBounds_toArray, List.set_cons_zero, List.set_cons_succ, List.getElem_toArray, List.getElem_cons_zero, List.getElem_cons_succ]
          refine wpN_take (i := 4) (v := ?v18) rfl (by kernel_rfl) (fun _ _ _ h => h) hS (Or.inl ⟨by rfl, ?hy18⟩) ?hr18
          case hy18 => (intro wS hSw; (try dsimp only at hSw); go_simp; (try with_reducible rfl))
          try simp only [Act.put, List.setIfInBounds_toArray, List.set_cons_zero, List.set_cons_succ, List.getElem_toArray, List.getElem_cons_zero, List.getElem_cons_succ]
          refine wpN_take (i := 5) (v := ?v19) rfl (by kernel_rfl) (fun _ _ _ h => h) hS (Or.inl ⟨by rfl, ?hy19⟩) ?hr19
          case hy19 => (intro wS hSw; (try dsimp only at hSw); go_simp; (try with_reducible rfl))
          try simp only [Act.put, List.setIfInBounds_toArray, List.set_cons_zero, List.set_cons_succ, List.getElem_toArray, List.getElem_cons_zero, List.getElem_cons_succ]
          refine wpN_take (i := 6) (v := ?v20) rfl (by kernel_rfl) (fun _ _ _ h => h) hS (Or.inl ⟨by rfl, ?hy20⟩) ?hr20
          case hy20 => (intro wS hSw; (try dsimp only at hSw); go_simp; (try with_reducible rfl))
          try simp only [Act.put, List.setIfInBounds_toArray, List.set_cons_zero, List.set_cons_succ, List.getElem_toArray, List.getElem_cons_zero, List.getElem_cons_succ]
          refine wpN_take (i := 7) (v := ?v21) rfl (by kernel_rfl) (fun _ _ _ h => h) hS (Or.inl ⟨by rfl, ?hy21⟩) ?hr21
          case hy21 => (intro wS hSw; (try dsimp only at hSw); go_simp; (try with_reducible rfl))
          try simp only [Act.put, List.setIfInBounds_toArray, List.set_cons_zero, List.set_cons_succ, List.getElem_toArray, List.getElem_cons_zero, List.getElem_cons_succ]
          refine wpN_step (i := 8) (by kernel_rfl) rfl (fun K hK => ?_)
          go_simp
          try rw [hq1]
          try rw [hq2]
          refine (Hih.out j hlt 0 ((args.length : Int) - 1 - j) _ ((Keep.refl _ _).below hba).drew).mono ?_
          rw [HE.out]
          rintro e w5 ⟨b', k', i', a', rfl, hr1, hb1⟩
          have hK1 : Keep (fun q => v.ownBlock ≠ some q) wa w5 := ((Keep.refl _ _).drew).below hb1
          have hS : (w5).cell? ⟨p, 3, none⟩ = some v ∧ (w5).cell? ⟨qn, 0, none⟩ = some (.slice (A j) (N j) (C j)) ∧ (w5).cell? ⟨qn, 1, none⟩ = some (.int .i64 (B j)) := ⟨(Blk.below (w := wa.drew) houta hb1).cell rfl, (Blk.below (w := wa.drew) xa hb1).cell rfl, (Blk.below (w := wa.drew) xa hb1).cell rfl⟩
          refine hK.out _ _ (fun _ => hS) ?_
          clear hK K
          try simp only [Act.put, List.setIfInBounds_toArray, List.set_cons_zero, List.set_cons_succ, List.getElem_toArray, List.getElem_cons_zero, List.getElem_cons_succ]
          refine wpN_step (i := 9) (by kernel_rfl) rfl (fun K hK => ?_)
          go_simp
          have hS : (w5.alloc (.cells #[b', k', i', a'] 37)).cell? ⟨p, 3, none⟩ = some v ∧ (w5.alloc (.cells #[b', k', i', a'] 37)).cell? ⟨qn, 0, none⟩ = some (.slice (A j) (N j) (C j)) ∧ (w5.alloc (.cells #[b', k', i', a'] 37)).cell? ⟨qn, 1, none⟩ = some (.int .i64 (B j)) := ⟨((Blk.below (w := wa.drew) houta hb1).alloc _).cell rfl, ((Blk.below (w := wa.drew) xa hb1).alloc _).cell rfl, ((Blk.below (w := wa.drew) xa hb1).alloc _).cell rfl⟩
          refine hK.out _ _ (fun _ => hS) ?_
          clear hK K
          try simp only [Act.put, List.setIfInBounds_toArray, List.set_cons_zero, List.set_cons_succ, List.getElem_toArray, List.getElem_cons_zero, List.getElem_cons_succ]
          refine wpN_step (i := 10) (by kernel_rfl) rfl (fun K hK => ?_)
          refine step_push rpTm (by decide) (by rfl) _ _ _ (by rfl) N2 37 i2 _ 64 Try.underlying35 hi0 hz0 hz1 hz2 rfl (by decide)
                 (fun q => N2 ≤ q) v ((Ty.etas args).take j) (by rfl) (((Hacca.out.drew).below hb1).alloc _) (by rw [Hl.out]; omega)
                 w5.heap.size _ [b', k', i', a'] (Ty.eta args[j] 0 ((args.length : Int) - 1 - j)) (by rfl) (heap_alloc_new _ _) ⟨_, _, _, _, rfl, (hr1.weaken (fun q _ hq => ⟨Nat.le_trans (show N2 ≤ wa.drew.heap.size from hsNa) hq, fun e => by have := (Hacca.out.base_le q e).2; exact absurd this (Nat.not_lt.2 hq)⟩)).keep ((Keep.refl _ _).alloc _)⟩ (by have := hb1.size; simp at this ⊢; omega) ?_
          intro gg cap w6 hacc2 hgrow hat hlt2
          have hK2 : Keep (fun q => v.ownBlock ≠ some q) wa w6 := (hK1.alloc _).grown hgrow (fun _ hr hf => hf hr)
          have o2 := houta.push hb1 hgrow (Hne.out _ (by omega))
          have o1 := hresa.push hb1 hgrow (Hne.out _ (by omega))
          have oq := xa.push hb1 hgrow hown.out
          have bi6 := Lib.hid ((hbia.out.weaken (F' := fun q => (w.heap.size + 3 ≤ q ∧ q ≠ p ∧ q < N2) ∧ v.ownBlock ≠ some q) (by decide) fun q _ h => ⟨h, Hne.out q h.2.2⟩).keep (hK2.weaken fun q h => h.2))
          have B6 := below_push hba (by have := hba.size; omega) hb1 hgrow (fun q hq => by have := (Hacca.out.base_le q hq).1; omega)
          have hS : (w6).cell? ⟨p, 3, none⟩ = some v ∧ (w6).cell? ⟨qn, 0, none⟩ = some (.slice (A j) (N j) (C j)) ∧ (w6).cell? ⟨qn, 1, none⟩ = some (.int .i64 (B j)) := ⟨o2.cell (i := 3) rfl, oq.cell rfl, oq.cell rfl⟩
          have p2 := o2.free 3
          have Hacc2 := Lib.hid hacc2; clear hacc2
          refine hK.out _ _ (fun _ => hS) ?_
          clear hK K
          try simp only [Act.put, List.setIfInBounds_toArray, List.set_cons_zero, List.set_cons_succ, List.getElem_toArray, List.getElem_cons_zero, List.getElem_cons_succ]
          refine wpN_take (i := 11) (v := ?v22) rfl (by kernel_rfl) (fun _ _ _ h => h) hS (Or.inl ⟨by rfl, ?hy22⟩) ?hr22
          case hy22 => (intro wS hSw; (try dsimp only at hSw); go_simp; (try with_reducible rfl))
          try simp only [Act.put, List.setIfInBounds_toArray, List.set_cons_zero, List.set_cons_succ, List.getElem_toArray, List.getElem_cons_zero, List.getElem_cons_succ]
          refine wpN_step (i := 12) (by kernel_rfl) rfl (fun K hK => ?_)
          go_simp
          refine hK.out _ _ (fun h => absurd h (by decide)) ?_
          clear hK K
          try simp only [Act.put, List.setIfInBounds_toArray, List.set_cons_zero, List.set_cons_succ, List.getElem_toArray, List.getElem_cons_zero, List.getElem_cons_succ]
          refine wpN_done (by kernel_rfl) ?_
          refine NoPanic.normal ?_
          have hs6 : N2 ≤ w6.heap.size := by have := hgrow.size; have := hb1.size; simp at *; omega
          go_wp2_with fail
          refine ⟨⟨j + 1, _, by go_num, by omega, by simpa using hs6, B6.setCell (by simp <;> omega) _, o1.far _ _ (by simp <;> omega), o2.set 3 _, ?_, ?_⟩, by simp [intOf]; omega⟩
          · exact ((bi6.out.weaken (F' := fun q => w.heap.size + 3 ≤ q ∧ q ≠ p ∧ q < N2) (by decide) fun q _ h => h.1).keep ((Keep.refl _ _).setCell _ _ (by simp)))
          · have h := Hacc2.out
            rw [Hl.out, ← Htk.out] at h
            rw [show min j (Ty.etas args).length = j from by rw [Ty.etas_len]; omega]
            exact h.setCell ⟨p, 3, none⟩ _ (by simp <;> omega) (by simp <;> omega)
        · obtain ⟨va, vc, hv⟩ := Hacc.out.len_shape
          rw [List.length_take, Ty.etas_len, Nat.min_eq_left hj] at hv
          subst hv
          have d1 : wr.cell? ⟨p, 0, none⟩ = some (.slice qa2 args.length qc2) := hout.cell rfl
          have d2 : wr.cell? ⟨p, 1, none⟩ = some (.int .i64 k) := hout.cell rfl
          have d3 : wr.cell? ⟨p, 2, none⟩ = some (.int .i64 i) := hout.cell rfl
          have d4 : wr.cell? ⟨p, 3, none⟩ = some (.slice va j vc) := hout.cell rfl
          have r0 : wr.cell? ⟨w.heap.size + 1 + 1, 0, none⟩ = some (.slice none 0 0) := hres.cell rfl
          have r1 : wr.cell? ⟨w.heap.size + 1 + 1, 1, none⟩ = some (.int .i64 0) := hres.cell rfl
          have r2 : wr.cell? ⟨w.heap.size + 1 + 1, 2, none⟩ = some (.int .i64 0) := hres.cell rfl
          have r3 : wr.cell? ⟨w.heap.size + 1 + 1, 3, none⟩ = some (.slice none 0 0) := hres.cell rfl
          have f0 := hres.free 0
          have f1 := hres.free 1
          have f2 := hres.free 2
          have f3 := hres.free 3
          go_wp2_with fail
          refine bodyPost_ret (v := .agg #[.slice qa2 args.length qc2, .int .i64 k, .int .i64 i, .slice va j vc]) (by simp [results, Try.results17, go_sem, r0, r1, r2, r3]) rfl ?_
          refine ⟨_, _, _, _, rfl, ?_, (((hb.setCell (by simp <;> omega) _).setCell (by simp <;> omega) _).setCell (by simp <;> omega) _).setCell (by simp <;> omega) _⟩
          have h := Hacc.out
          rw [List.take_of_length_le (by rw [Ty.etas_len]; omega)] at h
          have hA := (((h.setCell ⟨w.heap.size + 1 + 1, 0, none⟩ (.slice qa2 args.length qc2) (by simp <;> omega) (by simp <;> omega)).setCell ⟨w.heap.size + 1 + 1, 1, none⟩ (.int .i64 k) (by simp <;> omega) (by simp <;> omega)).setCell ⟨w.heap.size + 1 + 1, 2, none⟩ (.int .i64 i) (by simp <;> omega) (by simp <;> omega)).setCell ⟨w.heap.size + 1 + 1, 3, none⟩ (.slice va j vc) (by simp <;> omega) (by simp <;> omega)
          have KR := (((((Keep.refl (fun q => w.heap.size + 3 ≤ q ∧ q ≠ p ∧ q < N2) wr).setCell ⟨w.heap.size + 1 + 1, 0, none⟩ (.slice qa2 args.length qc2) (by simp <;> omega)).setCell ⟨w.heap.size + 1 + 1, 1, none⟩ (.int .i64 k) (by simp <;> omega)).setCell ⟨w.heap.size + 1 + 1, 2, none⟩ (.int .i64 i) (by simp <;> omega)).setCell ⟨w.heap.size + 1 + 1, 3, none⟩ (.slice va j vc) (by simp <;> omega))
          rw [← Htm.out]
          exact isTm_mk ((hbi.out.keep KR).weaken (by decide) fun q _ h => by omega) (hA.sl (F' := fun q => w.heap.size ≤ q) (fun q _ hq => by omega) (fun q hq => by omega)) k i
end Go.Proofs.Ytejpgifofkiofaa

