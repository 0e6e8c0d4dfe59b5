/-
  term.turned, as term.Copy calls it: what is handed back is the caller's own. term.Copy: what it hands back is the caller's own. subst.renamed: other numbers, in place, in a term of its own. subst.renamed, walked (printed by genownr.py).
-/
import Derived.Test.YtcblpjheoclkeaaRowLiftApartsp6
import Derived.Test.YtcblpjheoclkeaaRowLiftApartsp4
set_option maxRecDepth 100000
set_option maxHeartbeats 1000000
set_option linter.unusedVariables false
set_option linter.unusedSimpArgs false
namespace Go.Proofs.Ytcblpjheoclkeaa
open Go.RowKit

def TurnPostW {σ : Type} (row : Option Nat) (St : σ → World → Prop) (p : σ × Tm) (w : World) (e : Ending) (w' : World) : Prop :=
  ∃ b k i a Z, e = .returned (.agg #[b, k, i, a]) ∧ IsOw Z w' (fun q => w.heap.size ≤ q ∧ q < w'.heap.size) b k i a p.2 ∧ Free w' w.heap.size w'.heap.size Z ∧ St p.1 w' ∧ w.grownBy w' row
def TurnedOw {σ : Type} (row : Option Nat) (ro : Nat → Prop) (St : σ → World → Prop) (f : σ → Int → σ × Int) (t : Tm) : Prop :=
  ∀ (F : Nat → Prop) (w0 : World) (b0 k0 i0 a0 : Value), IsTm F w0 b0 k0 i0 a0 t → (∀ k, row = some k → ¬ F k) → ∀ (s : σ) (n : Int) (w : World), Keep F w0 w → (∀ k, ro k → k < w.heap.size) → St s w → 0 ≤ n → n + t.full ≤ 90000 → t.Fit →
    Calls Try.prog 79 #[.agg #[b0, k0, i0, a0], .int .i64 n, .func (.func 80) #[] #[]] w (TurnPostW row St (Tm.turn f t s n) w)

set_option maxRecDepth 100000 in
set_option maxHeartbeats 2000000 in
theorem turned_ow {σ : Type} {row : Option Nat} {ro : Nat → Prop} {St : σ → World → Prop} {f : σ → Int → σ × Int} (hT : TurnerC row ro St f) : ∀ t : Tm, TurnedOw row ro St f t := Tm.ind fun binds k i args ih => by
  intro F w0 b0 k0 i0 a0 ht hrF s n w hw hrw hSt hn0 hn1 hfit
  obtain ⟨rfl, rfl, hb, hs⟩ := ht.inv
  obtain ⟨pa, pc, rfl⟩ := hb.shape
  obtain ⟨a, c, rfl⟩ := hs.shape
  simp only [Tm.binds, Tm.kind, Tm.index, Tm.args] at *
  obtain ⟨_, hm, bl, off, PA, A, PN, PC, N, C, Kd, Ix, ha, h1, h2, h3, h4, h5⟩ := sl_cells6 hs
  clear hs ht
  rw [Tm.full_eq] at hn1
  obtain ⟨hi0, hi1, hfa⟩ := Tm.fit_iff.1 hfit
  have hnl : binds.length ≤ 90000 := by have := Ty.le_sizes binds; omega
  have hal : args.length ≤ 90000 := by have := Tm.len_fulls args; omega
  obtain ⟨m, hmm⟩ : ∃ m : Int, n + (binds.length : Int) = m := ⟨_, rfl⟩
  have hm0 : 0 ≤ m := by omega
  have hm1 : m ≤ 90000 := by have := Ty.le_sizes binds; omega
  have hs1 : IntKind.i64.wrap m = m := IntWalk.i64_in _ (by omega)
  have Harr : Hid (∀ w' : World, Below w.heap.size w w' → Calls Try.prog 63 #[.agg #[.slice none 0 0, .int .i64 0], .slice pa binds.length pc] w' (FreshTy (.mk (binds ++ []) 0) w')) := fun w' hb' => by
    have h := arrow_k (isTy_mk (isSl_nil rpTy F w') 0) (hb.keep (hw.below hb')) (by simp [Ty.size, Ty.sizes]; have := Ty.le_sizes binds; omega)
    exact h
  have Hih : Hid (∀ j (h : j < args.length) (s : σ) (w' : World), Keep F w0 w' → (∀ k, ro k → k < w'.heap.size) → St s w' →
      Calls Try.prog 79 #[.agg #[.slice (PA j) (PN j) (PC j), .int .i64 (Kd j), .int .i64 (Ix j), .slice (A j) (N j) (C j)], .int .i64 m, .func (.func 80) #[] #[]] w' (TurnPostW row St (Tm.turn f args[j] s m) w')) :=
    fun j h s w' hw hr hs => ih _ (List.getElem_mem h) _ _ _ _ _ _ (h5 j h) hrF s m w' hw hr hs hm0 (by have := Tm.full_mem (List.getElem_mem h); have := Ty.le_sizes binds; omega) (hfa _ (List.getElem_mem h))
  have HrF := Lib.hid hrF
  have HSt := Lib.hid hSt
  have Hrw := Lib.hid hrw
  have HT := Lib.hid hT
  clear ih h5 hb hfit hfa hrF hSt hrw hT
  obtain ⟨i2, hi2, hz0, hz1, hz2⟩ := info_parts infoT
  by_cases hk : k = 0
  · subst hk
    have hk0 : ((0 : Int) == 0) = true := rfl
    by_cases hge : i ≥ m
    · have HC : Hid (m ≤ i) := hge
      have hq1 : IntKind.i64.wrap (i - m) = i - m := IntWalk.i64_in _ (by omega)
      go_enter Try.func79, Try.ntmps79
      go_wp2_with fail
      try rw [hmm]
      try rw [hs1]
      obtain ⟨w3, hw3⟩ : ∃ w3, (w.alloc (.cells #[.slice pa binds.length pc, .int .i64 0, .int .i64 i, .slice a args.length c] 34)).alloc (.cells #[.slice none 0 0, .int .i64 0, .int .i64 0, .slice none 0 0] 34) = w3 := ⟨_, rfl⟩
      have B3 : Below w.heap.size w w3 := by rw [← hw3]; exact ((Below.refl _ _).alloc (Nat.le_refl _) _).alloc (by simp) _
      have x0 : Blk w3 w.heap.size #[.slice pa binds.length pc, .int .i64 0, .int .i64 i, .slice a args.length c] 34 := by rw [← hw3]; exact (Blk.new _ _ _ rfl).alloc _
      have x2 : Blk w3 (w.heap.size + 1) #[.slice none 0 0, .int .i64 0, .int .i64 0, .slice none 0 0] 34 := by rw [← hw3]; exact Blk.new _ _ _ (by simp)
      have hsz1 : w3.heap.size = w.heap.size + 2 := by rw [← hw3]; simp
      try rw [hw3]
      clear hw3
      refine wp_region_noPanic (wp_region_need (S := fun w' => w'.cell? ⟨w.heap.size, 0, none⟩ = some (.slice pa binds.length pc) ∧ w'.cell? ⟨w.heap.size, 1, none⟩ = some (.int .i64 0) ∧ w'.cell? ⟨w.heap.size, 2, none⟩ = some (.int .i64 i)) (by kernel_rfl) ?_)
      have hS : (w3.drew).cell? ⟨w.heap.size, 0, none⟩ = some (.slice pa binds.length pc) ∧ (w3.drew).cell? ⟨w.heap.size, 1, none⟩ = some (.int .i64 0) ∧ (w3.drew).cell? ⟨w.heap.size, 2, none⟩ = some (.int .i64 i) := ⟨x0.drew.cell rfl, x0.drew.cell rfl, x0.drew.cell rfl⟩
      refine wpN_take (i := 0) (v := ?v1) rfl (by kernel_rfl) (fun _ _ _ h => h) hS (Or.inl ⟨by rfl, ?hy1⟩) ?hr1
      case hy1 => (intro wS hSw; (try dsimp only at hSw); go_simp; (try with_reducible rfl))
      try simp only [Act.put, List.setIfInBounds_toArray, List.set_cons_zero, List.set_cons_succ, List.getElem_toArray, List.getElem_cons_zero, List.getElem_cons_succ]
      refine wpN_take (i := 1) (v := ?v2) rfl (by kernel_rfl) (fun _ _ _ h => h) hS (Or.inl ⟨by rfl, ?hy2⟩) ?hr2
      case hy2 => (intro wS hSw; (try dsimp only at hSw); go_simp; (try with_reducible rfl))
      try simp only [Act.put, List.setIfInBounds_toArray, List.set_cons_zero, List.set_cons_succ, List.getElem_toArray, List.getElem_cons_zero, List.getElem_cons_succ]
      refine wpN_take (i := 2) (v := ?v3) rfl (by kernel_rfl) (fun _ _ _ h => h) hS (Or.inl ⟨by rfl, ?hy3⟩) ?hr3
      case hy3 => (intro wS hSw; (try dsimp only at hSw); go_simp; (try with_reducible rfl))
      try simp only [Act.put, List.setIfInBounds_toArray, List.set_cons_zero, List.set_cons_succ, List.getElem_toArray, List.getElem_cons_zero, List.getElem_cons_succ]
      refine wpN_take (i := 5) (v := ?v4) rfl (by kernel_rfl) (fun _ _ _ h => h) hS (Or.inl ⟨by rfl, ?hy4⟩) ?hr4
      case hy4 => (intro wS hSw; (try dsimp only at hSw); go_simp; (try with_reducible rfl))
      try simp only [Act.put, List.setIfInBounds_toArray, List.set_cons_zero, List.set_cons_succ, List.getElem_toArray, List.getElem_cons_zero, List.getElem_cons_succ]
      refine wpN_take (i := 6) (v := ?v5) rfl (by kernel_rfl) (fun _ _ _ h => h) hS (Or.inl ⟨by rfl, ?hy5⟩) ?hr5
      case hy5 => (intro wS hSw; (try dsimp only at hSw); go_simp; (try with_reducible rfl))
      try simp only [Act.put, List.setIfInBounds_toArray, List.set_cons_zero, List.set_cons_succ, List.getElem_toArray, List.getElem_cons_zero, List.getElem_cons_succ]
      refine wpN_gathersP [(3, 18), (4, 19), (7, 22), (8, 7)] 1 (fun j v x y w' => match j with
        | 3 => ∃ qa qc, v = .agg #[.slice qa binds.length qc, .int .i64 0] ∧ IsSl rpTy (fun q => x ≤ q ∧ q < y) w' (.slice qa binds.length qc) binds
        | 4 => True
        | 7 => True
        | _ => v = .pointer (some ⟨x, 0, none⟩) ∧ x < y ∧ Blk w' x #[.slice none 0 0, .int .i64 0, .int .i64 0, .slice none 0 0] 34) (fun j u => match j with
        | 4 => ∃ qa qc, u 3 = .agg #[.slice qa binds.length qc, .int .i64 0] ∧ u 4 = .slice qa binds.length qc
        | 7 => ∃ qa qc, u 4 = .slice qa binds.length qc ∧ u 7 = .agg #[.slice qa binds.length qc, .int .i64 0, .int .i64 i, .slice none 0 0]
        | _ => True) rfl rfl (by kernel_rfl) ?gst ?gst' hS ?gop ?gend
      case gst =>
        intro j v x y wa wb h hb
        split at h
        · obtain ⟨a, c, e, ht⟩ := h
          exact ⟨a, c, e, ht.keep ((Keep.refl _ _).below hb)⟩
        · trivial
        · trivial
        · exact ⟨h.1, h.2.1, h.2.2.below hb⟩
      case gst' =>
        intro j hj u u' hu h
        simp only [List.map_cons, List.map_nil, List.mem_cons, List.not_mem_nil, or_false] at hj
        rcases hj with rfl | rfl | rfl | rfl
        · trivial
        · obtain ⟨qa, qc, e1, e2⟩ := h
          exact ⟨qa, qc, (hu 3 (.inr (by kernel_rfl))).trans e1, (hu 4 (.inl rfl)).trans e2⟩
        · obtain ⟨qa, qc, e1, e2⟩ := h
          exact ⟨qa, qc, (hu 4 (.inr (by kernel_rfl))).trans e1, (hu 7 (.inl rfl)).trans e2⟩
        · trivial
      case gop =>
        intro x hx u w' hdep hB' hS'
        obtain ⟨q1, q2, q3⟩ := hS'
        have hbw : Below w3.heap.size w3 w' := (Below.refl _ _).drew.trans hB'
        simp only [List.mem_cons, List.not_mem_nil, or_false] at hx
        rcases hx with rfl | rfl | rfl | rfl
        · refine wpOp_step (i := 3) rfl (fun K hK => ?_)
          have hK := Lib.hid hK
          simp only [fills, List.foldl, Act.put, List.setIfInBounds_toArray, List.set_cons_zero, List.set_cons_succ, List.getElem_toArray, List.getElem_cons_zero, List.getElem_cons_succ]
          go_simp
          refine (Harr.out w' (B3.trans (hbw.mono B3.size))).mono ?_
          rintro e w6 ⟨s', b', rfl, hT, hb6⟩
          obtain ⟨qa, qc, rfl, rfl⟩ := hT.shape
          have hSl := hT.inv.2
          simp only [List.append_nil, args_mk', base_mk'] at hSl ⊢
          have hKp : Keep (fun _ => True) w' w6 := (Keep.refl _ _).below hb6
          exact hK.out _ _ ⟨_, rfl, ⟨_, _, rfl, hSl.weaken (by decide) fun q h1 h2 => ⟨h2, h1⟩⟩, trivial, hb6, hKp _ _ _ trivial q1, hKp _ _ _ trivial q2, hKp _ _ _ trivial q3⟩
        · obtain ⟨_, _, _, qa, qc, e1, _⟩ := hdep 3 (by simp) (by kernel_rfl)
          refine wpOp_step (i := 4) rfl (fun K hK => ?_)
          have hK := Lib.hid hK
          simp only [fills, List.foldl, Act.put, List.setIfInBounds_toArray, List.set_cons_zero, List.set_cons_succ, List.getElem_toArray, List.getElem_cons_zero, List.getElem_cons_succ]
          rw [e1]
          go_simp
          exact hK.out _ _ ⟨.slice qa binds.length qc, by simp only [fills, List.foldl, Act.put, List.setIfInBounds_toArray, List.set_cons_zero, List.set_cons_succ, List.getElem_toArray, List.getElem_cons_zero, List.getElem_cons_succ]; simp [upd, e1], trivial, ⟨qa, qc, e1, rfl⟩, Below.refl _ _, q1, q2, q3⟩
        · obtain ⟨⟨qa, qc, e0, e1⟩, _⟩ := hdep 4 (by simp) (by kernel_rfl)
          refine wpOp_step (i := 7) rfl (fun K hK => ?_)
          have hK := Lib.hid hK
          simp only [fills, List.foldl, Act.put, List.setIfInBounds_toArray, List.set_cons_zero, List.set_cons_succ, List.getElem_toArray, List.getElem_cons_zero, List.getElem_cons_succ]
          rw [e1]
          go_simp
          exact hK.out _ _ ⟨.agg #[.slice qa binds.length qc, .int .i64 0, .int .i64 i, .slice none 0 0], by simp only [fills, List.foldl, Act.put, List.setIfInBounds_toArray, List.set_cons_zero, List.set_cons_succ, List.getElem_toArray, List.getElem_cons_zero, List.getElem_cons_succ]; simp [upd, e1, e0], trivial, ⟨qa, qc, e1, rfl⟩, Below.refl _ _, q1, q2, q3⟩
        · refine wpOp_step (i := 8) rfl (fun K hK => ?_)
          have hK := Lib.hid hK
          simp only [fills, List.foldl, Act.put, List.setIfInBounds_toArray, List.set_cons_zero, List.set_cons_succ, List.getElem_toArray, List.getElem_cons_zero, List.getElem_cons_succ]
          go_simp
          have hb6 : Below w'.heap.size w' (w'.alloc (.cells #[.slice none 0 0, .int .i64 0, .int .i64 0, .slice none 0 0] 34)) := (Below.refl _ _).alloc (Nat.le_refl _) _
          have hKp : Keep (fun _ => True) w' (w'.alloc (.cells #[.slice none 0 0, .int .i64 0, .int .i64 0, .slice none 0 0] 34)) := (Keep.refl _ _).below hb6
          exact hK.out _ _ ⟨_, rfl, ⟨rfl, by simp, Blk.new _ _ _ rfl⟩, trivial, hb6, hKp _ _ _ trivial q1, hKp _ _ _ trivial q2, hKp _ _ _ trivial q3⟩
      case gend =>
        intro u lo hi w' hΦ hΨ hB' hS'
        have hbw : Below w3.heap.size w3 w' := (Below.refl _ _).drew.trans hB'
        obtain ⟨⟨qa, qc, e1, V1⟩, n1, m1, o1⟩ := hΦ.1 3 (by simp) rfl
        obtain ⟨⟨e2, r2, Z2⟩, n2, m2, o2⟩ := hΦ.1 8 (by simp) rfl
        obtain ⟨qa', qc', e3, e4⟩ := hΨ 4 (by simp)
        obtain ⟨qa2, qc2, e5, e6⟩ := hΨ 7 (by simp)
        obtain ⟨rfl, rfl⟩ : qa' = qa ∧ qc' = qc := by rw [e1] at e3; cases e3; exact ⟨rfl, rfl⟩
        obtain ⟨rfl, rfl⟩ : qa2 = qa' ∧ qc2 = qc' := by rw [e4] at e5; cases e5; exact ⟨rfl, rfl⟩
        clear e3 e5
        have k12 := hΦ.2 3 (by simp) 8 (by simp) rfl rfl (by decide)
        clear hΦ hΨ
        simp only [fills, List.foldl, Act.put, List.setIfInBounds_toArray, List.set_cons_zero, List.set_cons_succ, List.getElem_toArray, List.getElem_cons_zero, List.getElem_cons_succ]
        rw [e1, e2, e4, e6]
        clear e1 e2 e4 e6
        have hsz : w3.drew.heap.size = w3.heap.size := rfl
        rw [hsz, hsz1] at n1 n2
        generalize lo 8 = p at *
        have U1 := Lib.hid (V1.weaken (F' := fun q => w.heap.size + 2 ≤ q ∧ q ≠ p) (by decide) fun q _ h => ⟨by omega, by omega⟩)
        clear V1 k12 n1 m1 o1 m2 r2 o2 hsz
        have B2 := B3.trans (hbw.mono B3.size)
        have y0 := x0.below hbw
        have y2 := x2.below hbw
        have r0 : w'.cell? ⟨p, 0, none⟩ = some (.slice none 0 0) := Z2.cell rfl
        have r1 : w'.cell? ⟨p, 1, none⟩ = some (.int .i64 0) := Z2.cell rfl
        have r2 : w'.cell? ⟨p, 2, none⟩ = some (.int .i64 0) := Z2.cell rfl
        have r3 : w'.cell? ⟨p, 3, none⟩ = some (.slice none 0 0) := Z2.cell rfl
        have f0 := Z2.free 0
        have f1 := Z2.free 1
        have f2 := Z2.free 2
        have f3 := Z2.free 3
        refine wpN_step (i := 9) (by kernel_rfl) rfl (fun K hK => ?_)
        go_simp
        refine hK.out _ _ (fun h => absurd h (by decide)) ?_
        clear hK K
        try simp only [Act.put, List.setIfInBounds_toArray, List.set_cons_zero, List.set_cons_succ, List.getElem_toArray, List.getElem_cons_zero, List.getElem_cons_succ]
        refine wpN_done (by kernel_rfl) ?_
        refine NoPanic.normal ?_
        obtain ⟨w2, hw2⟩ : ∃ w2, ((((w'.setCell ⟨p, 0, none⟩ (.slice qa2 binds.length qc2)).setCell ⟨p, 1, none⟩ (.int .i64 0)).setCell ⟨p, 2, none⟩ (.int .i64 i)).setCell ⟨p, 3, none⟩ (.slice none 0 0)) = w2 := ⟨_, rfl⟩
        have hlp := Z2.lt
        have B5 : Below w.heap.size w w2 := by rw [← hw2]; exact ((((B2.setCell (by simp; omega) _).setCell (by simp; omega) _).setCell (by simp; omega) _).setCell (by simp; omega) _)
        have z0 : Blk w2 w.heap.size #[.slice pa binds.length pc, .int .i64 0, .int .i64 i, .slice a args.length c] 34 := by rw [← hw2]; exact ((((y0.far _ _ (by simp; omega)).far _ _ (by simp; omega)).far _ _ (by simp; omega)).far _ _ (by simp; omega))
        have z2 : Blk w2 (w.heap.size + 1) #[.slice none 0 0, .int .i64 0, .int .i64 0, .slice none 0 0] 34 := by rw [← hw2]; exact ((((y2.far _ _ (by simp; omega)).far _ _ (by simp; omega)).far _ _ (by simp; omega)).far _ _ (by simp; omega))
        have zp : Blk w2 p #[.slice qa2 binds.length qc2, .int .i64 0, .int .i64 i, .slice none 0 0] 34 := by rw [← hw2]; exact ((((Z2.set 0 _).set 1 _).set 2 _).set 3 _)
        have KU : Keep (fun q => w.heap.size + 2 ≤ q ∧ q ≠ p) w' w2 := by rw [← hw2]; exact ((((Keep.refl _ _).setCell _ _ (by simp)).setCell _ _ (by simp)).setCell _ _ (by simp)).setCell _ _ (by simp)
        have U2 := Lib.hid (U1.out.keep KU)
        rw [hw2]
        clear hw2 KU U1 y0 y2 Z2 r0 r1 r2 r3 f0 f1 f2 f3 B2 hbw hB' hS' hS x0 x2 B3 hlp
        have hlp2 := zp.lt
        obtain ⟨N2, hN2⟩ : ∃ n, w2.heap.size = n := ⟨_, rfl⟩
        have HN2 := Lib.hid hN2; clear hN2
        have hpN : p < N2 := by have := HN2.out; omega
        have St2 := Lib.hid (HT.out.keep s w w2 HSt.out fun k hk => B5.block k (Hrw.out k hk))
        have c01 : w2.cell? ⟨w.heap.size, 1, none⟩ = some (.int .i64 0) := z0.cell rfl
        have c02 : w2.cell? ⟨w.heap.size, 2, none⟩ = some (.int .i64 i) := z0.cell rfl
        have c03 : w2.cell? ⟨w.heap.size, 3, none⟩ = some (.slice a args.length c) := z0.cell rfl
        have U3 := Lib.hid (U2.out.weaken (F' := fun q => w.heap.size + 2 ≤ q ∧ q ≠ p ∧ q < N2) (by decide) fun q h1 h2 => ⟨h2.1, h2.2, by have := HN2.out; omega⟩)
        clear U2
        have Hr2 : Hid (∀ k, ro k → k < w.heap.size) := Hrw.out
        go_wp2_with fail
        refine (HT.out.call s (i - m) w2 St2.out (by omega) (by omega)).mono ?_
        rintro e w5 ⟨rfl, hSt5, hg5⟩
        have hrow : ∀ q, w.heap.size ≤ q → row ≠ some q := fun q hq e => by have := Hr2.out q (HT.out.sub q e); omega
        have G5 := gb_trans (gb_below B5 row) hg5
        have y0 := z0.grown hg5 (hrow _ (Nat.le_refl _))
        have y2 := z2.grown hg5 (hrow _ (by omega))
        have yp := zp.grown hg5 (hrow _ (by omega))
        have U5 := Lib.hid (U3.out.keep ((Keep.refl _ _).grown hg5 fun k hk hf => hrow k (by omega) hk))
        have hsg := hg5.size
        have Hrng := HT.out.rng s (i - m) (by omega)
        have HSt5 := Lib.hid hSt5
        clear hSt5 z0 z2 zp U3 c01 c02 c03 B5 hlp2 St2
        obtain ⟨fx, hfx⟩ : ∃ fx, (f s (i - m)).2 = fx := ⟨_, rfl⟩
        have Hfx := Lib.hid hfx
        rw [hfx] at Hrng
        rw [hfx]
        clear hfx
        have hwr2 : IntKind.i64.wrap (m + fx) = m + fx := IntWalk.i64_in _ (by omega)
        obtain ⟨jx, hjx⟩ : ∃ jx, m + fx = jx := ⟨_, rfl⟩
        have HJ := Lib.hid hjx
        rw [hjx] at hwr2
        have c03 : w5.cell? ⟨w.heap.size, 3, none⟩ = some (.slice a args.length c) := y0.cell rfl
        have c52 : w5.cell? ⟨p, 2, none⟩ = some (.int .i64 i) := yp.cell rfl
        have f52 := yp.free 2
        have hlp5 := yp.lt
        go_wp2_with fail
        obtain ⟨w7, hw7⟩ : ∃ w7, w5.setCell ⟨p, 2, none⟩ (.int .i64 jx) = w7 := ⟨_, rfl⟩
        have G7 : w.grownBy w7 row := by rw [← hw7]; exact gb_setCell G5 (by simp; omega) _
        have s2 : Blk w7 (w.heap.size + 1) #[.slice none 0 0, .int .i64 0, .int .i64 0, .slice none 0 0] 34 := by rw [← hw7]; exact y2.far _ _ (by simp; omega)
        have sp : Blk w7 p #[.slice qa2 binds.length qc2, .int .i64 0, .int .i64 jx, .slice none 0 0] 34 := by rw [← hw7]; exact yp.set 2 _
        have U7 := Lib.hid (U5.out.keep ((Keep.refl _ _).setCell ⟨p, 2, none⟩ (.int .i64 jx) (by simp)))
        rw [hw7] at U7
        have hs7 : N2 ≤ w7.heap.size := by rw [← hw7]; have := HN2.out; simp; omega
        have St7 : Hid (St (f s (i - m)).1 w7) := by
          rw [← hw7]
          exact HT.out.keep _ _ _ HSt5.out fun k hk => Below.heap_setCell _ _ _ _ (by have := Hr2.out k hk; simp; omega)
        try rw [hw7]
        clear hw7 G5 y0 y2 yp U5 c03 c52 f52 hlp5 hg5 hsg HSt5
        have hrowN : Hid (∀ k, row = some k → ¬ (N2 ≤ k) ∧ k < N2) := fun k hk => by have := Hr2.out k (HT.out.sub k hk); omega
        have Hrow := Lib.hid hrow; clear hrow
        have hacc0 : Acc rpOw 34 N2 (fun q => N2 ≤ q) w7 (.slice none 0 0) [] := Acc.nil _ _ _ _ _
        try go_wp2_with fail
        go_loopw [48] (fun ii wr => ∃ (j : Nat) (v : Value), ii = .int .i64 j ∧ j ≤ args.length ∧ N2 ≤ wr.heap.size ∧
            w.grownBy wr row ∧ Blk wr (w.heap.size + 1) #[.slice none 0 0, .int .i64 0, .int .i64 0, .slice none 0 0] 34 ∧ Blk wr p #[.slice qa2 binds.length qc2, .int .i64 0, .int .i64 jx, v] 34 ∧
            Hid (IsSl rpTy (fun q => w.heap.size + 2 ≤ q ∧ q ≠ p ∧ q < N2) wr (.slice qa2 binds.length qc2) binds) ∧ Hid (St (Tm.turns f (args.take j) (f s (i - m)).1 m).1 wr) ∧
            ∃ L : List OL, Hid (L.map (·.t) = (Tm.turns f (args.take j) (f s (i - m)).1 m).2) ∧ Hid (Lies wr N2 v L) ∧ Acc rpOw 34 N2 (fun q => N2 ≤ q) wr v L) (fun ii _ => args.length - (intOf ii).toNat)
        case atStart => exact ⟨0, _, rfl, by omega, hs7, G7, s2, sp, U7.out, St7.out, [], by show _ = _; rfl, Lies.nil _ _ _, hacc0⟩
        case round =>
          clear G7 s2 sp U7 hacc0 hs7 St7
          obtain ⟨j, v, rfl, hj, hsN, hb, hres, hout, hbi, hst, L, HLm, HLi, hacc⟩ := hrel
          have hszp := hout.lt
          have hszb := hres.lt
          have Hacc := Lib.hid hacc; clear hacc
          by_cases hlt : j < args.length
          · obtain ⟨rfl, hF⟩ := ha (by omega)
            clear ha
            have hkp : Keep F w0 wr := hw.grown hb fun k hk => HrF.out k hk
            have e1 := hkp _ _ _ hF (h1 j hlt)
            have e2 := hkp _ _ _ hF (h2 j hlt)
            have e3 := hkp _ _ _ hF (h3 j hlt)
            have e4 := hkp _ _ _ hF (h4 j hlt)
            have hlt0 : (0 : Int) ≤ (j : Int) := Int.natCast_nonneg _
            have hlt1 : (j : Int) < (args.length : Int) := by omega
            have Hl : Hid (L.length = j) := by show _ = _; have h0 : L.map (·.t) = _ := HLm; have := congrArg List.length h0; rw [List.length_map, Tm.turns_len, List.length_take] at this; omega
            have Hne : Hid (∀ q, q < N2 → v.ownBlock ≠ some q) := fun q hq e => by have := (Hacc.out.base_le q e).1; omega
            have Htk := Lib.hid (Tm.turns_take f args (f s (i - m)).1 m j hlt)
            have hblw : bl < wr.heap.size := Keep.lt e1
            go_wp2_with fail
            obtain ⟨wa, hwa⟩ : ∃ wa, wr.alloc (.cells #[.slice (PA j) (PN j) (PC j), .int .i64 (Kd j), .int .i64 (Ix j), .slice (A j) (N j) (C j)] 34) = wa := ⟨_, rfl⟩
            obtain ⟨qn, hqn⟩ : ∃ qn, wr.heap.size = qn := ⟨_, rfl⟩
            have ba : Below wr.heap.size wr wa := by rw [← hwa]; exact (Below.refl _ _).alloc (Nat.le_refl _) _
            have xa : Blk wa qn #[.slice (PA j) (PN j) (PC j), .int .i64 (Kd j), .int .i64 (Ix j), .slice (A j) (N j) (C j)] 34 := by rw [← hwa]; exact Blk.new _ _ _ hqn.symm
            have hba := gb_trans hb (gb_below ba row)
            have hresa := hres.below ba
            have houta := hout.below ba
            have Hacca := Lib.hid (Hacc.out.below ba)
            have hbia := Lib.hid (hbi.out.keep ((Keep.refl _ _).below ba))
            have hsta := Lib.hid (HT.out.keep _ _ _ hst.out fun k hk => ba.block k (by have := Hr2.out k hk; have := hb.size; omega))
            have HLia : Hid (Lies wa N2 v L) := HLi.out.same ba.size fun q _ h2 _ => ba.block q h2
            have hown : Hid (v.ownBlock ≠ some qn) := fun e => by have := (Hacc.out.base_le qn e).2; omega
            have hsNa : N2 ≤ wa.heap.size := Nat.le_trans hsN ba.size
            have hqN : N2 ≤ qn := by omega
            try rw [hwa]
            try rw [hqn]
            clear HLi hwa hqn ba hb hres hout Hacc hbi hst hsN hszp hszb hblw e1 e2 e3 e4 hkp
            have hszp := houta.lt
            have hszb := hresa.lt
            refine wp_region_noPanic (wp_region_need (S := fun w' => w'.cell? ⟨p, 3, none⟩ = some v ∧ w'.cell? ⟨qn, 0, none⟩ = some (.slice (PA j) (PN j) (PC j)) ∧ w'.cell? ⟨qn, 1, none⟩ = some (.int .i64 (Kd j)) ∧ w'.cell? ⟨qn, 2, none⟩ = some (.int .i64 (Ix j)) ∧ w'.cell? ⟨qn, 3, none⟩ = some (.slice (A j) (N j) (C j))) (by kernel_rfl) ?_)
            have hS : (wa.drew).cell? ⟨p, 3, none⟩ = some v ∧ (wa.drew).cell? ⟨qn, 0, none⟩ = some (.slice (PA j) (PN j) (PC j)) ∧ (wa.drew).cell? ⟨qn, 1, none⟩ = some (.int .i64 (Kd j)) ∧ (wa.drew).cell? ⟨qn, 2, none⟩ = some (.int .i64 (Ix j)) ∧ (wa.drew).cell? ⟨qn, 3, none⟩ = some (.slice (A j) (N j) (C j)) := ⟨houta.drew.cell rfl, xa.drew.cell rfl, xa.drew.cell rfl, xa.drew.cell rfl, xa.drew.cell rfl⟩
            refine wpN_take (i := 0) (v := ?v6) rfl (by kernel_rfl) (fun _ _ _ h => h) hS (Or.inl ⟨by rfl, ?hy6⟩) ?hr6
            case hy6 => (intro wS hSw; (try dsimp only at hSw); go_simp; (try with_reducible rfl))
            try simp only [Act.put, List.setIfInBounds_toArray, List.set_cons_zero, List.set_cons_succ, List.getElem_toArray, List.getElem_cons_zero, List.getElem_cons_succ]
            refine wpN_take (i := 1) (v := ?v7) rfl (by kernel_rfl) (fun _ _ _ h => h) hS (Or.inl ⟨by rfl, ?hy7⟩) ?hr7
            case hy7 => (intro wS hSw; (try dsimp only at hSw); go_simp; (try with_reducible rfl))
            try simp only [Act.put, List.setIfInBounds_toArray, List.set_cons_zero, List.set_cons_succ, List.getElem_toArray, List.getElem_cons_zero, List.getElem_cons_succ]
            refine wpN_take (i := 2) (v := ?v8) rfl (by kernel_rfl) (fun _ _ _ h => h) hS (Or.inl ⟨by rfl, ?hy8⟩) ?hr8
            case hy8 => (intro wS hSw; (try dsimp only at hSw); go_simp; (try with_reducible rfl))
            try simp only [Act.put, List.setIfInBounds_toArray, List.set_cons_zero, List.set_cons_succ, List.getElem_toArray, List.getElem_cons_zero, List.getElem_cons_succ]
            refine wpN_take (i := 3) (v := ?v9) rfl (by kernel_rfl) (fun _ _ _ h => h) hS (Or.inl ⟨by rfl, ?hy9⟩) ?hr9
            case hy9 => (intro wS hSw; (try dsimp only at hSw); go_simp; (try with_reducible rfl))
            try simp only [Act.put, List.setIfInBounds_toArray, List.set_cons_zero, List.set_cons_succ, List.getElem_toArray, List.getElem_cons_zero, List.getElem_cons_succ]
            refine wpN_take (i := 4) (v := ?v10) rfl (by kernel_rfl) (fun _ _ _ h => h) hS (Or.inl ⟨by rfl, ?hy10⟩) ?hr10
            case hy10 => (intro wS hSw; (try dsimp only at hSw); go_simp; (try with_reducible rfl))
            try simp only [Act.put, List.setIfInBounds_toArray, List.set_cons_zero, List.set_cons_succ, List.getElem_toArray, List.getElem_cons_zero, List.getElem_cons_succ]
            refine wpN_step (i := 5) (by kernel_rfl) rfl (fun K hK => ?_)
            go_simp
            refine (Hih.out j hlt _ wa.drew (hw.grown hba fun k hk => HrF.out k hk).drew (fun k hk => by have := Hr2.out k hk; have := hba.size; simp at *; omega) (HT.out.keep _ _ _ hsta.out fun _ _ => rfl)).mono ?_
            rintro e w5 ⟨b', k', i', a', Z', rfl, hr1, hf1, hst5, hg5⟩
            have hg5' : wa.grownBy w5 row := gb_trans (gb_below (Below.refl _ _).drew row) hg5
            have hsg := hg5'.size
            have outa5 := houta.grown hg5' (Hrow.out _ (by omega))
            have resa5 := hresa.grown hg5' (Hrow.out _ (by omega))
            have xa5 := xa.grown hg5' (Hrow.out _ (by omega))
            have acc5 := Lib.hid (Hacca.out.other hg5' hrowN.out)
            have bi5 := Lib.hid (hbia.out.keep ((Keep.refl _ _).grown hg5' fun k hk hf => by have := Hr2.out k (HT.out.sub k hk); omega))
            have HLi5 : Hid (Lies w5 N2 v L) := HLia.out.same hsg fun q h1 h2 _ => hg5'.block q h2 fun e => Hrow.out q (by omega) e.symm
            have Hhi : Hid (∀ r ∈ L, r.hi ≤ wa.drew.heap.size) := HLia.out.hi
            have Hr1 := Lib.hid hr1
            have Hf1 := Lib.hid hf1
            clear hr1 hf1
            have G5 := gb_trans hba hg5'
            have Hst5 := Lib.hid hst5; clear hst5
            clear houta hresa xa hbia hba hszp hszb hsta
            have hS : (w5).cell? ⟨p, 3, none⟩ = some v ∧ (w5).cell? ⟨qn, 0, none⟩ = some (.slice (PA j) (PN j) (PC j)) ∧ (w5).cell? ⟨qn, 1, none⟩ = some (.int .i64 (Kd j)) ∧ (w5).cell? ⟨qn, 2, none⟩ = some (.int .i64 (Ix j)) ∧ (w5).cell? ⟨qn, 3, none⟩ = some (.slice (A j) (N j) (C j)) := ⟨outa5.cell rfl, xa5.cell rfl, xa5.cell rfl, xa5.cell rfl, xa5.cell rfl⟩
            refine hK.out _ _ (fun _ => hS) ?_
            clear hK K
            try simp only [Act.put, List.setIfInBounds_toArray, List.set_cons_zero, List.set_cons_succ, List.getElem_toArray, List.getElem_cons_zero, List.getElem_cons_succ]
            refine wpN_step (i := 6) (by kernel_rfl) rfl (fun K hK => ?_)
            go_simp
            have hS : (w5.alloc (.cells #[b', k', i', a'] 34)).cell? ⟨p, 3, none⟩ = some v ∧ (w5.alloc (.cells #[b', k', i', a'] 34)).cell? ⟨qn, 0, none⟩ = some (.slice (PA j) (PN j) (PC j)) ∧ (w5.alloc (.cells #[b', k', i', a'] 34)).cell? ⟨qn, 1, none⟩ = some (.int .i64 (Kd j)) ∧ (w5.alloc (.cells #[b', k', i', a'] 34)).cell? ⟨qn, 2, none⟩ = some (.int .i64 (Ix j)) ∧ (w5.alloc (.cells #[b', k', i', a'] 34)).cell? ⟨qn, 3, none⟩ = some (.slice (A j) (N j) (C j)) := ⟨(outa5.alloc _).cell rfl, (xa5.alloc _).cell rfl, (xa5.alloc _).cell rfl, (xa5.alloc _).cell rfl, (xa5.alloc _).cell rfl⟩
            refine hK.out _ _ (fun _ => hS) ?_
            clear hK K
            try simp only [Act.put, List.setIfInBounds_toArray, List.set_cons_zero, List.set_cons_succ, List.getElem_toArray, List.getElem_cons_zero, List.getElem_cons_succ]
            refine wpN_step (i := 7) (by kernel_rfl) rfl (fun K hK => ?_)
            refine step_push rpOw (by decide) (by rfl) _ _ _ (by rfl) N2 34 i2 _ 64 Try.underlying32 hi2 hz0 hz1 hz2 rfl (by decide)
                   (fun q => N2 ≤ q) v L (by rfl) (acc5.out.alloc _) (by rw [Hl.out]; omega)
                   w5.heap.size _ [b', k', i', a'] ⟨(Tm.turn f args[j] (Tm.turns f (args.take j) (f s (i - m)).1 m).1 m).2, wa.drew.heap.size, w5.heap.size, Z'⟩ (by rfl) (heap_alloc_new _ _) ⟨_, _, _, _, rfl, (Hr1.out.weaken fun q _ hq => ⟨hq, Nat.le_trans (show N2 ≤ wa.drew.heap.size from hsNa) hq.1, fun e => by have := (Hacca.out.base_le q e).2; exact absurd this (Nat.not_lt.2 hq.1)⟩).keep ((Keep.refl _ _).alloc _)⟩ (by have := hsg; simp at *; omega) ?_
            intro gg cap w6 hacc2 hgrow hat hlt2
            have hba5 : Below w5.heap.size w5 (w5.alloc (.cells #[b', k', i', a'] 34)) := (Below.refl _ _).alloc (Nat.le_refl _) _
            have HLi6 := Lib.hid ((HLi5.out.same hba5.size fun q _ h2 _ => hba5.block q h2).push (l := ⟨(Tm.turn f args[j] (Tm.turns f (args.take j) (f s (i - m)).1 m).1 m).2, wa.drew.heap.size, w5.heap.size, Z'⟩) (v' := .slice (some ⟨gg, 0, none⟩) (L.length + 1) cap) hsNa hba5.size (Hf1.out.same fun q _ h2 => hba5.block q h2) Hhi.out (fun g e => (Hacca.out.base_le g e).2) hgrow (fun g e => by cases e; exact hat))
            clear hba5
            have o2 := (outa5.alloc _).grown hgrow (Hne.out _ (by omega))
            have o1 := (resa5.alloc _).grown hgrow (Hne.out _ (by omega))
            have oq := (xa5.alloc _).grown hgrow hown.out
            have bi6 := Lib.hid (((bi5.out.keep ((Keep.refl _ _).alloc _)).weaken (F' := fun q => (w.heap.size + 2 ≤ q ∧ q ≠ p ∧ q < N2) ∧ v.ownBlock ≠ some q) (by decide) fun q _ h => ⟨h, Hne.out q h.2.2⟩).keep ((Keep.refl _ _).grown hgrow fun k hk hf => hf.2 hk))
            have G6 := gb_grown (gb_trans G5 (gb_below ((Below.refl _ _).alloc (Nat.le_refl _) _) row)) hgrow (fun q hq => by have := (Hacca.out.base_le q hq).1; omega)
            have st6 := Lib.hid (HT.out.keep _ _ _ Hst5.out fun k hk => ((hgrow.block k (by have := Hr2.out k hk; have := G5.size; simp; omega) (fun e => Hne.out k (by have := Hr2.out k hk; omega) e.symm)).trans (Below.heap_alloc _ _ _ (by have := Hr2.out k hk; have := G5.size; omega))))
            have hS : (w6).cell? ⟨p, 3, none⟩ = some v ∧ (w6).cell? ⟨qn, 0, none⟩ = some (.slice (PA j) (PN j) (PC j)) ∧ (w6).cell? ⟨qn, 1, none⟩ = some (.int .i64 (Kd j)) ∧ (w6).cell? ⟨qn, 2, none⟩ = some (.int .i64 (Ix j)) ∧ (w6).cell? ⟨qn, 3, none⟩ = some (.slice (A j) (N j) (C j)) := ⟨o2.cell (i := 3) rfl, oq.cell rfl, oq.cell rfl, oq.cell rfl, oq.cell rfl⟩
            have p2 := o2.free 3
            have Hacc2 := Lib.hid hacc2; clear hacc2
            refine hK.out _ _ (fun _ => hS) ?_
            clear hK K
            try simp only [Act.put, List.setIfInBounds_toArray, List.set_cons_zero, List.set_cons_succ, List.getElem_toArray, List.getElem_cons_zero, List.getElem_cons_succ]
            refine wpN_take (i := 8) (v := ?v11) rfl (by kernel_rfl) (fun _ _ _ h => h) hS (Or.inl ⟨by rfl, ?hy11⟩) ?hr11
            case hy11 => (intro wS hSw; (try dsimp only at hSw); go_simp; (try with_reducible rfl))
            try simp only [Act.put, List.setIfInBounds_toArray, List.set_cons_zero, List.set_cons_succ, List.getElem_toArray, List.getElem_cons_zero, List.getElem_cons_succ]
            refine wpN_step (i := 9) (by kernel_rfl) rfl (fun K hK => ?_)
            go_simp
            refine hK.out _ _ (fun h => absurd h (by decide)) ?_
            clear hK K
            try simp only [Act.put, List.setIfInBounds_toArray, List.set_cons_zero, List.set_cons_succ, List.getElem_toArray, List.getElem_cons_zero, List.getElem_cons_succ]
            refine wpN_done (by kernel_rfl) ?_
            refine NoPanic.normal ?_
            have hs6 : N2 ≤ w6.heap.size := by have := hgrow.size; simp at *; omega
            clear o1 oq
            have o1 := (resa5.alloc _).grown hgrow (Hne.out _ (by omega))
            go_wp2_with fail
            refine ⟨⟨j + 1, _, by go_num, by omega, by simpa using hs6, gb_setCell G6 (by simp <;> omega) _, o1.far _ _ (by simp <;> omega), o2.set 3 _, ?_, ?_, ?_⟩, by simp [intOf]; omega⟩
            · exact ((bi6.out.weaken (F' := fun q => w.heap.size + 2 ≤ q ∧ q ≠ p ∧ q < N2) (by decide) fun q _ h => h.1).keep ((Keep.refl _ _).setCell _ _ (by simp)))
            · show St _ _
              rw [Htk.out]
              exact HT.out.keep _ _ _ st6.out fun k hk => Below.heap_setCell _ _ _ _ (by have := Hr2.out k hk; simp; omega)
            · refine ⟨_, ?_, ?_, Hacc2.out.setCell ⟨p, 3, none⟩ _ (by simp <;> omega) (by simp <;> omega)⟩
              · show _ = _
                have h0 : L.map (·.t) = _ := HLm
                rw [Htk.out, List.map_append, h0]; rfl
              · exact HLi6.out.same (by simp) fun q h1 _ _ => Below.heap_setCell _ _ _ _ (by simp; omega)
          · obtain ⟨va, vc, hv⟩ := Hacc.out.len_shape
            rw [show L.length = j from by have h0 : L.map (·.t) = _ := HLm; have := congrArg List.length h0; rw [List.length_map, Tm.turns_len, List.length_take] at this; omega] at hv
            subst hv
            have d1 : wr.cell? ⟨p, 0, none⟩ = some (.slice qa2 binds.length qc2) := hout.cell rfl
            have d2 : wr.cell? ⟨p, 1, none⟩ = some (.int .i64 0) := hout.cell rfl
            have d3 : wr.cell? ⟨p, 2, none⟩ = some (.int .i64 jx) := hout.cell rfl
            have d4 : wr.cell? ⟨p, 3, none⟩ = some (.slice va j vc) := hout.cell rfl
            have r0 : wr.cell? ⟨w.heap.size + 1, 0, none⟩ = some (.slice none 0 0) := hres.cell rfl
            have r1 : wr.cell? ⟨w.heap.size + 1, 1, none⟩ = some (.int .i64 0) := hres.cell rfl
            have r2 : wr.cell? ⟨w.heap.size + 1, 2, none⟩ = some (.int .i64 0) := hres.cell rfl
            have r3 : wr.cell? ⟨w.heap.size + 1, 3, none⟩ = some (.slice none 0 0) := hres.cell rfl
            have f0 := hres.free 0
            have f1 := hres.free 1
            have f2 := hres.free 2
            have f3 := hres.free 3
            go_wp2_with fail
            refine bodyPost_ret (v := .agg #[.slice qa2 binds.length qc2, .int .i64 0, .int .i64 jx, .slice va j vc]) (by simp [results, Try.results79, go_sem, r0, r1, r2, r3]) rfl ?_
            have h := Hacc.out
            have hst2 := hst.out
            have hL2 : L.map (·.t) = _ := HLm
            rw [List.take_of_length_le (by omega)] at hL2 hst2
            obtain ⟨w9, hw9⟩ : ∃ w9, ((((wr.setCell ⟨w.heap.size + 1, 0, none⟩ (.slice qa2 binds.length qc2)).setCell ⟨w.heap.size + 1, 1, none⟩ (.int .i64 0)).setCell ⟨w.heap.size + 1, 2, none⟩ (.int .i64 jx)).setCell ⟨w.heap.size + 1, 3, none⟩ (.slice va j vc)) = w9 := ⟨_, rfl⟩
            have hA := (((h.setCell ⟨w.heap.size + 1, 0, none⟩ (.slice qa2 binds.length qc2) (by simp <;> omega) (by simp <;> omega)).setCell ⟨w.heap.size + 1, 1, none⟩ (.int .i64 0) (by simp <;> omega) (by simp <;> omega)).setCell ⟨w.heap.size + 1, 2, none⟩ (.int .i64 jx) (by simp <;> omega) (by simp <;> omega)).setCell ⟨w.heap.size + 1, 3, none⟩ (.slice va j vc) (by simp <;> omega) (by simp <;> omega)
            have KR := (((((Keep.refl (fun q => w.heap.size + 2 ≤ q ∧ q ≠ p ∧ q < N2) wr).setCell ⟨w.heap.size + 1, 0, none⟩ (.slice qa2 binds.length qc2) (by simp <;> omega)).setCell ⟨w.heap.size + 1, 1, none⟩ (.int .i64 0) (by simp <;> omega)).setCell ⟨w.heap.size + 1, 2, none⟩ (.int .i64 jx) (by simp <;> omega)).setCell ⟨w.heap.size + 1, 3, none⟩ (.slice va j vc) (by simp <;> omega))
            have hsetk : ∀ (W : World) (o : Nat) (u : Value) (k : Nat), ro k → (W.setCell ⟨w.heap.size + 1, o, none⟩ u).heap[k]? = W.heap[k]? := fun W o u k hk => Below.heap_setCell _ _ _ _ (by have := Hr2.out k hk; simp; omega)
            rw [Tm.turn_hit f binds i args s n m hmm HC.out, Hfx.out, HJ.out]
            have hLf := HLi.out.same (w' := w9) (Nat.le_of_eq (by rw [← hw9]; simp)) (fun q h1 _ _ => by rw [← hw9]; exact ((Below.heap_setCell _ _ _ _ (by simp; omega)).trans ((Below.heap_setCell _ _ _ _ (by simp; omega)).trans ((Below.heap_setCell _ _ _ _ (by simp; omega)).trans (Below.heap_setCell _ _ _ _ (by simp; omega))))))
            rw [hw9] at hA KR ⊢
            obtain ⟨Z9, hO, hFr⟩ := isOw_mk (U := fun q => w.heap.size ≤ q) ((hbi.out.keep KR).weaken (by decide) fun q _ h => ⟨by omega, h.2.2⟩) hA hLf (fun q h => h) (Nat.le_refl _) (fun q h1 _ => by omega) 0 jx
            rw [hL2] at hO
            refine ⟨_, _, _, _, Z9, rfl, hO.weaken (fun q hq h => ⟨h, hq⟩), hFr _ _ (by omega) (Nat.le_refl _), ?_, by rw [← hw9]; exact gb_setCell (gb_setCell (gb_setCell (gb_setCell hb (by simp) _) (by simp) _) (by simp) _) (by simp) _⟩
            rw [← hw9]
            · exact HT.out.keep _ _ _ hst2 fun k hk => (hsetk _ _ _ k hk).trans ((hsetk _ _ _ k hk).trans ((hsetk _ _ _ k hk).trans (hsetk _ _ _ k hk)))
    · have HC : Hid (¬ m ≤ i) := hge
      go_enter Try.func79, Try.ntmps79
      go_wp2_with fail
      try rw [hmm]
      try rw [hs1]
      obtain ⟨w3, hw3⟩ : ∃ w3, (w.alloc (.cells #[.slice pa binds.length pc, .int .i64 0, .int .i64 i, .slice a args.length c] 34)).alloc (.cells #[.slice none 0 0, .int .i64 0, .int .i64 0, .slice none 0 0] 34) = w3 := ⟨_, rfl⟩
      have B3 : Below w.heap.size w w3 := by rw [← hw3]; exact ((Below.refl _ _).alloc (Nat.le_refl _) _).alloc (by simp) _
      have x0 : Blk w3 w.heap.size #[.slice pa binds.length pc, .int .i64 0, .int .i64 i, .slice a args.length c] 34 := by rw [← hw3]; exact (Blk.new _ _ _ rfl).alloc _
      have x2 : Blk w3 (w.heap.size + 1) #[.slice none 0 0, .int .i64 0, .int .i64 0, .slice none 0 0] 34 := by rw [← hw3]; exact Blk.new _ _ _ (by simp)
      have hsz1 : w3.heap.size = w.heap.size + 2 := by rw [← hw3]; simp
      try rw [hw3]
      clear hw3
      refine wp_region_noPanic (wp_region_need (S := fun w' => w'.cell? ⟨w.heap.size, 0, none⟩ = some (.slice pa binds.length pc) ∧ w'.cell? ⟨w.heap.size, 1, none⟩ = some (.int .i64 0) ∧ w'.cell? ⟨w.heap.size, 2, none⟩ = some (.int .i64 i)) (by kernel_rfl) ?_)
      have hS : (w3.drew).cell? ⟨w.heap.size, 0, none⟩ = some (.slice pa binds.length pc) ∧ (w3.drew).cell? ⟨w.heap.size, 1, none⟩ = some (.int .i64 0) ∧ (w3.drew).cell? ⟨w.heap.size, 2, none⟩ = some (.int .i64 i) := ⟨x0.drew.cell rfl, x0.drew.cell rfl, x0.drew.cell rfl⟩
      refine wpN_take (i := 0) (v := ?v12) rfl (by kernel_rfl) (fun _ _ _ h => h) hS (Or.inl ⟨by rfl, ?hy12⟩) ?hr12
      case hy12 => (intro wS hSw; (try dsimp only at hSw); go_simp; (try with_reducible rfl))
      try simp only [Act.put, List.setIfInBounds_toArray, List.set_cons_zero, List.set_cons_succ, List.getElem_toArray, List.getElem_cons_zero, List.getElem_cons_succ]
      refine wpN_take (i := 1) (v := ?v13) rfl (by kernel_rfl) (fun _ _ _ h => h) hS (Or.inl ⟨by rfl, ?hy13⟩) ?hr13
      case hy13 => (intro wS hSw; (try dsimp only at hSw); go_simp; (try with_reducible rfl))
      try simp only [Act.put, List.setIfInBounds_toArray, List.set_cons_zero, List.set_cons_succ, List.getElem_toArray, List.getElem_cons_zero, List.getElem_cons_succ]
      refine wpN_take (i := 2) (v := ?v14) rfl (by kernel_rfl) (fun _ _ _ h => h) hS (Or.inl ⟨by rfl, ?hy14⟩) ?hr14
      case hy14 => (intro wS hSw; (try dsimp only at hSw); go_simp; (try with_reducible rfl))
      try simp only [Act.put, List.setIfInBounds_toArray, List.set_cons_zero, List.set_cons_succ, List.getElem_toArray, List.getElem_cons_zero, List.getElem_cons_succ]
      refine wpN_take (i := 5) (v := ?v15) rfl (by kernel_rfl) (fun _ _ _ h => h) hS (Or.inl ⟨by rfl, ?hy15⟩) ?hr15
      case hy15 => (intro wS hSw; (try dsimp only at hSw); go_simp; (try with_reducible rfl))
      try simp only [Act.put, List.setIfInBounds_toArray, List.set_cons_zero, List.set_cons_succ, List.getElem_toArray, List.getElem_cons_zero, List.getElem_cons_succ]
      refine wpN_take (i := 6) (v := ?v16) rfl (by kernel_rfl) (fun _ _ _ h => h) hS (Or.inl ⟨by rfl, ?hy16⟩) ?hr16
      case hy16 => (intro wS hSw; (try dsimp only at hSw); go_simp; (try with_reducible rfl))
      try simp only [Act.put, List.setIfInBounds_toArray, List.set_cons_zero, List.set_cons_succ, List.getElem_toArray, List.getElem_cons_zero, List.getElem_cons_succ]
      refine wpN_gathersP [(3, 18), (4, 19), (7, 22), (8, 7)] 1 (fun j v x y w' => match j with
        | 3 => ∃ qa qc, v = .agg #[.slice qa binds.length qc, .int .i64 0] ∧ IsSl rpTy (fun q => x ≤ q ∧ q < y) w' (.slice qa binds.length qc) binds
        | 4 => True
        | 7 => True
        | _ => v = .pointer (some ⟨x, 0, none⟩) ∧ x < y ∧ Blk w' x #[.slice none 0 0, .int .i64 0, .int .i64 0, .slice none 0 0] 34) (fun j u => match j with
        | 4 => ∃ qa qc, u 3 = .agg #[.slice qa binds.length qc, .int .i64 0] ∧ u 4 = .slice qa binds.length qc
        | 7 => ∃ qa qc, u 4 = .slice qa binds.length qc ∧ u 7 = .agg #[.slice qa binds.length qc, .int .i64 0, .int .i64 i, .slice none 0 0]
        | _ => True) rfl rfl (by kernel_rfl) ?gst ?gst' hS ?gop ?gend
      case gst =>
        intro j v x y wa wb h hb
        split at h
        · obtain ⟨a, c, e, ht⟩ := h
          exact ⟨a, c, e, ht.keep ((Keep.refl _ _).below hb)⟩
        · trivial
        · trivial
        · exact ⟨h.1, h.2.1, h.2.2.below hb⟩
      case gst' =>
        intro j hj u u' hu h
        simp only [List.map_cons, List.map_nil, List.mem_cons, List.not_mem_nil, or_false] at hj
        rcases hj with rfl | rfl | rfl | rfl
        · trivial
        · obtain ⟨qa, qc, e1, e2⟩ := h
          exact ⟨qa, qc, (hu 3 (.inr (by kernel_rfl))).trans e1, (hu 4 (.inl rfl)).trans e2⟩
        · obtain ⟨qa, qc, e1, e2⟩ := h
          exact ⟨qa, qc, (hu 4 (.inr (by kernel_rfl))).trans e1, (hu 7 (.inl rfl)).trans e2⟩
        · trivial
      case gop =>
        intro x hx u w' hdep hB' hS'
        obtain ⟨q1, q2, q3⟩ := hS'
        have hbw : Below w3.heap.size w3 w' := (Below.refl _ _).drew.trans hB'
        simp only [List.mem_cons, List.not_mem_nil, or_false] at hx
        rcases hx with rfl | rfl | rfl | rfl
        · refine wpOp_step (i := 3) rfl (fun K hK => ?_)
          have hK := Lib.hid hK
          simp only [fills, List.foldl, Act.put, List.setIfInBounds_toArray, List.set_cons_zero, List.set_cons_succ, List.getElem_toArray, List.getElem_cons_zero, List.getElem_cons_succ]
          go_simp
          refine (Harr.out w' (B3.trans (hbw.mono B3.size))).mono ?_
          rintro e w6 ⟨s', b', rfl, hT, hb6⟩
          obtain ⟨qa, qc, rfl, rfl⟩ := hT.shape
          have hSl := hT.inv.2
          simp only [List.append_nil, args_mk', base_mk'] at hSl ⊢
          have hKp : Keep (fun _ => True) w' w6 := (Keep.refl _ _).below hb6
          exact hK.out _ _ ⟨_, rfl, ⟨_, _, rfl, hSl.weaken (by decide) fun q h1 h2 => ⟨h2, h1⟩⟩, trivial, hb6, hKp _ _ _ trivial q1, hKp _ _ _ trivial q2, hKp _ _ _ trivial q3⟩
        · obtain ⟨_, _, _, qa, qc, e1, _⟩ := hdep 3 (by simp) (by kernel_rfl)
          refine wpOp_step (i := 4) rfl (fun K hK => ?_)
          have hK := Lib.hid hK
          simp only [fills, List.foldl, Act.put, List.setIfInBounds_toArray, List.set_cons_zero, List.set_cons_succ, List.getElem_toArray, List.getElem_cons_zero, List.getElem_cons_succ]
          rw [e1]
          go_simp
          exact hK.out _ _ ⟨.slice qa binds.length qc, by simp only [fills, List.foldl, Act.put, List.setIfInBounds_toArray, List.set_cons_zero, List.set_cons_succ, List.getElem_toArray, List.getElem_cons_zero, List.getElem_cons_succ]; simp [upd, e1], trivial, ⟨qa, qc, e1, rfl⟩, Below.refl _ _, q1, q2, q3⟩
        · obtain ⟨⟨qa, qc, e0, e1⟩, _⟩ := hdep 4 (by simp) (by kernel_rfl)
          refine wpOp_step (i := 7) rfl (fun K hK => ?_)
          have hK := Lib.hid hK
          simp only [fills, List.foldl, Act.put, List.setIfInBounds_toArray, List.set_cons_zero, List.set_cons_succ, List.getElem_toArray, List.getElem_cons_zero, List.getElem_cons_succ]
          rw [e1]
          go_simp
          exact hK.out _ _ ⟨.agg #[.slice qa binds.length qc, .int .i64 0, .int .i64 i, .slice none 0 0], by simp only [fills, List.foldl, Act.put, List.setIfInBounds_toArray, List.set_cons_zero, List.set_cons_succ, List.getElem_toArray, List.getElem_cons_zero, List.getElem_cons_succ]; simp [upd, e1, e0], trivial, ⟨qa, qc, e1, rfl⟩, Below.refl _ _, q1, q2, q3⟩
        · refine wpOp_step (i := 8) rfl (fun K hK => ?_)
          have hK := Lib.hid hK
          simp only [fills, List.foldl, Act.put, List.setIfInBounds_toArray, List.set_cons_zero, List.set_cons_succ, List.getElem_toArray, List.getElem_cons_zero, List.getElem_cons_succ]
          go_simp
          have hb6 : Below w'.heap.size w' (w'.alloc (.cells #[.slice none 0 0, .int .i64 0, .int .i64 0, .slice none 0 0] 34)) := (Below.refl _ _).alloc (Nat.le_refl _) _
          have hKp : Keep (fun _ => True) w' (w'.alloc (.cells #[.slice none 0 0, .int .i64 0, .int .i64 0, .slice none 0 0] 34)) := (Keep.refl _ _).below hb6
          exact hK.out _ _ ⟨_, rfl, ⟨rfl, by simp, Blk.new _ _ _ rfl⟩, trivial, hb6, hKp _ _ _ trivial q1, hKp _ _ _ trivial q2, hKp _ _ _ trivial q3⟩
      case gend =>
        intro u lo hi w' hΦ hΨ hB' hS'
        have hbw : Below w3.heap.size w3 w' := (Below.refl _ _).drew.trans hB'
        obtain ⟨⟨qa, qc, e1, V1⟩, n1, m1, o1⟩ := hΦ.1 3 (by simp) rfl
        obtain ⟨⟨e2, r2, Z2⟩, n2, m2, o2⟩ := hΦ.1 8 (by simp) rfl
        obtain ⟨qa', qc', e3, e4⟩ := hΨ 4 (by simp)
        obtain ⟨qa2, qc2, e5, e6⟩ := hΨ 7 (by simp)
        obtain ⟨rfl, rfl⟩ : qa' = qa ∧ qc' = qc := by rw [e1] at e3; cases e3; exact ⟨rfl, rfl⟩
        obtain ⟨rfl, rfl⟩ : qa2 = qa' ∧ qc2 = qc' := by rw [e4] at e5; cases e5; exact ⟨rfl, rfl⟩
        clear e3 e5
        have k12 := hΦ.2 3 (by simp) 8 (by simp) rfl rfl (by decide)
        clear hΦ hΨ
        simp only [fills, List.foldl, Act.put, List.setIfInBounds_toArray, List.set_cons_zero, List.set_cons_succ, List.getElem_toArray, List.getElem_cons_zero, List.getElem_cons_succ]
        rw [e1, e2, e4, e6]
        clear e1 e2 e4 e6
        have hsz : w3.drew.heap.size = w3.heap.size := rfl
        rw [hsz, hsz1] at n1 n2
        generalize lo 8 = p at *
        have U1 := Lib.hid (V1.weaken (F' := fun q => w.heap.size + 2 ≤ q ∧ q ≠ p) (by decide) fun q _ h => ⟨by omega, by omega⟩)
        clear V1 k12 n1 m1 o1 m2 r2 o2 hsz
        have B2 := B3.trans (hbw.mono B3.size)
        have y0 := x0.below hbw
        have y2 := x2.below hbw
        have r0 : w'.cell? ⟨p, 0, none⟩ = some (.slice none 0 0) := Z2.cell rfl
        have r1 : w'.cell? ⟨p, 1, none⟩ = some (.int .i64 0) := Z2.cell rfl
        have r2 : w'.cell? ⟨p, 2, none⟩ = some (.int .i64 0) := Z2.cell rfl
        have r3 : w'.cell? ⟨p, 3, none⟩ = some (.slice none 0 0) := Z2.cell rfl
        have f0 := Z2.free 0
        have f1 := Z2.free 1
        have f2 := Z2.free 2
        have f3 := Z2.free 3
        refine wpN_step (i := 9) (by kernel_rfl) rfl (fun K hK => ?_)
        go_simp
        refine hK.out _ _ (fun h => absurd h (by decide)) ?_
        clear hK K
        try simp only [Act.put, List.setIfInBounds_toArray, List.set_cons_zero, List.set_cons_succ, List.getElem_toArray, List.getElem_cons_zero, List.getElem_cons_succ]
        refine wpN_done (by kernel_rfl) ?_
        refine NoPanic.normal ?_
        obtain ⟨w2, hw2⟩ : ∃ w2, ((((w'.setCell ⟨p, 0, none⟩ (.slice qa2 binds.length qc2)).setCell ⟨p, 1, none⟩ (.int .i64 0)).setCell ⟨p, 2, none⟩ (.int .i64 i)).setCell ⟨p, 3, none⟩ (.slice none 0 0)) = w2 := ⟨_, rfl⟩
        have hlp := Z2.lt
        have B5 : Below w.heap.size w w2 := by rw [← hw2]; exact ((((B2.setCell (by simp; omega) _).setCell (by simp; omega) _).setCell (by simp; omega) _).setCell (by simp; omega) _)
        have z0 : Blk w2 w.heap.size #[.slice pa binds.length pc, .int .i64 0, .int .i64 i, .slice a args.length c] 34 := by rw [← hw2]; exact ((((y0.far _ _ (by simp; omega)).far _ _ (by simp; omega)).far _ _ (by simp; omega)).far _ _ (by simp; omega))
        have z2 : Blk w2 (w.heap.size + 1) #[.slice none 0 0, .int .i64 0, .int .i64 0, .slice none 0 0] 34 := by rw [← hw2]; exact ((((y2.far _ _ (by simp; omega)).far _ _ (by simp; omega)).far _ _ (by simp; omega)).far _ _ (by simp; omega))
        have zp : Blk w2 p #[.slice qa2 binds.length qc2, .int .i64 0, .int .i64 i, .slice none 0 0] 34 := by rw [← hw2]; exact ((((Z2.set 0 _).set 1 _).set 2 _).set 3 _)
        have KU : Keep (fun q => w.heap.size + 2 ≤ q ∧ q ≠ p) w' w2 := by rw [← hw2]; exact ((((Keep.refl _ _).setCell _ _ (by simp)).setCell _ _ (by simp)).setCell _ _ (by simp)).setCell _ _ (by simp)
        have U2 := Lib.hid (U1.out.keep KU)
        rw [hw2]
        clear hw2 KU U1 y0 y2 Z2 r0 r1 r2 r3 f0 f1 f2 f3 B2 hbw hB' hS' hS x0 x2 B3 hlp
        have hlp2 := zp.lt
        obtain ⟨N2, hN2⟩ : ∃ n, w2.heap.size = n := ⟨_, rfl⟩
        have HN2 := Lib.hid hN2; clear hN2
        have hpN : p < N2 := by have := HN2.out; omega
        have St2 := Lib.hid (HT.out.keep s w w2 HSt.out fun k hk => B5.block k (Hrw.out k hk))
        have c01 : w2.cell? ⟨w.heap.size, 1, none⟩ = some (.int .i64 0) := z0.cell rfl
        have c02 : w2.cell? ⟨w.heap.size, 2, none⟩ = some (.int .i64 i) := z0.cell rfl
        have c03 : w2.cell? ⟨w.heap.size, 3, none⟩ = some (.slice a args.length c) := z0.cell rfl
        have U3 := Lib.hid (U2.out.weaken (F' := fun q => w.heap.size + 2 ≤ q ∧ q ≠ p ∧ q < N2) (by decide) fun q h1 h2 => ⟨h2.1, h2.2, by have := HN2.out; omega⟩)
        clear U2
        have Hr2 : Hid (∀ k, ro k → k < w.heap.size) := Hrw.out
        go_wp2_with fail
        have hrow : ∀ q, w.heap.size ≤ q → row ≠ some q := fun q hq e => by have := Hr2.out q (HT.out.sub q e); omega
        obtain ⟨w7, hw7⟩ : ∃ w7, w2 = w7 := ⟨_, rfl⟩
        have G7 := gb_below B5 row
        have s2 := z2
        have sp := zp
        have U7 := U3
        have St7 := St2
        have hs7 : N2 ≤ w2.heap.size := by have := HN2.out; omega
        rw [hw7] at G7 s2 sp U7 St7 hs7 ⊢
        clear hw7 B5 z0 z2 zp U3 c01 c02 c03 hlp2 St2
        have hrowN : Hid (∀ k, row = some k → ¬ (N2 ≤ k) ∧ k < N2) := fun k hk => by have := Hr2.out k (HT.out.sub k hk); omega
        have Hrow := Lib.hid hrow; clear hrow
        have hacc0 : Acc rpOw 34 N2 (fun q => N2 ≤ q) w7 (.slice none 0 0) [] := Acc.nil _ _ _ _ _
        try go_wp2_with fail
        go_loopw [48] (fun ii wr => ∃ (j : Nat) (v : Value), ii = .int .i64 j ∧ j ≤ args.length ∧ N2 ≤ wr.heap.size ∧
            w.grownBy wr row ∧ Blk wr (w.heap.size + 1) #[.slice none 0 0, .int .i64 0, .int .i64 0, .slice none 0 0] 34 ∧ Blk wr p #[.slice qa2 binds.length qc2, .int .i64 0, .int .i64 i, v] 34 ∧
            Hid (IsSl rpTy (fun q => w.heap.size + 2 ≤ q ∧ q ≠ p ∧ q < N2) wr (.slice qa2 binds.length qc2) binds) ∧ Hid (St (Tm.turns f (args.take j) s m).1 wr) ∧
            ∃ L : List OL, Hid (L.map (·.t) = (Tm.turns f (args.take j) s m).2) ∧ Hid (Lies wr N2 v L) ∧ Acc rpOw 34 N2 (fun q => N2 ≤ q) wr v L) (fun ii _ => args.length - (intOf ii).toNat)
        case atStart => exact ⟨0, _, rfl, by omega, hs7, G7, s2, sp, U7.out, St7.out, [], by show _ = _; rfl, Lies.nil _ _ _, hacc0⟩
        case round =>
          clear G7 s2 sp U7 hacc0 hs7 St7
          obtain ⟨j, v, rfl, hj, hsN, hb, hres, hout, hbi, hst, L, HLm, HLi, hacc⟩ := hrel
          have hszp := hout.lt
          have hszb := hres.lt
          have Hacc := Lib.hid hacc; clear hacc
          by_cases hlt : j < args.length
          · obtain ⟨rfl, hF⟩ := ha (by omega)
            clear ha
            have hkp : Keep F w0 wr := hw.grown hb fun k hk => HrF.out k hk
            have e1 := hkp _ _ _ hF (h1 j hlt)
            have e2 := hkp _ _ _ hF (h2 j hlt)
            have e3 := hkp _ _ _ hF (h3 j hlt)
            have e4 := hkp _ _ _ hF (h4 j hlt)
            have hlt0 : (0 : Int) ≤ (j : Int) := Int.natCast_nonneg _
            have hlt1 : (j : Int) < (args.length : Int) := by omega
            have Hl : Hid (L.length = j) := by show _ = _; have h0 : L.map (·.t) = _ := HLm; have := congrArg List.length h0; rw [List.length_map, Tm.turns_len, List.length_take] at this; omega
            have Hne : Hid (∀ q, q < N2 → v.ownBlock ≠ some q) := fun q hq e => by have := (Hacc.out.base_le q e).1; omega
            have Htk := Lib.hid (Tm.turns_take f args s m j hlt)
            have hblw : bl < wr.heap.size := Keep.lt e1
            go_wp2_with fail
            obtain ⟨wa, hwa⟩ : ∃ wa, wr.alloc (.cells #[.slice (PA j) (PN j) (PC j), .int .i64 (Kd j), .int .i64 (Ix j), .slice (A j) (N j) (C j)] 34) = wa := ⟨_, rfl⟩
            obtain ⟨qn, hqn⟩ : ∃ qn, wr.heap.size = qn := ⟨_, rfl⟩
            have ba : Below wr.heap.size wr wa := by rw [← hwa]; exact (Below.refl _ _).alloc (Nat.le_refl _) _
            have xa : Blk wa qn #[.slice (PA j) (PN j) (PC j), .int .i64 (Kd j), .int .i64 (Ix j), .slice (A j) (N j) (C j)] 34 := by rw [← hwa]; exact Blk.new _ _ _ hqn.symm
            have hba := gb_trans hb (gb_below ba row)
            have hresa := hres.below ba
            have houta := hout.below ba
            have Hacca := Lib.hid (Hacc.out.below ba)
            have hbia := Lib.hid (hbi.out.keep ((Keep.refl _ _).below ba))
            have hsta := Lib.hid (HT.out.keep _ _ _ hst.out fun k hk => ba.block k (by have := Hr2.out k hk; have := hb.size; omega))
            have HLia : Hid (Lies wa N2 v L) := HLi.out.same ba.size fun q _ h2 _ => ba.block q h2
            have hown : Hid (v.ownBlock ≠ some qn) := fun e => by have := (Hacc.out.base_le qn e).2; omega
            have hsNa : N2 ≤ wa.heap.size := Nat.le_trans hsN ba.size
            have hqN : N2 ≤ qn := by omega
            try rw [hwa]
            try rw [hqn]
            clear HLi hwa hqn ba hb hres hout Hacc hbi hst hsN hszp hszb hblw e1 e2 e3 e4 hkp
            have hszp := houta.lt
            have hszb := hresa.lt
            refine wp_region_noPanic (wp_region_need (S := fun w' => w'.cell? ⟨p, 3, none⟩ = some v ∧ w'.cell? ⟨qn, 0, none⟩ = some (.slice (PA j) (PN j) (PC j)) ∧ w'.cell? ⟨qn, 1, none⟩ = some (.int .i64 (Kd j)) ∧ w'.cell? ⟨qn, 2, none⟩ = some (.int .i64 (Ix j)) ∧ w'.cell? ⟨qn, 3, none⟩ = some (.slice (A j) (N j) (C j))) (by kernel_rfl) ?_)
            have hS : (wa.drew).cell? ⟨p, 3, none⟩ = some v ∧ (wa.drew).cell? ⟨qn, 0, none⟩ = some (.slice (PA j) (PN j) (PC j)) ∧ (wa.drew).cell? ⟨qn, 1, none⟩ = some (.int .i64 (Kd j)) ∧ (wa.drew).cell? ⟨qn, 2, none⟩ = some (.int .i64 (Ix j)) ∧ (wa.drew).cell? ⟨qn, 3, none⟩ = some (.slice (A j) (N j) (C j)) := ⟨houta.drew.cell rfl, xa.drew.cell rfl, xa.drew.cell rfl, xa.drew.cell rfl, xa.drew.cell rfl⟩
            refine wpN_take (i := 0) (v := ?v17) rfl (by kernel_rfl) (fun _ _ _ h => h) hS (Or.inl ⟨by rfl, ?hy17⟩) ?hr17
            case hy17 => (intro wS hSw; (try dsimp only at hSw); go_simp; (try with_reducible rfl))
            try simp only [Act.put, List.setIfInBounds_toArray, List.set_cons_zero, List.set_cons_succ, List.getElem_toArray, List.getElem_cons_zero, List.getElem_cons_succ]
            refine wpN_take (i := 1) (v := ?v18) rfl (by kernel_rfl) (fun _ _ _ h => h) hS (Or.inl ⟨by rfl, ?hy18⟩) ?hr18
            case hy18 => (intro wS hSw; (try dsimp only at hSw); go_simp; (try with_reducible rfl))
            try simp only [Act.put, List.setIfInBounds_toArray, List.set_cons_zero, List.set_cons_succ, List.getElem_toArray, List.getElem_cons_zero, List.getElem_cons_succ]
            refine wpN_take (i := 2) (v := ?v19) rfl (by kernel_rfl) (fun _ _ _ h => h) hS (Or.inl ⟨by rfl, ?hy19⟩) ?hr19
            case hy19 => (intro wS hSw; (try dsimp only at hSw); go_simp; (try with_reducible rfl))
            try simp only [Act.put, List.setIfInBounds_toArray, List.set_cons_zero, List.set_cons_succ, List.getElem_toArray, List.getElem_cons_zero, List.getElem_cons_succ]
            refine wpN_take (i := 3) (v := ?v20) rfl (by kernel_rfl) (fun _ _ _ h => h) hS (Or.inl ⟨by rfl, ?hy20⟩) ?hr20
            case hy20 => (intro wS hSw; (try dsimp only at hSw); go_simp; (try with_reducible rfl))
            try simp only [Act.put, List.setIfInBounds_toArray, List.set_cons_zero, List.set_cons_succ, List.getElem_toArray, List.getElem_cons_zero, List.getElem_cons_succ]
            refine wpN_take (i := 4) (v := ?v21) rfl (by kernel_rfl) (fun _ _ _ h => h) hS (Or.inl ⟨by rfl, ?hy21⟩) ?hr21
            case hy21 => (intro wS hSw; (try dsimp only at hSw); go_simp; (try with_reducible rfl))
            try simp only [Act.put, List.setIfInBounds_toArray, List.set_cons_zero, List.set_cons_succ, List.getElem_toArray, List.getElem_cons_zero, List.getElem_cons_succ]
            refine wpN_step (i := 5) (by kernel_rfl) rfl (fun K hK => ?_)
            go_simp
            refine (Hih.out j hlt _ wa.drew (hw.grown hba fun k hk => HrF.out k hk).drew (fun k hk => by have := Hr2.out k hk; have := hba.size; simp at *; omega) (HT.out.keep _ _ _ hsta.out fun _ _ => rfl)).mono ?_
            rintro e w5 ⟨b', k', i', a', Z', rfl, hr1, hf1, hst5, hg5⟩
            have hg5' : wa.grownBy w5 row := gb_trans (gb_below (Below.refl _ _).drew row) hg5
            have hsg := hg5'.size
            have outa5 := houta.grown hg5' (Hrow.out _ (by omega))
            have resa5 := hresa.grown hg5' (Hrow.out _ (by omega))
            have xa5 := xa.grown hg5' (Hrow.out _ (by omega))
            have acc5 := Lib.hid (Hacca.out.other hg5' hrowN.out)
            have bi5 := Lib.hid (hbia.out.keep ((Keep.refl _ _).grown hg5' fun k hk hf => by have := Hr2.out k (HT.out.sub k hk); omega))
            have HLi5 : Hid (Lies w5 N2 v L) := HLia.out.same hsg fun q h1 h2 _ => hg5'.block q h2 fun e => Hrow.out q (by omega) e.symm
            have Hhi : Hid (∀ r ∈ L, r.hi ≤ wa.drew.heap.size) := HLia.out.hi
            have Hr1 := Lib.hid hr1
            have Hf1 := Lib.hid hf1
            clear hr1 hf1
            have G5 := gb_trans hba hg5'
            have Hst5 := Lib.hid hst5; clear hst5
            clear houta hresa xa hbia hba hszp hszb hsta
            have hS : (w5).cell? ⟨p, 3, none⟩ = some v ∧ (w5).cell? ⟨qn, 0, none⟩ = some (.slice (PA j) (PN j) (PC j)) ∧ (w5).cell? ⟨qn, 1, none⟩ = some (.int .i64 (Kd j)) ∧ (w5).cell? ⟨qn, 2, none⟩ = some (.int .i64 (Ix j)) ∧ (w5).cell? ⟨qn, 3, none⟩ = some (.slice (A j) (N j) (C j)) := ⟨outa5.cell rfl, xa5.cell rfl, xa5.cell rfl, xa5.cell rfl, xa5.cell rfl⟩
            refine hK.out _ _ (fun _ => hS) ?_
            clear hK K
            try simp only [Act.put, List.setIfInBounds_toArray, List.set_cons_zero, List.set_cons_succ, List.getElem_toArray, List.getElem_cons_zero, List.getElem_cons_succ]
            refine wpN_step (i := 6) (by kernel_rfl) rfl (fun K hK => ?_)
            go_simp
            have hS : (w5.alloc (.cells #[b', k', i', a'] 34)).cell? ⟨p, 3, none⟩ = some v ∧ (w5.alloc (.cells #[b', k', i', a'] 34)).cell? ⟨qn, 0, none⟩ = some (.slice (PA j) (PN j) (PC j)) ∧ (w5.alloc (.cells #[b', k', i', a'] 34)).cell? ⟨qn, 1, none⟩ = some (.int .i64 (Kd j)) ∧ (w5.alloc (.cells #[b', k', i', a'] 34)).cell? ⟨qn, 2, none⟩ = some (.int .i64 (Ix j)) ∧ (w5.alloc (.cells #[b', k', i', a'] 34)).cell? ⟨qn, 3, none⟩ = some (.slice (A j) (N j) (C j)) := ⟨(outa5.alloc _).cell rfl, (xa5.alloc _).cell rfl, (xa5.alloc _).cell rfl, (xa5.alloc _).cell rfl, (xa5.alloc _).cell rfl⟩
            refine hK.out _ _ (fun _ => hS) ?_
            clear hK K
            try simp only [Act.put, List.setIfInBounds_toArray, List.set_cons_zero, List.set_cons_succ, List.getElem_toArray, List.getElem_cons_zero, List.getElem_cons_succ]
            refine wpN_step (i := 7) (by kernel_rfl) rfl (fun K hK => ?_)
            refine step_push rpOw (by decide) (by rfl) _ _ _ (by rfl) N2 34 i2 _ 64 Try.underlying32 hi2 hz0 hz1 hz2 rfl (by decide)
                   (fun q => N2 ≤ q) v L (by rfl) (acc5.out.alloc _) (by rw [Hl.out]; omega)
                   w5.heap.size _ [b', k', i', a'] ⟨(Tm.turn f args[j] (Tm.turns f (args.take j) s m).1 m).2, wa.drew.heap.size, w5.heap.size, Z'⟩ (by rfl) (heap_alloc_new _ _) ⟨_, _, _, _, rfl, (Hr1.out.weaken fun q _ hq => ⟨hq, Nat.le_trans (show N2 ≤ wa.drew.heap.size from hsNa) hq.1, fun e => by have := (Hacca.out.base_le q e).2; exact absurd this (Nat.not_lt.2 hq.1)⟩).keep ((Keep.refl _ _).alloc _)⟩ (by have := hsg; simp at *; omega) ?_
            intro gg cap w6 hacc2 hgrow hat hlt2
            have hba5 : Below w5.heap.size w5 (w5.alloc (.cells #[b', k', i', a'] 34)) := (Below.refl _ _).alloc (Nat.le_refl _) _
            have HLi6 := Lib.hid ((HLi5.out.same hba5.size fun q _ h2 _ => hba5.block q h2).push (l := ⟨(Tm.turn f args[j] (Tm.turns f (args.take j) s m).1 m).2, wa.drew.heap.size, w5.heap.size, Z'⟩) (v' := .slice (some ⟨gg, 0, none⟩) (L.length + 1) cap) hsNa hba5.size (Hf1.out.same fun q _ h2 => hba5.block q h2) Hhi.out (fun g e => (Hacca.out.base_le g e).2) hgrow (fun g e => by cases e; exact hat))
            clear hba5
            have o2 := (outa5.alloc _).grown hgrow (Hne.out _ (by omega))
            have o1 := (resa5.alloc _).grown hgrow (Hne.out _ (by omega))
            have oq := (xa5.alloc _).grown hgrow hown.out
            have bi6 := Lib.hid (((bi5.out.keep ((Keep.refl _ _).alloc _)).weaken (F' := fun q => (w.heap.size + 2 ≤ q ∧ q ≠ p ∧ q < N2) ∧ v.ownBlock ≠ some q) (by decide) fun q _ h => ⟨h, Hne.out q h.2.2⟩).keep ((Keep.refl _ _).grown hgrow fun k hk hf => hf.2 hk))
            have G6 := gb_grown (gb_trans G5 (gb_below ((Below.refl _ _).alloc (Nat.le_refl _) _) row)) hgrow (fun q hq => by have := (Hacca.out.base_le q hq).1; omega)
            have st6 := Lib.hid (HT.out.keep _ _ _ Hst5.out fun k hk => ((hgrow.block k (by have := Hr2.out k hk; have := G5.size; simp; omega) (fun e => Hne.out k (by have := Hr2.out k hk; omega) e.symm)).trans (Below.heap_alloc _ _ _ (by have := Hr2.out k hk; have := G5.size; omega))))
            have hS : (w6).cell? ⟨p, 3, none⟩ = some v ∧ (w6).cell? ⟨qn, 0, none⟩ = some (.slice (PA j) (PN j) (PC j)) ∧ (w6).cell? ⟨qn, 1, none⟩ = some (.int .i64 (Kd j)) ∧ (w6).cell? ⟨qn, 2, none⟩ = some (.int .i64 (Ix j)) ∧ (w6).cell? ⟨qn, 3, none⟩ = some (.slice (A j) (N j) (C j)) := ⟨o2.cell (i := 3) rfl, oq.cell rfl, oq.cell rfl, oq.cell rfl, oq.cell rfl⟩
            have p2 := o2.free 3
            have Hacc2 := Lib.hid hacc2; clear hacc2
            refine hK.out _ _ (fun _ => hS) ?_
            clear hK K
            try simp only [Act.put, List.setIfInBounds_toArray, List.set_cons_zero, List.set_cons_succ, List.getElem_toArray, List.getElem_cons_zero, List.getElem_cons_succ]
            refine wpN_take (i := 8) (v := ?v22) rfl (by kernel_rfl) (fun _ _ _ h => h) hS (Or.inl ⟨by rfl, ?hy22⟩) ?hr22
            case hy22 => (intro wS hSw; (try dsimp only at hSw); go_simp; (try with_reducible rfl))
            try simp only [Act.put, List.setIfInBounds_toArray, List.set_cons_zero, List.set_cons_succ, List.getElem_toArray, List.getElem_cons_zero, List.getElem_cons_succ]
            refine wpN_step (i := 9) (by kernel_rfl) rfl (fun K hK => ?_)
            go_simp
            refine hK.out _ _ (fun h => absurd h (by decide)) ?_
            clear hK K
            try simp only [Act.put, List.setIfInBounds_toArray, List.set_cons_zero, List.set_cons_succ, List.getElem_toArray, List.getElem_cons_zero, List.getElem_cons_succ]
            refine wpN_done (by kernel_rfl) ?_
            refine NoPanic.normal ?_
            have hs6 : N2 ≤ w6.heap.size := by have := hgrow.size; simp at *; omega
            clear o1 oq
            have o1 := (resa5.alloc _).grown hgrow (Hne.out _ (by omega))
            go_wp2_with fail
            refine ⟨⟨j + 1, _, by go_num, by omega, by simpa using hs6, gb_setCell G6 (by simp <;> omega) _, o1.far _ _ (by simp <;> omega), o2.set 3 _, ?_, ?_, ?_⟩, by simp [intOf]; omega⟩
            · exact ((bi6.out.weaken (F' := fun q => w.heap.size + 2 ≤ q ∧ q ≠ p ∧ q < N2) (by decide) fun q _ h => h.1).keep ((Keep.refl _ _).setCell _ _ (by simp)))
            · show St _ _
              rw [Htk.out]
              exact HT.out.keep _ _ _ st6.out fun k hk => Below.heap_setCell _ _ _ _ (by have := Hr2.out k hk; simp; omega)
            · refine ⟨_, ?_, ?_, Hacc2.out.setCell ⟨p, 3, none⟩ _ (by simp <;> omega) (by simp <;> omega)⟩
              · show _ = _
                have h0 : L.map (·.t) = _ := HLm
                rw [Htk.out, List.map_append, h0]; rfl
              · exact HLi6.out.same (by simp) fun q h1 _ _ => Below.heap_setCell _ _ _ _ (by simp; omega)
          · obtain ⟨va, vc, hv⟩ := Hacc.out.len_shape
            rw [show L.length = j from by have h0 : L.map (·.t) = _ := HLm; have := congrArg List.length h0; rw [List.length_map, Tm.turns_len, List.length_take] at this; omega] at hv
            subst hv
            have d1 : wr.cell? ⟨p, 0, none⟩ = some (.slice qa2 binds.length qc2) := hout.cell rfl
            have d2 : wr.cell? ⟨p, 1, none⟩ = some (.int .i64 0) := hout.cell rfl
            have d3 : wr.cell? ⟨p, 2, none⟩ = some (.int .i64 i) := hout.cell rfl
            have d4 : wr.cell? ⟨p, 3, none⟩ = some (.slice va j vc) := hout.cell rfl
            have r0 : wr.cell? ⟨w.heap.size + 1, 0, none⟩ = some (.slice none 0 0) := hres.cell rfl
            have r1 : wr.cell? ⟨w.heap.size + 1, 1, none⟩ = some (.int .i64 0) := hres.cell rfl
            have r2 : wr.cell? ⟨w.heap.size + 1, 2, none⟩ = some (.int .i64 0) := hres.cell rfl
            have r3 : wr.cell? ⟨w.heap.size + 1, 3, none⟩ = some (.slice none 0 0) := hres.cell rfl
            have f0 := hres.free 0
            have f1 := hres.free 1
            have f2 := hres.free 2
            have f3 := hres.free 3
            go_wp2_with fail
            refine bodyPost_ret (v := .agg #[.slice qa2 binds.length qc2, .int .i64 0, .int .i64 i, .slice va j vc]) (by simp [results, Try.results79, go_sem, r0, r1, r2, r3]) rfl ?_
            have h := Hacc.out
            have hst2 := hst.out
            have hL2 : L.map (·.t) = _ := HLm
            rw [List.take_of_length_le (by omega)] at hL2 hst2
            obtain ⟨w9, hw9⟩ : ∃ w9, ((((wr.setCell ⟨w.heap.size + 1, 0, none⟩ (.slice qa2 binds.length qc2)).setCell ⟨w.heap.size + 1, 1, none⟩ (.int .i64 0)).setCell ⟨w.heap.size + 1, 2, none⟩ (.int .i64 i)).setCell ⟨w.heap.size + 1, 3, none⟩ (.slice va j vc)) = w9 := ⟨_, rfl⟩
            have hA := (((h.setCell ⟨w.heap.size + 1, 0, none⟩ (.slice qa2 binds.length qc2) (by simp <;> omega) (by simp <;> omega)).setCell ⟨w.heap.size + 1, 1, none⟩ (.int .i64 0) (by simp <;> omega) (by simp <;> omega)).setCell ⟨w.heap.size + 1, 2, none⟩ (.int .i64 i) (by simp <;> omega) (by simp <;> omega)).setCell ⟨w.heap.size + 1, 3, none⟩ (.slice va j vc) (by simp <;> omega) (by simp <;> omega)
            have KR := (((((Keep.refl (fun q => w.heap.size + 2 ≤ q ∧ q ≠ p ∧ q < N2) wr).setCell ⟨w.heap.size + 1, 0, none⟩ (.slice qa2 binds.length qc2) (by simp <;> omega)).setCell ⟨w.heap.size + 1, 1, none⟩ (.int .i64 0) (by simp <;> omega)).setCell ⟨w.heap.size + 1, 2, none⟩ (.int .i64 i) (by simp <;> omega)).setCell ⟨w.heap.size + 1, 3, none⟩ (.slice va j vc) (by simp <;> omega))
            have hsetk : ∀ (W : World) (o : Nat) (u : Value) (k : Nat), ro k → (W.setCell ⟨w.heap.size + 1, o, none⟩ u).heap[k]? = W.heap[k]? := fun W o u k hk => Below.heap_setCell _ _ _ _ (by have := Hr2.out k hk; simp; omega)
            rw [Tm.turn_miss f binds 0 i args s n m hmm (fun h => absurd h.2 (by have := HC.out; omega))]
            have hLf := HLi.out.same (w' := w9) (Nat.le_of_eq (by rw [← hw9]; simp)) (fun q h1 _ _ => by rw [← hw9]; exact ((Below.heap_setCell _ _ _ _ (by simp; omega)).trans ((Below.heap_setCell _ _ _ _ (by simp; omega)).trans ((Below.heap_setCell _ _ _ _ (by simp; omega)).trans (Below.heap_setCell _ _ _ _ (by simp; omega))))))
            rw [hw9] at hA KR ⊢
            obtain ⟨Z9, hO, hFr⟩ := isOw_mk (U := fun q => w.heap.size ≤ q) ((hbi.out.keep KR).weaken (by decide) fun q _ h => ⟨by omega, h.2.2⟩) hA hLf (fun q h => h) (Nat.le_refl _) (fun q h1 _ => by omega) 0 i
            rw [hL2] at hO
            refine ⟨_, _, _, _, Z9, rfl, hO.weaken (fun q hq h => ⟨h, hq⟩), hFr _ _ (by omega) (Nat.le_refl _), ?_, by rw [← hw9]; exact gb_setCell (gb_setCell (gb_setCell (gb_setCell hb (by simp) _) (by simp) _) (by simp) _) (by simp) _⟩
            rw [← hw9]
            · exact HT.out.keep _ _ _ hst2 fun k hk => (hsetk _ _ _ k hk).trans ((hsetk _ _ _ k hk).trans ((hsetk _ _ _ k hk).trans (hsetk _ _ _ k hk)))
  · have hk0 : (k == 0) = false := by simpa using hk
    go_enter Try.func79, Try.ntmps79
    go_wp2_with fail
    try rw [hmm]
    try rw [hs1]
    obtain ⟨w3, hw3⟩ : ∃ w3, (w.alloc (.cells #[.slice pa binds.length pc, .int .i64 k, .int .i64 i, .slice a args.length c] 34)).alloc (.cells #[.slice none 0 0, .int .i64 0, .int .i64 0, .slice none 0 0] 34) = w3 := ⟨_, rfl⟩
    have B3 : Below w.heap.size w w3 := by rw [← hw3]; exact ((Below.refl _ _).alloc (Nat.le_refl _) _).alloc (by simp) _
    have x0 : Blk w3 w.heap.size #[.slice pa binds.length pc, .int .i64 k, .int .i64 i, .slice a args.length c] 34 := by rw [← hw3]; exact (Blk.new _ _ _ rfl).alloc _
    have x2 : Blk w3 (w.heap.size + 1) #[.slice none 0 0, .int .i64 0, .int .i64 0, .slice none 0 0] 34 := by rw [← hw3]; exact Blk.new _ _ _ (by simp)
    have hsz1 : w3.heap.size = w.heap.size + 2 := by rw [← hw3]; simp
    try rw [hw3]
    clear hw3
    refine wp_region_noPanic (wp_region_need (S := fun w' => w'.cell? ⟨w.heap.size, 0, none⟩ = some (.slice pa binds.length pc) ∧ w'.cell? ⟨w.heap.size, 1, none⟩ = some (.int .i64 k) ∧ w'.cell? ⟨w.heap.size, 2, none⟩ = some (.int .i64 i)) (by kernel_rfl) ?_)
    have hS : (w3.drew).cell? ⟨w.heap.size, 0, none⟩ = some (.slice pa binds.length pc) ∧ (w3.drew).cell? ⟨w.heap.size, 1, none⟩ = some (.int .i64 k) ∧ (w3.drew).cell? ⟨w.heap.size, 2, none⟩ = some (.int .i64 i) := ⟨x0.drew.cell rfl, x0.drew.cell rfl, x0.drew.cell rfl⟩
    refine wpN_take (i := 0) (v := ?v23) rfl (by kernel_rfl) (fun _ _ _ h => h) hS (Or.inl ⟨by rfl, ?hy23⟩) ?hr23
    case hy23 => (intro wS hSw; (try dsimp only at hSw); go_simp; (try with_reducible rfl))
    try simp only [Act.put, List.setIfInBounds_toArray, List.set_cons_zero, List.set_cons_succ, List.getElem_toArray, List.getElem_cons_zero, List.getElem_cons_succ]
    refine wpN_take (i := 1) (v := ?v24) rfl (by kernel_rfl) (fun _ _ _ h => h) hS (Or.inl ⟨by rfl, ?hy24⟩) ?hr24
    case hy24 => (intro wS hSw; (try dsimp only at hSw); go_simp; (try with_reducible rfl))
    try simp only [Act.put, List.setIfInBounds_toArray, List.set_cons_zero, List.set_cons_succ, List.getElem_toArray, List.getElem_cons_zero, List.getElem_cons_succ]
    refine wpN_take (i := 2) (v := ?v25) rfl (by kernel_rfl) (fun _ _ _ h => h) hS (Or.inl ⟨by rfl, ?hy25⟩) ?hr25
    case hy25 => (intro wS hSw; (try dsimp only at hSw); go_simp; (try with_reducible rfl))
    try simp only [Act.put, List.setIfInBounds_toArray, List.set_cons_zero, List.set_cons_succ, List.getElem_toArray, List.getElem_cons_zero, List.getElem_cons_succ]
    refine wpN_take (i := 5) (v := ?v26) rfl (by kernel_rfl) (fun _ _ _ h => h) hS (Or.inl ⟨by rfl, ?hy26⟩) ?hr26
    case hy26 => (intro wS hSw; (try dsimp only at hSw); go_simp; (try with_reducible rfl))
    try simp only [Act.put, List.setIfInBounds_toArray, List.set_cons_zero, List.set_cons_succ, List.getElem_toArray, List.getElem_cons_zero, List.getElem_cons_succ]
    refine wpN_take (i := 6) (v := ?v27) rfl (by kernel_rfl) (fun _ _ _ h => h) hS (Or.inl ⟨by rfl, ?hy27⟩) ?hr27
    case hy27 => (intro wS hSw; (try dsimp only at hSw); go_simp; (try with_reducible rfl))
    try simp only [Act.put, List.setIfInBounds_toArray, List.set_cons_zero, List.set_cons_succ, List.getElem_toArray, List.getElem_cons_zero, List.getElem_cons_succ]
    refine wpN_gathersP [(3, 18), (4, 19), (7, 22), (8, 7)] 1 (fun j v x y w' => match j with
      | 3 => ∃ qa qc, v = .agg #[.slice qa binds.length qc, .int .i64 0] ∧ IsSl rpTy (fun q => x ≤ q ∧ q < y) w' (.slice qa binds.length qc) binds
      | 4 => True
      | 7 => True
      | _ => v = .pointer (some ⟨x, 0, none⟩) ∧ x < y ∧ Blk w' x #[.slice none 0 0, .int .i64 0, .int .i64 0, .slice none 0 0] 34) (fun j u => match j with
      | 4 => ∃ qa qc, u 3 = .agg #[.slice qa binds.length qc, .int .i64 0] ∧ u 4 = .slice qa binds.length qc
      | 7 => ∃ qa qc, u 4 = .slice qa binds.length qc ∧ u 7 = .agg #[.slice qa binds.length qc, .int .i64 k, .int .i64 i, .slice none 0 0]
      | _ => True) rfl rfl (by kernel_rfl) ?gst ?gst' hS ?gop ?gend
    case gst =>
      intro j v x y wa wb h hb
      split at h
      · obtain ⟨a, c, e, ht⟩ := h
        exact ⟨a, c, e, ht.keep ((Keep.refl _ _).below hb)⟩
      · trivial
      · trivial
      · exact ⟨h.1, h.2.1, h.2.2.below hb⟩
    case gst' =>
      intro j hj u u' hu h
      simp only [List.map_cons, List.map_nil, List.mem_cons, List.not_mem_nil, or_false] at hj
      rcases hj with rfl | rfl | rfl | rfl
      · trivial
      · obtain ⟨qa, qc, e1, e2⟩ := h
        exact ⟨qa, qc, (hu 3 (.inr (by kernel_rfl))).trans e1, (hu 4 (.inl rfl)).trans e2⟩
      · obtain ⟨qa, qc, e1, e2⟩ := h
        exact ⟨qa, qc, (hu 4 (.inr (by kernel_rfl))).trans e1, (hu 7 (.inl rfl)).trans e2⟩
      · trivial
    case gop =>
      intro x hx u w' hdep hB' hS'
      obtain ⟨q1, q2, q3⟩ := hS'
      have hbw : Below w3.heap.size w3 w' := (Below.refl _ _).drew.trans hB'
      simp only [List.mem_cons, List.not_mem_nil, or_false] at hx
      rcases hx with rfl | rfl | rfl | rfl
      · refine wpOp_step (i := 3) rfl (fun K hK => ?_)
        have hK := Lib.hid hK
        simp only [fills, List.foldl, Act.put, List.setIfInBounds_toArray, List.set_cons_zero, List.set_cons_succ, List.getElem_toArray, List.getElem_cons_zero, List.getElem_cons_succ]
        go_simp
        refine (Harr.out w' (B3.trans (hbw.mono B3.size))).mono ?_
        rintro e w6 ⟨s', b', rfl, hT, hb6⟩
        obtain ⟨qa, qc, rfl, rfl⟩ := hT.shape
        have hSl := hT.inv.2
        simp only [List.append_nil, args_mk', base_mk'] at hSl ⊢
        have hKp : Keep (fun _ => True) w' w6 := (Keep.refl _ _).below hb6
        exact hK.out _ _ ⟨_, rfl, ⟨_, _, rfl, hSl.weaken (by decide) fun q h1 h2 => ⟨h2, h1⟩⟩, trivial, hb6, hKp _ _ _ trivial q1, hKp _ _ _ trivial q2, hKp _ _ _ trivial q3⟩
      · obtain ⟨_, _, _, qa, qc, e1, _⟩ := hdep 3 (by simp) (by kernel_rfl)
        refine wpOp_step (i := 4) rfl (fun K hK => ?_)
        have hK := Lib.hid hK
        simp only [fills, List.foldl, Act.put, List.setIfInBounds_toArray, List.set_cons_zero, List.set_cons_succ, List.getElem_toArray, List.getElem_cons_zero, List.getElem_cons_succ]
        rw [e1]
        go_simp
        exact hK.out _ _ ⟨.slice qa binds.length qc, by simp only [fills, List.foldl, Act.put, List.setIfInBounds_toArray, List.set_cons_zero, List.set_cons_succ, List.getElem_toArray, List.getElem_cons_zero, List.getElem_cons_succ]; simp [upd, e1], trivial, ⟨qa, qc, e1, rfl⟩, Below.refl _ _, q1, q2, q3⟩
      · obtain ⟨⟨qa, qc, e0, e1⟩, _⟩ := hdep 4 (by simp) (by kernel_rfl)
        refine wpOp_step (i := 7) rfl (fun K hK => ?_)
        have hK := Lib.hid hK
        simp only [fills, List.foldl, Act.put, List.setIfInBounds_toArray, List.set_cons_zero, List.set_cons_succ, List.getElem_toArray, List.getElem_cons_zero, List.getElem_cons_succ]
        rw [e1]
        go_simp
        exact hK.out _ _ ⟨.agg #[.slice qa binds.length qc, .int .i64 k, .int .i64 i, .slice none 0 0], by simp only [fills, List.foldl, Act.put, List.setIfInBounds_toArray, List.set_cons_zero, List.set_cons_succ, List.getElem_toArray, List.getElem_cons_zero, List.getElem_cons_succ]; simp [upd, e1, e0], trivial, ⟨qa, qc, e1, rfl⟩, Below.refl _ _, q1, q2, q3⟩
      · refine wpOp_step (i := 8) rfl (fun K hK => ?_)
        have hK := Lib.hid hK
        simp only [fills, List.foldl, Act.put, List.setIfInBounds_toArray, List.set_cons_zero, List.set_cons_succ, List.getElem_toArray, List.getElem_cons_zero, List.getElem_cons_succ]
        go_simp
        have hb6 : Below w'.heap.size w' (w'.alloc (.cells #[.slice none 0 0, .int .i64 0, .int .i64 0, .slice none 0 0] 34)) := (Below.refl _ _).alloc (Nat.le_refl _) _
        have hKp : Keep (fun _ => True) w' (w'.alloc (.cells #[.slice none 0 0, .int .i64 0, .int .i64 0, .slice none 0 0] 34)) := (Keep.refl _ _).below hb6
        exact hK.out _ _ ⟨_, rfl, ⟨rfl, by simp, Blk.new _ _ _ rfl⟩, trivial, hb6, hKp _ _ _ trivial q1, hKp _ _ _ trivial q2, hKp _ _ _ trivial q3⟩
    case gend =>
      intro u lo hi w' hΦ hΨ hB' hS'
      have hbw : Below w3.heap.size w3 w' := (Below.refl _ _).drew.trans hB'
      obtain ⟨⟨qa, qc, e1, V1⟩, n1, m1, o1⟩ := hΦ.1 3 (by simp) rfl
      obtain ⟨⟨e2, r2, Z2⟩, n2, m2, o2⟩ := hΦ.1 8 (by simp) rfl
      obtain ⟨qa', qc', e3, e4⟩ := hΨ 4 (by simp)
      obtain ⟨qa2, qc2, e5, e6⟩ := hΨ 7 (by simp)
      obtain ⟨rfl, rfl⟩ : qa' = qa ∧ qc' = qc := by rw [e1] at e3; cases e3; exact ⟨rfl, rfl⟩
      obtain ⟨rfl, rfl⟩ : qa2 = qa' ∧ qc2 = qc' := by rw [e4] at e5; cases e5; exact ⟨rfl, rfl⟩
      clear e3 e5
      have k12 := hΦ.2 3 (by simp) 8 (by simp) rfl rfl (by decide)
      clear hΦ hΨ
      simp only [fills, List.foldl, Act.put, List.setIfInBounds_toArray, List.set_cons_zero, List.set_cons_succ, List.getElem_toArray, List.getElem_cons_zero, List.getElem_cons_succ]
      rw [e1, e2, e4, e6]
      clear e1 e2 e4 e6
      have hsz : w3.drew.heap.size = w3.heap.size := rfl
      rw [hsz, hsz1] at n1 n2
      generalize lo 8 = p at *
      have U1 := Lib.hid (V1.weaken (F' := fun q => w.heap.size + 2 ≤ q ∧ q ≠ p) (by decide) fun q _ h => ⟨by omega, by omega⟩)
      clear V1 k12 n1 m1 o1 m2 r2 o2 hsz
      have B2 := B3.trans (hbw.mono B3.size)
      have y0 := x0.below hbw
      have y2 := x2.below hbw
      have r0 : w'.cell? ⟨p, 0, none⟩ = some (.slice none 0 0) := Z2.cell rfl
      have r1 : w'.cell? ⟨p, 1, none⟩ = some (.int .i64 0) := Z2.cell rfl
      have r2 : w'.cell? ⟨p, 2, none⟩ = some (.int .i64 0) := Z2.cell rfl
      have r3 : w'.cell? ⟨p, 3, none⟩ = some (.slice none 0 0) := Z2.cell rfl
      have f0 := Z2.free 0
      have f1 := Z2.free 1
      have f2 := Z2.free 2
      have f3 := Z2.free 3
      refine wpN_step (i := 9) (by kernel_rfl) rfl (fun K hK => ?_)
      go_simp
      refine hK.out _ _ (fun h => absurd h (by decide)) ?_
      clear hK K
      try simp only [Act.put, List.setIfInBounds_toArray, List.set_cons_zero, List.set_cons_succ, List.getElem_toArray, List.getElem_cons_zero, List.getElem_cons_succ]
      refine wpN_done (by kernel_rfl) ?_
      refine NoPanic.normal ?_
      obtain ⟨w2, hw2⟩ : ∃ w2, ((((w'.setCell ⟨p, 0, none⟩ (.slice qa2 binds.length qc2)).setCell ⟨p, 1, none⟩ (.int .i64 k)).setCell ⟨p, 2, none⟩ (.int .i64 i)).setCell ⟨p, 3, none⟩ (.slice none 0 0)) = w2 := ⟨_, rfl⟩
      have hlp := Z2.lt
      have B5 : Below w.heap.size w w2 := by rw [← hw2]; exact ((((B2.setCell (by simp; omega) _).setCell (by simp; omega) _).setCell (by simp; omega) _).setCell (by simp; omega) _)
      have z0 : Blk w2 w.heap.size #[.slice pa binds.length pc, .int .i64 k, .int .i64 i, .slice a args.length c] 34 := by rw [← hw2]; exact ((((y0.far _ _ (by simp; omega)).far _ _ (by simp; omega)).far _ _ (by simp; omega)).far _ _ (by simp; omega))
      have z2 : Blk w2 (w.heap.size + 1) #[.slice none 0 0, .int .i64 0, .int .i64 0, .slice none 0 0] 34 := by rw [← hw2]; exact ((((y2.far _ _ (by simp; omega)).far _ _ (by simp; omega)).far _ _ (by simp; omega)).far _ _ (by simp; omega))
      have zp : Blk w2 p #[.slice qa2 binds.length qc2, .int .i64 k, .int .i64 i, .slice none 0 0] 34 := by rw [← hw2]; exact ((((Z2.set 0 _).set 1 _).set 2 _).set 3 _)
      have KU : Keep (fun q => w.heap.size + 2 ≤ q ∧ q ≠ p) w' w2 := by rw [← hw2]; exact ((((Keep.refl _ _).setCell _ _ (by simp)).setCell _ _ (by simp)).setCell _ _ (by simp)).setCell _ _ (by simp)
      have U2 := Lib.hid (U1.out.keep KU)
      rw [hw2]
      clear hw2 KU U1 y0 y2 Z2 r0 r1 r2 r3 f0 f1 f2 f3 B2 hbw hB' hS' hS x0 x2 B3 hlp
      have hlp2 := zp.lt
      obtain ⟨N2, hN2⟩ : ∃ n, w2.heap.size = n := ⟨_, rfl⟩
      have HN2 := Lib.hid hN2; clear hN2
      have hpN : p < N2 := by have := HN2.out; omega
      have St2 := Lib.hid (HT.out.keep s w w2 HSt.out fun k hk => B5.block k (Hrw.out k hk))
      have c01 : w2.cell? ⟨w.heap.size, 1, none⟩ = some (.int .i64 k) := z0.cell rfl
      have c02 : w2.cell? ⟨w.heap.size, 2, none⟩ = some (.int .i64 i) := z0.cell rfl
      have c03 : w2.cell? ⟨w.heap.size, 3, none⟩ = some (.slice a args.length c) := z0.cell rfl
      have U3 := Lib.hid (U2.out.weaken (F' := fun q => w.heap.size + 2 ≤ q ∧ q ≠ p ∧ q < N2) (by decide) fun q h1 h2 => ⟨h2.1, h2.2, by have := HN2.out; omega⟩)
      clear U2
      have Hr2 : Hid (∀ k, ro k → k < w.heap.size) := Hrw.out
      go_wp2_with fail
      have hrow : ∀ q, w.heap.size ≤ q → row ≠ some q := fun q hq e => by have := Hr2.out q (HT.out.sub q e); omega
      obtain ⟨w7, hw7⟩ : ∃ w7, w2 = w7 := ⟨_, rfl⟩
      have G7 := gb_below B5 row
      have s2 := z2
      have sp := zp
      have U7 := U3
      have St7 := St2
      have hs7 : N2 ≤ w2.heap.size := by have := HN2.out; omega
      rw [hw7] at G7 s2 sp U7 St7 hs7 ⊢
      clear hw7 B5 z0 z2 zp U3 c01 c02 c03 hlp2 St2
      have hrowN : Hid (∀ k, row = some k → ¬ (N2 ≤ k) ∧ k < N2) := fun k hk => by have := Hr2.out k (HT.out.sub k hk); omega
      have Hrow := Lib.hid hrow; clear hrow
      have hacc0 : Acc rpOw 34 N2 (fun q => N2 ≤ q) w7 (.slice none 0 0) [] := Acc.nil _ _ _ _ _
      try go_wp2_with fail
      go_loopw [48] (fun ii wr => ∃ (j : Nat) (v : Value), ii = .int .i64 j ∧ j ≤ args.length ∧ N2 ≤ wr.heap.size ∧
          w.grownBy wr row ∧ Blk wr (w.heap.size + 1) #[.slice none 0 0, .int .i64 0, .int .i64 0, .slice none 0 0] 34 ∧ Blk wr p #[.slice qa2 binds.length qc2, .int .i64 k, .int .i64 i, v] 34 ∧
          Hid (IsSl rpTy (fun q => w.heap.size + 2 ≤ q ∧ q ≠ p ∧ q < N2) wr (.slice qa2 binds.length qc2) binds) ∧ Hid (St (Tm.turns f (args.take j) s m).1 wr) ∧
          ∃ L : List OL, Hid (L.map (·.t) = (Tm.turns f (args.take j) s m).2) ∧ Hid (Lies wr N2 v L) ∧ Acc rpOw 34 N2 (fun q => N2 ≤ q) wr v L) (fun ii _ => args.length - (intOf ii).toNat)
      case atStart => exact ⟨0, _, rfl, by omega, hs7, G7, s2, sp, U7.out, St7.out, [], by show _ = _; rfl, Lies.nil _ _ _, hacc0⟩
      case round =>
        clear G7 s2 sp U7 hacc0 hs7 St7
        obtain ⟨j, v, rfl, hj, hsN, hb, hres, hout, hbi, hst, L, HLm, HLi, hacc⟩ := hrel
        have hszp := hout.lt
        have hszb := hres.lt
        have Hacc := Lib.hid hacc; clear hacc
        by_cases hlt : j < args.length
        · obtain ⟨rfl, hF⟩ := ha (by omega)
          clear ha
          have hkp : Keep F w0 wr := hw.grown hb fun k hk => HrF.out k hk
          have e1 := hkp _ _ _ hF (h1 j hlt)
          have e2 := hkp _ _ _ hF (h2 j hlt)
          have e3 := hkp _ _ _ hF (h3 j hlt)
          have e4 := hkp _ _ _ hF (h4 j hlt)
          have hlt0 : (0 : Int) ≤ (j : Int) := Int.natCast_nonneg _
          have hlt1 : (j : Int) < (args.length : Int) := by omega
          have Hl : Hid (L.length = j) := by show _ = _; have h0 : L.map (·.t) = _ := HLm; have := congrArg List.length h0; rw [List.length_map, Tm.turns_len, List.length_take] at this; omega
          have Hne : Hid (∀ q, q < N2 → v.ownBlock ≠ some q) := fun q hq e => by have := (Hacc.out.base_le q e).1; omega
          have Htk := Lib.hid (Tm.turns_take f args s m j hlt)
          have hblw : bl < wr.heap.size := Keep.lt e1
          go_wp2_with fail
          obtain ⟨wa, hwa⟩ : ∃ wa, wr.alloc (.cells #[.slice (PA j) (PN j) (PC j), .int .i64 (Kd j), .int .i64 (Ix j), .slice (A j) (N j) (C j)] 34) = wa := ⟨_, rfl⟩
          obtain ⟨qn, hqn⟩ : ∃ qn, wr.heap.size = qn := ⟨_, rfl⟩
          have ba : Below wr.heap.size wr wa := by rw [← hwa]; exact (Below.refl _ _).alloc (Nat.le_refl _) _
          have xa : Blk wa qn #[.slice (PA j) (PN j) (PC j), .int .i64 (Kd j), .int .i64 (Ix j), .slice (A j) (N j) (C j)] 34 := by rw [← hwa]; exact Blk.new _ _ _ hqn.symm
          have hba := gb_trans hb (gb_below ba row)
          have hresa := hres.below ba
          have houta := hout.below ba
          have Hacca := Lib.hid (Hacc.out.below ba)
          have hbia := Lib.hid (hbi.out.keep ((Keep.refl _ _).below ba))
          have hsta := Lib.hid (HT.out.keep _ _ _ hst.out fun k hk => ba.block k (by have := Hr2.out k hk; have := hb.size; omega))
          have HLia : Hid (Lies wa N2 v L) := HLi.out.same ba.size fun q _ h2 _ => ba.block q h2
          have hown : Hid (v.ownBlock ≠ some qn) := fun e => by have := (Hacc.out.base_le qn e).2; omega
          have hsNa : N2 ≤ wa.heap.size := Nat.le_trans hsN ba.size
          have hqN : N2 ≤ qn := by omega
          try rw [hwa]
          try rw [hqn]
          clear HLi hwa hqn ba hb hres hout Hacc hbi hst hsN hszp hszb hblw e1 e2 e3 e4 hkp
          have hszp := houta.lt
          have hszb := hresa.lt
          refine wp_region_noPanic (wp_region_need (S := fun w' => w'.cell? ⟨p, 3, none⟩ = some v ∧ w'.cell? ⟨qn, 0, none⟩ = some (.slice (PA j) (PN j) (PC j)) ∧ w'.cell? ⟨qn, 1, none⟩ = some (.int .i64 (Kd j)) ∧ w'.cell? ⟨qn, 2, none⟩ = some (.int .i64 (Ix j)) ∧ w'.cell? ⟨qn, 3, none⟩ = some (.slice (A j) (N j) (C j))) (by kernel_rfl) ?_)
          have hS : (wa.drew).cell? ⟨p, 3, none⟩ = some v ∧ (wa.drew).cell? ⟨qn, 0, none⟩ = some (.slice (PA j) (PN j) (PC j)) ∧ (wa.drew).cell? ⟨qn, 1, none⟩ = some (.int .i64 (Kd j)) ∧ (wa.drew).cell? ⟨qn, 2, none⟩ = some (.int .i64 (Ix j)) ∧ (wa.drew).cell? ⟨qn, 3, none⟩ = some (.slice (A j) (N j) (C j)) := ⟨houta.drew.cell rfl, xa.drew.cell rfl, xa.drew.cell rfl, xa.drew.cell rfl, xa.drew.cell rfl⟩
          refine wpN_take (i := 0) (v := ?v28) rfl (by kernel_rfl) (fun _ _ _ h => h) hS (Or.inl ⟨by rfl, ?hy28⟩) ?hr28
          case hy28 => (intro wS hSw; (try dsimp only at hSw); go_simp; (try with_reducible rfl))
          try simp only [Act.put, List.setIfInBounds_toArray, List.set_cons_zero, List.set_cons_succ, List.getElem_toArray, List.getElem_cons_zero, List.getElem_cons_succ]
          refine wpN_take (i := 1) (v := ?v29) rfl (by kernel_rfl) (fun _ _ _ h => h) hS (Or.inl ⟨by rfl, ?hy29⟩) ?hr29
          case hy29 => (intro wS hSw; (try dsimp only at hSw); go_simp; (try with_reducible rfl))
          try simp only [Act.put, List.setIfInBounds_toArray, List.set_cons_zero, List.set_cons_succ, List.getElem_toArray, List.getElem_cons_zero, List.getElem_cons_succ]
          refine wpN_take (i := 2) (v := ?v30) rfl (by kernel_rfl) (fun _ _ _ h => h) hS (Or.inl ⟨by rfl, ?hy30⟩) ?hr30
          case hy30 => (intro wS hSw; (try dsimp only at hSw); go_simp; (try with_reducible rfl))
          try simp only [Act.put, List.setIfInBounds_toArray, List.set_cons_zero, List.set_cons_succ, List.getElem_toArray, List.getElem_cons_zero, List.getElem_cons_succ]
          refine wpN_take (i := 3) (v := ?v31) rfl (by kernel_rfl) (fun _ _ _ h => h) hS (Or.inl ⟨by rfl, ?hy31⟩) ?hr31
          case hy31 => (intro wS hSw; (try dsimp only at hSw); go_simp; (try with_reducible rfl))
          try simp only [Act.put, List.setIfInBounds_toArray, List.set_cons_zero, List.set_cons_succ, List.getElem_toArray, List.getElem_cons_zero, List.getElem_cons_succ]
          refine wpN_take (i := 4) (v := ?v32) rfl (by kernel_rfl) (fun _ _ _ h => h) hS (Or.inl ⟨by rfl, ?hy32⟩) ?hr32
          case hy32 => (intro wS hSw; (try dsimp only at hSw); go_simp; (try with_reducible rfl))
          try simp only [Act.put, List.setIfInBounds_toArray, List.set_cons_zero, List.set_cons_succ, List.getElem_toArray, List.getElem_cons_zero, List.getElem_cons_succ]
          refine wpN_step (i := 5) (by kernel_rfl) rfl (fun K hK => ?_)
          go_simp
          refine (Hih.out j hlt _ wa.drew (hw.grown hba fun k hk => HrF.out k hk).drew (fun k hk => by have := Hr2.out k hk; have := hba.size; simp at *; omega) (HT.out.keep _ _ _ hsta.out fun _ _ => rfl)).mono ?_
          rintro e w5 ⟨b', k', i', a', Z', rfl, hr1, hf1, hst5, hg5⟩
          have hg5' : wa.grownBy w5 row := gb_trans (gb_below (Below.refl _ _).drew row) hg5
          have hsg := hg5'.size
          have outa5 := houta.grown hg5' (Hrow.out _ (by omega))
          have resa5 := hresa.grown hg5' (Hrow.out _ (by omega))
          have xa5 := xa.grown hg5' (Hrow.out _ (by omega))
          have acc5 := Lib.hid (Hacca.out.other hg5' hrowN.out)
          have bi5 := Lib.hid (hbia.out.keep ((Keep.refl _ _).grown hg5' fun k hk hf => by have := Hr2.out k (HT.out.sub k hk); omega))
          have HLi5 : Hid (Lies w5 N2 v L) := HLia.out.same hsg fun q h1 h2 _ => hg5'.block q h2 fun e => Hrow.out q (by omega) e.symm
          have Hhi : Hid (∀ r ∈ L, r.hi ≤ wa.drew.heap.size) := HLia.out.hi
          have Hr1 := Lib.hid hr1
          have Hf1 := Lib.hid hf1
          clear hr1 hf1
          have G5 := gb_trans hba hg5'
          have Hst5 := Lib.hid hst5; clear hst5
          clear houta hresa xa hbia hba hszp hszb hsta
          have hS : (w5).cell? ⟨p, 3, none⟩ = some v ∧ (w5).cell? ⟨qn, 0, none⟩ = some (.slice (PA j) (PN j) (PC j)) ∧ (w5).cell? ⟨qn, 1, none⟩ = some (.int .i64 (Kd j)) ∧ (w5).cell? ⟨qn, 2, none⟩ = some (.int .i64 (Ix j)) ∧ (w5).cell? ⟨qn, 3, none⟩ = some (.slice (A j) (N j) (C j)) := ⟨outa5.cell rfl, xa5.cell rfl, xa5.cell rfl, xa5.cell rfl, xa5.cell rfl⟩
          refine hK.out _ _ (fun _ => hS) ?_
          clear hK K
          try simp only [Act.put, List.setIfInBounds_toArray, List.set_cons_zero, List.set_cons_succ, List.getElem_toArray, List.getElem_cons_zero, List.getElem_cons_succ]
          refine wpN_step (i := 6) (by kernel_rfl) rfl (fun K hK => ?_)
          go_simp
          have hS : (w5.alloc (.cells #[b', k', i', a'] 34)).cell? ⟨p, 3, none⟩ = some v ∧ (w5.alloc (.cells #[b', k', i', a'] 34)).cell? ⟨qn, 0, none⟩ = some (.slice (PA j) (PN j) (PC j)) ∧ (w5.alloc (.cells #[b', k', i', a'] 34)).cell? ⟨qn, 1, none⟩ = some (.int .i64 (Kd j)) ∧ (w5.alloc (.cells #[b', k', i', a'] 34)).cell? ⟨qn, 2, none⟩ = some (.int .i64 (Ix j)) ∧ (w5.alloc (.cells #[b', k', i', a'] 34)).cell? ⟨qn, 3, none⟩ = some (.slice (A j) (N j) (C j)) := ⟨(outa5.alloc _).cell rfl, (xa5.alloc _).cell rfl, (xa5.alloc _).cell rfl, (xa5.alloc _).cell rfl, (xa5.alloc _).cell rfl⟩
          refine hK.out _ _ (fun _ => hS) ?_
          clear hK K
          try simp only [Act.put, List.setIfInBounds_toArray, List.set_cons_zero, List.set_cons_succ, List.getElem_toArray, List.getElem_cons_zero, List.getElem_cons_succ]
          refine wpN_step (i := 7) (by kernel_rfl) rfl (fun K hK => ?_)
          refine step_push rpOw (by decide) (by rfl) _ _ _ (by rfl) N2 34 i2 _ 64 Try.underlying32 hi2 hz0 hz1 hz2 rfl (by decide)
                 (fun q => N2 ≤ q) v L (by rfl) (acc5.out.alloc _) (by rw [Hl.out]; omega)
                 w5.heap.size _ [b', k', i', a'] ⟨(Tm.turn f args[j] (Tm.turns f (args.take j) s m).1 m).2, wa.drew.heap.size, w5.heap.size, Z'⟩ (by rfl) (heap_alloc_new _ _) ⟨_, _, _, _, rfl, (Hr1.out.weaken fun q _ hq => ⟨hq, Nat.le_trans (show N2 ≤ wa.drew.heap.size from hsNa) hq.1, fun e => by have := (Hacca.out.base_le q e).2; exact absurd this (Nat.not_lt.2 hq.1)⟩).keep ((Keep.refl _ _).alloc _)⟩ (by have := hsg; simp at *; omega) ?_
          intro gg cap w6 hacc2 hgrow hat hlt2
          have hba5 : Below w5.heap.size w5 (w5.alloc (.cells #[b', k', i', a'] 34)) := (Below.refl _ _).alloc (Nat.le_refl _) _
          have HLi6 := Lib.hid ((HLi5.out.same hba5.size fun q _ h2 _ => hba5.block q h2).push (l := ⟨(Tm.turn f args[j] (Tm.turns f (args.take j) s m).1 m).2, wa.drew.heap.size, w5.heap.size, Z'⟩) (v' := .slice (some ⟨gg, 0, none⟩) (L.length + 1) cap) hsNa hba5.size (Hf1.out.same fun q _ h2 => hba5.block q h2) Hhi.out (fun g e => (Hacca.out.base_le g e).2) hgrow (fun g e => by cases e; exact hat))
          clear hba5
          have o2 := (outa5.alloc _).grown hgrow (Hne.out _ (by omega))
          have o1 := (resa5.alloc _).grown hgrow (Hne.out _ (by omega))
          have oq := (xa5.alloc _).grown hgrow hown.out
          have bi6 := Lib.hid (((bi5.out.keep ((Keep.refl _ _).alloc _)).weaken (F' := fun q => (w.heap.size + 2 ≤ q ∧ q ≠ p ∧ q < N2) ∧ v.ownBlock ≠ some q) (by decide) fun q _ h => ⟨h, Hne.out q h.2.2⟩).keep ((Keep.refl _ _).grown hgrow fun k hk hf => hf.2 hk))
          have G6 := gb_grown (gb_trans G5 (gb_below ((Below.refl _ _).alloc (Nat.le_refl _) _) row)) hgrow (fun q hq => by have := (Hacca.out.base_le q hq).1; omega)
          have st6 := Lib.hid (HT.out.keep _ _ _ Hst5.out fun k hk => ((hgrow.block k (by have := Hr2.out k hk; have := G5.size; simp; omega) (fun e => Hne.out k (by have := Hr2.out k hk; omega) e.symm)).trans (Below.heap_alloc _ _ _ (by have := Hr2.out k hk; have := G5.size; omega))))
          have hS : (w6).cell? ⟨p, 3, none⟩ = some v ∧ (w6).cell? ⟨qn, 0, none⟩ = some (.slice (PA j) (PN j) (PC j)) ∧ (w6).cell? ⟨qn, 1, none⟩ = some (.int .i64 (Kd j)) ∧ (w6).cell? ⟨qn, 2, none⟩ = some (.int .i64 (Ix j)) ∧ (w6).cell? ⟨qn, 3, none⟩ = some (.slice (A j) (N j) (C j)) := ⟨o2.cell (i := 3) rfl, oq.cell rfl, oq.cell rfl, oq.cell rfl, oq.cell rfl⟩
          have p2 := o2.free 3
          have Hacc2 := Lib.hid hacc2; clear hacc2
          refine hK.out _ _ (fun _ => hS) ?_
          clear hK K
          try simp only [Act.put, List.setIfInBounds_toArray, List.set_cons_zero, List.set_cons_succ, List.getElem_toArray, List.getElem_cons_zero, List.getElem_cons_succ]
          refine wpN_take (i := 8) (v := ?v33) rfl (by kernel_rfl) (fun _ _ _ h => h) hS (Or.inl ⟨by rfl, ?hy33⟩) ?hr33
          case hy33 => (intro wS hSw; (try dsimp only at hSw); go_simp; (try with_reducible rfl))
          try simp only [Act.put, List.setIfInBounds_toArray, List.set_cons_zero, List.set_cons_succ, List.getElem_toArray, List.getElem_cons_zero, List.getElem_cons_succ]
          refine wpN_step (i := 9) (by kernel_rfl) rfl (fun K hK => ?_)
          go_simp
          refine hK.out _ _ (fun h => absurd h (by decide)) ?_
          clear hK K
          try simp only [Act.put, List.setIfInBounds_toArray, List.set_cons_zero, List.set_cons_succ, List.getElem_toArray, List.getElem_cons_zero, List.getElem_cons_succ]
          refine wpN_done (by kernel_rfl) ?_
          refine NoPanic.normal ?_
          have hs6 : N2 ≤ w6.heap.size := by have := hgrow.size; simp at *; omega
          clear o1 oq
          have o1 := (resa5.alloc _).grown hgrow (Hne.out _ (by omega))
          go_wp2_with fail
          refine ⟨⟨j + 1, _, by go_num, by omega, by simpa using hs6, gb_setCell G6 (by simp <;> omega) _, o1.far _ _ (by simp <;> omega), o2.set 3 _, ?_, ?_, ?_⟩, by simp [intOf]; omega⟩
          · exact ((bi6.out.weaken (F' := fun q => w.heap.size + 2 ≤ q ∧ q ≠ p ∧ q < N2) (by decide) fun q _ h => h.1).keep ((Keep.refl _ _).setCell _ _ (by simp)))
          · show St _ _
            rw [Htk.out]
            exact HT.out.keep _ _ _ st6.out fun k hk => Below.heap_setCell _ _ _ _ (by have := Hr2.out k hk; simp; omega)
          · refine ⟨_, ?_, ?_, Hacc2.out.setCell ⟨p, 3, none⟩ _ (by simp <;> omega) (by simp <;> omega)⟩
            · show _ = _
              have h0 : L.map (·.t) = _ := HLm
              rw [Htk.out, List.map_append, h0]; rfl
            · exact HLi6.out.same (by simp) fun q h1 _ _ => Below.heap_setCell _ _ _ _ (by simp; omega)
        · obtain ⟨va, vc, hv⟩ := Hacc.out.len_shape
          rw [show L.length = j from by have h0 : L.map (·.t) = _ := HLm; have := congrArg List.length h0; rw [List.length_map, Tm.turns_len, List.length_take] at this; omega] at hv
          subst hv
          have d1 : wr.cell? ⟨p, 0, none⟩ = some (.slice qa2 binds.length qc2) := hout.cell rfl
          have d2 : wr.cell? ⟨p, 1, none⟩ = some (.int .i64 k) := hout.cell rfl
          have d3 : wr.cell? ⟨p, 2, none⟩ = some (.int .i64 i) := hout.cell rfl
          have d4 : wr.cell? ⟨p, 3, none⟩ = some (.slice va j vc) := hout.cell rfl
          have r0 : wr.cell? ⟨w.heap.size + 1, 0, none⟩ = some (.slice none 0 0) := hres.cell rfl
          have r1 : wr.cell? ⟨w.heap.size + 1, 1, none⟩ = some (.int .i64 0) := hres.cell rfl
          have r2 : wr.cell? ⟨w.heap.size + 1, 2, none⟩ = some (.int .i64 0) := hres.cell rfl
          have r3 : wr.cell? ⟨w.heap.size + 1, 3, none⟩ = some (.slice none 0 0) := hres.cell rfl
          have f0 := hres.free 0
          have f1 := hres.free 1
          have f2 := hres.free 2
          have f3 := hres.free 3
          go_wp2_with fail
          refine bodyPost_ret (v := .agg #[.slice qa2 binds.length qc2, .int .i64 k, .int .i64 i, .slice va j vc]) (by simp [results, Try.results79, go_sem, r0, r1, r2, r3]) rfl ?_
          have h := Hacc.out
          have hst2 := hst.out
          have hL2 : L.map (·.t) = _ := HLm
          rw [List.take_of_length_le (by omega)] at hL2 hst2
          obtain ⟨w9, hw9⟩ : ∃ w9, ((((wr.setCell ⟨w.heap.size + 1, 0, none⟩ (.slice qa2 binds.length qc2)).setCell ⟨w.heap.size + 1, 1, none⟩ (.int .i64 k)).setCell ⟨w.heap.size + 1, 2, none⟩ (.int .i64 i)).setCell ⟨w.heap.size + 1, 3, none⟩ (.slice va j vc)) = w9 := ⟨_, rfl⟩
          have hA := (((h.setCell ⟨w.heap.size + 1, 0, none⟩ (.slice qa2 binds.length qc2) (by simp <;> omega) (by simp <;> omega)).setCell ⟨w.heap.size + 1, 1, none⟩ (.int .i64 k) (by simp <;> omega) (by simp <;> omega)).setCell ⟨w.heap.size + 1, 2, none⟩ (.int .i64 i) (by simp <;> omega) (by simp <;> omega)).setCell ⟨w.heap.size + 1, 3, none⟩ (.slice va j vc) (by simp <;> omega) (by simp <;> omega)
          have KR := (((((Keep.refl (fun q => w.heap.size + 2 ≤ q ∧ q ≠ p ∧ q < N2) wr).setCell ⟨w.heap.size + 1, 0, none⟩ (.slice qa2 binds.length qc2) (by simp <;> omega)).setCell ⟨w.heap.size + 1, 1, none⟩ (.int .i64 k) (by simp <;> omega)).setCell ⟨w.heap.size + 1, 2, none⟩ (.int .i64 i) (by simp <;> omega)).setCell ⟨w.heap.size + 1, 3, none⟩ (.slice va j vc) (by simp <;> omega))
          have hsetk : ∀ (W : World) (o : Nat) (u : Value) (k : Nat), ro k → (W.setCell ⟨w.heap.size + 1, o, none⟩ u).heap[k]? = W.heap[k]? := fun W o u k hk => Below.heap_setCell _ _ _ _ (by have := Hr2.out k hk; simp; omega)
          rw [Tm.turn_miss f binds k i args s n m hmm (fun h => hk h.1)]
          have hLf := HLi.out.same (w' := w9) (Nat.le_of_eq (by rw [← hw9]; simp)) (fun q h1 _ _ => by rw [← hw9]; exact ((Below.heap_setCell _ _ _ _ (by simp; omega)).trans ((Below.heap_setCell _ _ _ _ (by simp; omega)).trans ((Below.heap_setCell _ _ _ _ (by simp; omega)).trans (Below.heap_setCell _ _ _ _ (by simp; omega))))))
          rw [hw9] at hA KR ⊢
          obtain ⟨Z9, hO, hFr⟩ := isOw_mk (U := fun q => w.heap.size ≤ q) ((hbi.out.keep KR).weaken (by decide) fun q _ h => ⟨by omega, h.2.2⟩) hA hLf (fun q h => h) (Nat.le_refl _) (fun q h1 _ => by omega) k i
          rw [hL2] at hO
          refine ⟨_, _, _, _, Z9, rfl, hO.weaken (fun q hq h => ⟨h, hq⟩), hFr _ _ (by omega) (Nat.le_refl _), ?_, by rw [← hw9]; exact gb_setCell (gb_setCell (gb_setCell (gb_setCell hb (by simp) _) (by simp) _) (by simp) _) (by simp) _⟩
          rw [← hw9]
          · exact HT.out.keep _ _ _ hst2 fun k hk => (hsetk _ _ _ k hk).trans ((hsetk _ _ _ k hk).trans ((hsetk _ _ _ k hk).trans (hsetk _ _ _ k hk)))
end Go.Proofs.Ytcblpjheoclkeaa

namespace Go.Proofs.Ytcblpjheoclkeaa
open Go.RowKit

def OwnTm (t : Tm) (w : World) (e : Ending) (w' : World) : Prop :=
  ∃ b k i a Z, e = .returned (.agg #[b, k, i, a]) ∧ IsOw Z w' (fun q => w.heap.size ≤ q ∧ q < w'.heap.size) b k i a t ∧ Free w' w.heap.size w'.heap.size Z ∧ Below w.heap.size w w'

set_option maxRecDepth 100000 in
set_option maxHeartbeats 1000000 in
theorem copy_ow {F : Nat → Prop} {w : World} {b k i a : Value} {t : Tm} (ht : IsTm F w b k i a t) (hsz : t.full ≤ 80000) (hfit : t.Fit) :
    Calls Try.prog 43 #[.agg #[b, k, i, a]] w (OwnTm t w) := by
  have Ht : Hid (∀ w' : World, Below w.heap.size w w' → Calls Try.prog 79 #[.agg #[b, k, i, a], .int .i64 0, .func (.func 80) #[] #[]] w' (OwnTm t w')) := fun w' hb => by
    have h := turned_ow turner_copy t F w b k i a ht (fun _ h => by cases h) () 0 w' ((Keep.refl _ _).below hb) (fun _ h => h.elim) trivial (Int.le_refl _) (by omega) hfit
    refine h.mono ?_
    rintro e w2 ⟨b', k', i', a', Z, rfl, h1, h2, _, h3⟩
    rw [Tm.turn_id] at h1
    exact ⟨b', k', i', a', Z, rfl, h1, h2, below_of_gb h3⟩
  obtain ⟨pa, pc, qa, qc, rfl, rfl, rfl, rfl⟩ := ht.shape
  clear ht
  obtain ⟨x1, hx1⟩ : ∃ x, t.binds.length = x := ⟨_, rfl⟩
  obtain ⟨x2, hx2⟩ : ∃ x, t.args.length = x := ⟨_, rfl⟩
  obtain ⟨x3, hx3⟩ : ∃ x, t.kind = x := ⟨_, rfl⟩
  obtain ⟨x4, hx4⟩ : ∃ x, t.index = x := ⟨_, rfl⟩
  rw [hx1, hx2, hx3, hx4] at Ht ⊢
  have Hx1 := Lib.hid hx1; have Hx2 := Lib.hid hx2; have Hx3 := Lib.hid hx3; have Hx4 := Lib.hid hx4
  clear hx1 hx2 hx3 hx4
  go_enter Try.func43, Try.ntmps43
  go_wp2_with fail
  obtain ⟨w3, hw3⟩ : ∃ w3, (w.alloc (.cells #[.slice pa x1 pc, .int .i64 x3, .int .i64 x4, .slice qa x2 qc] 34)).alloc (.cells #[.slice none 0 0, .int .i64 0, .int .i64 0, .slice none 0 0] 34) = w3 := ⟨_, rfl⟩
  have hs3 : w3.heap.size = w.heap.size + 2 := by rw [← hw3]; simp
  have B3 : Below w.heap.size w w3 := by rw [← hw3]; exact ((Below.refl _ _).alloc (Nat.le_refl _) _).alloc (by simp) _
  have x2' : Blk w3 (w.heap.size + 1) #[.slice none 0 0, .int .i64 0, .int .i64 0, .slice none 0 0] 34 := by rw [← hw3]; exact Blk.new _ _ _ (by simp)
  try rw [hw3]
  clear hw3
  refine (Ht.out w3 B3).mono ?_
  rintro e w4 ⟨b', k', i', a', Z, rfl, hT, hFr, hb4⟩
  have y2 := x2'.below hb4
  have B4 := B3.trans (hb4.mono B3.size)
  have hlt := x2'.lt
  obtain ⟨pa', pc', qa', qc', rfl, rfl, rfl, rfl⟩ := (hT.tm (F := fun _ => True) fun _ _ => trivial).shape
  rw [hs3] at hT hFr
  rw [Hx1.out, Hx2.out, Hx3.out, Hx4.out] at hT ⊢
  have r0 : w4.cell? ⟨w.heap.size + 1, 0, none⟩ = some (.slice none 0 0) := y2.cell rfl
  have r1 : w4.cell? ⟨w.heap.size + 1, 1, none⟩ = some (.int .i64 0) := y2.cell rfl
  have r2 : w4.cell? ⟨w.heap.size + 1, 2, none⟩ = some (.int .i64 0) := y2.cell rfl
  have r3 : w4.cell? ⟨w.heap.size + 1, 3, none⟩ = some (.slice none 0 0) := y2.cell rfl
  have f0 := y2.free 0
  have f1 := y2.free 1
  have f2 := y2.free 2
  have f3 := y2.free 3
  have HT := Lib.hid hT
  have HF := Lib.hid hFr
  clear hT hFr
  go_wp2_with fail
  refine bodyPost_ret (v := .agg #[.slice pa' x1 pc', .int .i64 x3, .int .i64 x4, .slice qa' x2 qc']) (by simp [results, Try.results43, go_sem, r0, r1, r2, r3]) rfl ?_
  obtain ⟨w9, hw9⟩ : ∃ w9, ((((w4.setCell ⟨w.heap.size + 1, 0, none⟩ (.slice pa' x1 pc')).setCell ⟨w.heap.size + 1, 1, none⟩ (.int .i64 x3)).setCell ⟨w.heap.size + 1, 2, none⟩ (.int .i64 x4)).setCell ⟨w.heap.size + 1, 3, none⟩ (.slice qa' x2 qc')) = w9 := ⟨_, rfl⟩
  have hb9 : ∀ q, w.heap.size + 2 ≤ q → w9.heap[q]? = w4.heap[q]? := fun q h1 => by
    rw [← hw9]
    exact ((Below.heap_setCell _ _ _ _ (by simp; omega)).trans ((Below.heap_setCell _ _ _ _ (by simp; omega)).trans ((Below.heap_setCell _ _ _ _ (by simp; omega)).trans (Below.heap_setCell _ _ _ _ (by simp; omega)))))
  have hs9 : w9.heap.size = w4.heap.size := by rw [← hw9]; simp
  have hB9 : Below w.heap.size w w9 := by rw [← hw9]; exact (((B4.setCell (by simp <;> omega) _).setCell (by simp <;> omega) _).setCell (by simp <;> omega) _).setCell (by simp <;> omega) _
  rw [hw9]
  refine ⟨_, _, _, _, Z, rfl, (HT.out.keep (w' := w9) fun q o v hq hv => ?_).weaken fun q hq h => ⟨by omega, hq⟩, fun q hq => ?_, hB9⟩
  · rw [← hv]; exact World.cell?_of_block (a := ⟨q, o, none⟩) (hb9 q hq.1)
  · obtain ⟨⟨g1, g2⟩, g3⟩ := HF.out q hq
    exact ⟨⟨by omega, by omega⟩, fun o => (World.frozen?_of_block (a := ⟨q, o, none⟩) (hb9 q g1)).trans (g3 o)⟩
end Go.Proofs.Ytcblpjheoclkeaa

namespace Go.Proofs.Ytcblpjheoclkeaa
open Go.RowKit

namespace Rn
def sm (n d : Int) : Int := if n < 0 ∧ d < 0 then -1 else if n ≥ 0 ∧ d ≥ 0 ∧ (n > 1000 ∨ d > 1000) then 1001 else n + d
def code (m : Int) : Int := if m < 0 then 1 else if m > 1000 then 2 else 0
def note (m e : Int) : Int := if code m ≠ 0 ∧ (e = 0 ∨ code m < e) then code m else e
mutual
def ren (d : Int) : Tm → Tm
  | .mk b k i a => .mk b k (if k = 2 then sm i d else i) (rens d a)
def rens (d : Int) : List Tm → List Tm
  | [] => []
  | t :: l => ren d t :: rens d l
end
mutual
def errs (d : Int) : Tm → Int → Int
  | .mk _ k i a, e => errL d a (if k = 2 then note (sm i d) e else e)
def errL (d : Int) : List Tm → Int → Int
  | [], e => e
  | t :: l, e => errL d l (errs d t e)
end
theorem ren_eq (d : Int) (b : List Ty) (k i : Int) (a : List Tm) : ren d (.mk b k i a) = .mk b k (if k = 2 then sm i d else i) (rens d a) := by rw [ren]
theorem errs_eq (d : Int) (b : List Ty) (k i : Int) (a : List Tm) (e : Int) : errs d (.mk b k i a) e = errL d a (if k = 2 then note (sm i d) e else e) := by rw [errs]
theorem rens_map (d : Int) (l : List Tm) : rens d l = l.map (ren d) := by
  induction l with
  | nil => rw [rens]; rfl
  | cons t l ih => rw [rens, ih]; rfl
theorem errL_take (d : Int) : ∀ (l : List Tm) (e : Int) (j : Nat) (h : j < l.length), errL d (l.take (j + 1)) e = errs d l[j] (errL d (l.take j) e)
  | t :: l, e, 0, _ => by simp [errL]
  | t :: l, e, j + 1, h => by
    simp only [List.take_succ_cons, List.getElem_cons_succ, errL]
    exact errL_take d l _ j (by simpa using h)
end Rn
def Thaw (w w' : World) : Prop := ∀ q o, q < w.heap.size → w.frozen? ⟨q, o, none⟩ = false → w'.frozen? ⟨q, o, none⟩ = false
def RenOw (d : Int) (t : Tm) : Prop := ∀ (Z U : Nat → Prop) (w : World) (b k i a : Value) (pe : Nat) (e0 : Int), IsOw Z w U b k i a t → (∀ q, U q → q < w.heap.size) → (∀ q, Z q → q < w.heap.size ∧ ∀ o, w.frozen? ⟨q, o, none⟩ = false) → w.cell? ⟨pe, 0, none⟩ = some (.int .i64 e0) → w.frozen? ⟨pe, 0, none⟩ = false → ¬ U pe →
  Calls Try.prog 42 #[.agg #[b, k, i, a], .int .i64 d, .pointer (some ⟨pe, 0, none⟩)] w fun e w' => ∃ i', e = .returned (.agg #[b, k, .int .i64 i', a]) ∧ IsOw Z w' U b k (.int .i64 i') a (Rn.ren d t) ∧ w'.cell? ⟨pe, 0, none⟩ = some (.int .i64 (Rn.errs d t e0)) ∧ Thaw w w' ∧ Off (fun q => U q ∨ q = pe) w w'
theorem sum_k (n d : Int) (hn : -9223372036854775808 ≤ n ∧ n ≤ 9223372036854775807) (hd : -9223372036854775808 ≤ d ∧ d ≤ 9223372036854775807) (w : World) : Calls Try.prog 78 #[.int .i64 n, .int .i64 d] w fun e w' => e = .returned (.int .i64 (Rn.sm n d)) ∧ w' = w := by
  unfold Rn.sm
  by_cases n0 : n < 0
  · by_cases d0 : d < 0
    · rw [if_pos ⟨n0, d0⟩]
      go_enter Try.func78, Try.ntmps78
      go_wp2_with fail
      go_ret
      exact ⟨rfl, rfl⟩
    · rw [if_neg (fun h => d0 h.2), if_neg (by omega)]
      have hn' : ¬ n ≥ 0 := by omega
      have hw : IntKind.i64.wrap (n + d) = n + d := IntWalk.i64_in _ (by omega)
      go_enter Try.func78, Try.ntmps78
      go_wp2_with fail
      go_ret
      exact ⟨rfl, rfl⟩
  · by_cases d0 : d < 0
    · rw [if_neg (fun h => n0 h.1), if_neg (by omega)]
      have hw : IntKind.i64.wrap (n + d) = n + d := IntWalk.i64_in _ (by omega)
      have hd' : ¬ d ≥ 0 := by omega
      have hn' : n ≥ 0 := by omega
      go_enter Try.func78, Try.ntmps78
      go_wp2_with fail
      go_ret
      exact ⟨rfl, rfl⟩
    · have hd' : d ≥ 0 := by omega
      have hn' : n ≥ 0 := by omega
      by_cases n1 : n > 1000
      · rw [if_neg (fun h => n0 h.1), if_pos ⟨hn', hd', .inl n1⟩]
        go_enter Try.func78, Try.ntmps78
        go_wp2_with fail
        go_ret
        exact ⟨rfl, rfl⟩
      · by_cases d1 : d > 1000
        · rw [if_neg (fun h => n0 h.1), if_pos ⟨hn', hd', .inr d1⟩]
          go_enter Try.func78, Try.ntmps78
          go_wp2_with fail
          go_ret
          exact ⟨rfl, rfl⟩
        · rw [if_neg (fun h => n0 h.1), if_neg (by omega)]
          have hw : IntKind.i64.wrap (n + d) = n + d := IntWalk.i64_in _ (by omega)
          go_enter Try.func78, Try.ntmps78
          go_wp2_with fail
          go_ret
          exact ⟨rfl, rfl⟩
theorem Thaw.refl (w : World) : Thaw w w := fun _ _ _ h => h
theorem Thaw.trans {w w' w'' : World} (h : Thaw w w') (h' : Thaw w' w'') (hs : w.heap.size ≤ w'.heap.size) : Thaw w w'' := fun q o hq hf => h' q o (by omega) (h q o hq hf)
theorem Thaw.below {w w' : World} (hb : Below w.heap.size w w') : Thaw w w' := fun q o hq hf => (World.frozen?_of_block (a := ⟨q, o, none⟩) (hb.block q hq)).trans hf
theorem Thaw.set (w : World) (p : Addr) (u : Value) : Thaw w (w.setCell p u) := fun q o _ hf => by rw [World.frozen?_setCell]; exact hf
theorem Off.keep {F G : Nat → Prop} {w w' : World} (h : Off F w w') (hg : ∀ q, G q → ¬ F q) : Keep G w w' := fun q o v hq hv => by
  rw [← hv]; exact World.cell?_of_block (a := ⟨q, o, none⟩) (h.block q (Keep.lt hv) (hg q hq))
structure RInv (d : Int) (Z U Ub : Nat → Prop) (Us : Nat → Nat → Prop) (bl off n : Nat) (args : List Tm) (PA A : Nat → Option Addr) (PN PC N C : Nat → Nat) (K : Nat → Int) (pe : Nat) (e1 : Int) (w : World) (j : Nat) (wr : World) : Prop where
  oft : Off (fun q => U q ∨ q = pe) w wr
  thaw : Thaw w wr
  e : wr.cell? ⟨pe, 0, none⟩ = some (.int .i64 (Rn.errL d (args.take j) e1))
  keep : Keep (fun q => U q ∧ Ub q) w wr
  cells : ∃ J : Nat → Int, (∀ i, i < n → wr.cell? ⟨bl, off + i * 4, none⟩ = some (.slice (PA i) (PN i) (PC i)) ∧ wr.cell? ⟨bl, off + i * 4 + 1, none⟩ = some (.int .i64 (K i)) ∧ wr.cell? ⟨bl, off + i * 4 + 2, none⟩ = some (.int .i64 (J i)) ∧ wr.cell? ⟨bl, off + i * 4 + 3, none⟩ = some (.slice (A i) (N i) (C i))) ∧
    ∀ i (h : i < args.length), IsOw Z wr (Us i) (.slice (PA i) (PN i) (PC i)) (.int .i64 (K i)) (.int .i64 (J i)) (.slice (A i) (N i) (C i)) (if i < j then Rn.ren d args[i] else args[i])
section
variable {d : Int} {Z U Ub : Nat → Prop} {Us : Nat → Nat → Prop} {bl off n : Nat} {args : List Tm} {PA A : Nat → Option Addr} {PN PC N C : Nat → Nat} {K I : Nat → Int} {pe : Nat} {e1 : Int} {w : World}
theorem RInv.start {w7 : World} (hn : args.length = n) (hU : 0 < n → U bl) (hr : ∀ i q, i < n → Us i q → U q) (hpU : ¬ U pe)
    (h1 : ∀ i, i < n → w.cell? ⟨bl, off + i * 4, none⟩ = some (.slice (PA i) (PN i) (PC i)))
    (h2 : ∀ i, i < n → w.cell? ⟨bl, off + i * 4 + 1, none⟩ = some (.int .i64 (K i)))
    (h3 : ∀ i, i < n → w.cell? ⟨bl, off + i * 4 + 2, none⟩ = some (.int .i64 (I i)))
    (h4 : ∀ i, i < n → w.cell? ⟨bl, off + i * 4 + 3, none⟩ = some (.slice (A i) (N i) (C i)))
    (h5 : ∀ i (h : i < args.length), IsOw Z w (Us i) (.slice (PA i) (PN i) (PC i)) (.int .i64 (K i)) (.int .i64 (I i)) (.slice (A i) (N i) (C i)) args[i])
    (ho : Off (fun q => q = pe) w w7) (ht : Thaw w w7) (he : w7.cell? ⟨pe, 0, none⟩ = some (.int .i64 e1)) : RInv d Z U Ub Us bl off n args PA A PN PC N C K pe e1 w 0 w7 := by
  have hk : Keep U w w7 := ho.keep fun q hq e => hpU (e ▸ hq)
  refine ⟨ho.mono fun q _ h => .inr h, ht, by simpa [Rn.errL] using he, hk.weaken fun q h => h.1, I, fun i hi => ?_, fun i hi => ?_⟩
  · have hb := hU (by omega)
    exact ⟨hk _ _ _ hb (h1 i hi), hk _ _ _ hb (h2 i hi), hk _ _ _ hb (h3 i hi), hk _ _ _ hb (h4 i hi)⟩
  · rw [if_neg (by omega)]
    exact (h5 i hi).keep (hk.weaken fun q h => hr i q (by omega) h)
theorem RInv.drew {j : Nat} {wr : World} (h : RInv d Z U Ub Us bl off n args PA A PN PC N C K pe e1 w j wr) : RInv d Z U Ub Us bl off n args PA A PN PC N C K pe e1 w j wr.drew := by
  obtain ⟨r1, r2, r3, r4, J, r5, r6⟩ := h
  exact ⟨r1.drew, r2, r3, r4.drew, J, r5, fun i hi => (r6 i hi).keep (Keep.refl _ _).drew⟩
theorem RInv.done {wr : World} {j : Nat} {bv : Value} {a : Option Addr} {c : Nat} {binds : List Ty} (h : RInv d Z U Ub Us bl off n args PA A PN PC N C K pe e1 w j wr) (hn : args.length = n) (hj : args.length ≤ j) (hb : IsSl rpTy (fun q => U q ∧ Ub q) w bv binds) (hm : n ≤ maxLen ∧ n ≤ c)
    (ha : 0 < n → a = some ⟨bl, off, none⟩ ∧ U bl ∧ Z bl ∧ ¬ Ub bl) (hr : ∀ i q, i < n → Us i q → U q ∧ q ≠ bl ∧ ¬ Ub q) (hd : ∀ i j q, i < n → j < n → Us i q → Us j q → i = j) (k i : Int) :
    IsOw Z wr U bv (.int .i64 k) (.int .i64 i) (.slice a n c) (.mk binds k i (Rn.rens d args)) ∧ wr.cell? ⟨pe, 0, none⟩ = some (.int .i64 (Rn.errL d args e1)) := by
  obtain ⟨r1, r2, r3, r4, J, r5, r6⟩ := h
  rw [List.take_of_length_le hj] at r3
  refine ⟨?_, r3⟩
  rw [Rn.rens_map]
  refine IsOw.mk U Ub Us bv k i a n c binds (args.map (Rn.ren d)) bl off PA A PN PC N C K J (hb.keep r4) (by rw [List.length_map, hn]) hm ha hr hd (fun i hi => (r5 i hi).1) (fun i hi => (r5 i hi).2.1) (fun i hi => (r5 i hi).2.2.1) (fun i hi => (r5 i hi).2.2.2) fun i hi => ?_
  have hi' : i < args.length := by simpa using hi
  have := r6 i hi'
  rw [if_pos (by omega)] at this
  rw [List.getElem_map]
  exact this
theorem RInv.step {j : Nat} {wr w5 : World} {i' : Int} (h : RInv d Z U Ub Us bl off n args PA A PN PC N C K pe e1 w j wr) (hn : args.length = n) (hj : j < args.length) (hU : 0 < n → U bl ∧ ¬ Ub bl) (hr : ∀ i q, i < n → Us i q → U q ∧ q ≠ bl ∧ ¬ Ub q) (hd : ∀ i j q, i < n → j < n → Us i q → Us j q → i = j) (hpU : ¬ U pe)
    (hp : pe < w.heap.size)
    (g1 : IsOw Z w5 (Us j) (.slice (PA j) (PN j) (PC j)) (.int .i64 (K j)) (.int .i64 i') (.slice (A j) (N j) (C j)) (Rn.ren d args[j]))
    (g2 : w5.cell? ⟨pe, 0, none⟩ = some (.int .i64 (Rn.errs d args[j] (Rn.errL d (args.take j) e1)))) (g3 : Thaw wr w5) (g4 : Off (fun q => Us j q ∨ q = pe) wr w5) :
    RInv d Z U Ub Us bl off n args PA A PN PC N C K pe e1 w (j + 1) ((((w5.setCell ⟨bl, off + j * 4, none⟩ (.slice (PA j) (PN j) (PC j))).setCell ⟨bl, off + j * 4 + 1, none⟩ (.int .i64 (K j))).setCell ⟨bl, off + j * 4 + 2, none⟩ (.int .i64 i')).setCell ⟨bl, off + j * 4 + 3, none⟩ (.slice (A j) (N j) (C j))) := by
  obtain ⟨r1, r2, r3, r4, J, r5, r6⟩ := h
  obtain ⟨u1, u2⟩ := hU (by omega)
  have hbp : bl ≠ pe := fun e => hpU (e ▸ u1)
  obtain ⟨w6, hw6⟩ : ∃ w6, ((((w5.setCell ⟨bl, off + j * 4, none⟩ (.slice (PA j) (PN j) (PC j))).setCell ⟨bl, off + j * 4 + 1, none⟩ (.int .i64 (K j))).setCell ⟨bl, off + j * 4 + 2, none⟩ (.int .i64 i')).setCell ⟨bl, off + j * 4 + 3, none⟩ (.slice (A j) (N j) (C j))) = w6 := ⟨_, rfl⟩
  have hbl : Keep (fun q => q = bl) wr w5 := g4.keep fun q hq e => by
    subst hq
    rcases e with e | e
    · exact (hr j q (by omega) e).2.1 rfl
    · exact hbp e
  have ho5 : Off (fun q => U q ∨ q = pe) w w5 := r1.trans (g4.mono fun q _ h => h.imp (fun h => (hr j q (by omega) h).1) id)
  have hk6 : Keep (fun q => q ≠ bl) w5 w6 := by
    rw [← hw6]
    exact ((((Keep.refl _ _).setCell _ _ (by simp)).setCell _ _ (by simp)).setCell _ _ (by simp)).setCell _ _ (by simp)
  have hc : ∀ i, i < n → w5.cell? ⟨bl, off + i * 4, none⟩ = some (.slice (PA i) (PN i) (PC i)) ∧ w5.cell? ⟨bl, off + i * 4 + 1, none⟩ = some (.int .i64 (K i)) ∧ w5.cell? ⟨bl, off + i * 4 + 2, none⟩ = some (.int .i64 (J i)) ∧ w5.cell? ⟨bl, off + i * 4 + 3, none⟩ = some (.slice (A i) (N i) (C i)) := fun i hi => by
    obtain ⟨q1, q2, q3, q4⟩ := r5 i hi
    exact ⟨hbl _ _ _ rfl q1, hbl _ _ _ rfl q2, hbl _ _ _ rfl q3, hbl _ _ _ rfl q4⟩
  rw [hw6]
  refine ⟨?_, ?_, ?_, ?_, fun i => if i = j then i' else J i, fun i hi => ?_, fun i hi => ?_⟩ <;> try dsimp only
  · rw [← hw6]
    exact (((ho5.set _ _ (.inl (.inl u1))).set _ _ (.inl (.inl u1))).set _ _ (.inl (.inl u1))).set _ _ (.inl (.inl u1))
  · rw [← hw6]
    refine (r2.trans g3 r1.size).trans ?_ ho5.size
    intro q o _ hf
    simp only [World.frozen?_setCell]; exact hf
  · rw [Rn.errL_take d args e1 j hj]
    exact hk6 _ _ _ (Ne.symm hbp) g2
  · refine (r4.trans (g4.keep fun q hq e => ?_)).trans (hk6.weaken fun q hq e => u2 (e ▸ hq.2))
    rcases e with e | e
    · exact (hr j q (by omega) e).2.2 hq.2
    · exact hpU (e ▸ hq.1)
  · obtain ⟨q1, q2, q3, q4⟩ := hc i hi
    obtain ⟨p1, p2, p3, p4⟩ := hc j (by omega)
    rw [← hw6]
    by_cases e : i = j
    · subst e
      rw [if_pos rfl]
      have t1 : (w5.setCell ⟨bl, off + i * 4, none⟩ (.slice (PA i) (PN i) (PC i))).cell? ⟨bl, off + i * 4, none⟩ = some (.slice (PA i) (PN i) (PC i)) := World.cell?_setCell_same _ _ _ q1
      have ne : ∀ a b : Nat, a ≠ b → (⟨bl, a, none⟩ : Addr) ≠ ⟨bl, b, none⟩ := fun a b h e => h (by cases e; rfl)
      refine ⟨?_, ?_, ?_, ?_⟩
      · rw [World.cell?_setCell_other _ _ _ _ (ne _ _ (by omega)), World.cell?_setCell_other _ _ _ _ (ne _ _ (by omega)), World.cell?_setCell_other _ _ _ _ (ne _ _ (by omega))]; exact t1
      · rw [World.cell?_setCell_other _ _ _ _ (ne _ _ (by omega)), World.cell?_setCell_other _ _ _ _ (ne _ _ (by omega))]
        exact World.cell?_setCell_same _ _ _ (u := .int .i64 (K i)) (by rw [World.cell?_setCell_other _ _ _ _ (ne _ _ (by omega))]; exact q2)
      · rw [World.cell?_setCell_other _ _ _ _ (ne _ _ (by omega))]
        exact World.cell?_setCell_same _ _ _ (u := .int .i64 (J i)) (by rw [World.cell?_setCell_other _ _ _ _ (ne _ _ (by omega)), World.cell?_setCell_other _ _ _ _ (ne _ _ (by omega))]; exact q3)
      · exact World.cell?_setCell_same _ _ _ (u := .slice (A i) (N i) (C i)) (by rw [World.cell?_setCell_other _ _ _ _ (ne _ _ (by omega)), World.cell?_setCell_other _ _ _ _ (ne _ _ (by omega)), World.cell?_setCell_other _ _ _ _ (ne _ _ (by omega))]; exact q4)
    · rw [if_neg e]
      have ne : ∀ a b : Nat, a ≠ b → (⟨bl, a, none⟩ : Addr) ≠ ⟨bl, b, none⟩ := fun a b h e => h (by cases e; rfl)
      have oth : ∀ a v, (∀ c, c < 4 → off + j * 4 + c ≠ a) → w5.cell? ⟨bl, a, none⟩ = some v → ((((w5.setCell ⟨bl, off + j * 4, none⟩ (.slice (PA j) (PN j) (PC j))).setCell ⟨bl, off + j * 4 + 1, none⟩ (.int .i64 (K j))).setCell ⟨bl, off + j * 4 + 2, none⟩ (.int .i64 i')).setCell ⟨bl, off + j * 4 + 3, none⟩ (.slice (A j) (N j) (C j))).cell? ⟨bl, a, none⟩ = some v := fun a v h hv => by
        rw [World.cell?_setCell_other _ _ _ _ (ne _ _ (h 3 (by omega))), World.cell?_setCell_other _ _ _ _ (ne _ _ (h 2 (by omega))), World.cell?_setCell_other _ _ _ _ (ne _ _ (h 1 (by omega))), World.cell?_setCell_other _ _ _ _ (ne _ _ (by have := h 0 (by omega); omega))]; exact hv
      exact ⟨oth _ _ (fun c hc => by omega) q1, oth _ _ (fun c hc => by omega) q2, oth _ _ (fun c hc => by omega) q3, oth _ _ (fun c hc => by omega) q4⟩
  · have hkb : ∀ i, i < n → Keep (Us i) w5 w6 := fun i hi => hk6.weaken fun q hq => (hr i q hi hq).2.1
    by_cases e : i = j
    · subst e
      rw [if_pos rfl, if_pos (by omega)]
      exact g1.keep (hkb i (by omega))
    · rw [if_neg e, show (if i < j + 1 then Rn.ren d args[i] else args[i]) = (if i < j then Rn.ren d args[i] else args[i]) by
        by_cases h : i < j
        · rw [if_pos h, if_pos (by omega)]
        · rw [if_neg h, if_neg (by omega)]]
      refine ((r6 i hi).keep (g4.keep fun q hq h => ?_)).keep (hkb i (by omega))
      rcases h with h | h
      · exact e (hd i j q (by omega) (by omega) hq h)
      · exact hpU (h ▸ (hr i q (by omega) hq).1)
end
end Go.Proofs.Ytcblpjheoclkeaa

namespace Go.Proofs.Ytcblpjheoclkeaa
open Go.RowKit

set_option maxRecDepth 100000 in
set_option maxHeartbeats 2000000 in
theorem renamed_a (d : Int) (hdd : -9223372036854775808 ≤ d ∧ d ≤ 9223372036854775807) (binds : List Ty) (k i : Int) (args : List Tm) (ih : ∀ t ∈ args, t.Fit → RenOw d t) (hfit : (Tm.mk binds k i args).Fit) (Z U : Nat → Prop) (w : World) (bv kv iv av : Value) (pe : Nat) (e0 : Int) (ht : IsOw Z w U bv kv iv av (.mk binds k i args)) (hUs : ∀ q, U q → q < w.heap.size) (hZ : ∀ q, Z q → q < w.heap.size ∧ ∀ o, w.frozen? ⟨q, o, none⟩ = false) (hpe : w.cell? ⟨pe, 0, none⟩ = some (.int .i64 e0)) (hpf : w.frozen? ⟨pe, 0, none⟩ = false) (hpU : ¬ U pe) (hk : ¬ k = 2) :
    Calls Try.prog 42 #[.agg #[bv, kv, iv, av], .int .i64 d, .pointer (some ⟨pe, 0, none⟩)] w fun e w' => ∃ i', e = .returned (.agg #[bv, kv, .int .i64 i', av]) ∧ IsOw Z w' U bv kv (.int .i64 i') av (Rn.ren d (.mk binds k i args)) ∧ w'.cell? ⟨pe, 0, none⟩ = some (.int .i64 (Rn.errs d (.mk binds k i args) e0)) ∧ Thaw w w' ∧ Off (fun q => U q ∨ q = pe) w w' := by
  cases ht with
  | mk U Ub Us bv k i a n c binds args bl off PA A PN PC N C Kd Ix hb hn hm ha hr hd h1 h2 h3 h4 h5 =>
  obtain ⟨pa, pc, rfl⟩ := hb.shape
  have hpl : pe < w.heap.size := Keep.lt hpe
  obtain ⟨hi0, hi1, hfa⟩ := Tm.fit_iff.1 hfit
  have hnn : n ≤ 9223372036854775807 := by unfold maxLen at hm; omega
  have Hsum := Lib.hid (sum_k i d ⟨hi0, hi1⟩ hdd)
  have hk2 : (k == 2) = false := by simpa using hk
  go_enter Try.func42, Try.ntmps42
  go_wp2_with fail
  obtain ⟨w3, hw3⟩ : ∃ w3, (w.alloc (.cells #[.slice pa binds.length pc, .int .i64 k, .int .i64 i, .slice a n c] 34)).alloc (.cells #[.slice none 0 0, .int .i64 0, .int .i64 0, .slice none 0 0] 34) = w3 := ⟨_, rfl⟩
  try rw [hw3]
  have B3 : Below w.heap.size w w3 := by rw [← hw3]; exact ((Below.refl _ _).alloc (Nat.le_refl _) _).alloc (by simp) _
  have x0 : Blk w3 w.heap.size #[.slice pa binds.length pc, .int .i64 k, .int .i64 i, .slice a n c] 34 := by rw [← hw3]; exact (Blk.new _ _ _ rfl).alloc _
  have x1 : Blk w3 (w.heap.size + 1) #[.slice none 0 0, .int .i64 0, .int .i64 0, .slice none 0 0] 34 := by rw [← hw3]; exact Blk.new _ _ _ (by simp)
  clear hw3
  have P3 : w3.cell? ⟨pe, 0, none⟩ = some (.int .i64 e0) := (B3.cell (p := ⟨pe, 0, none⟩) hpl).trans hpe
  have F3 : w3.frozen? ⟨pe, 0, none⟩ = false := Thaw.below B3 pe 0 hpl hpf
  have c1 : w3.cell? ⟨w.heap.size, 1, none⟩ = some (.int .i64 k) := x0.cell rfl
  have c2 : w3.cell? ⟨w.heap.size, 2, none⟩ = some (.int .i64 i) := x0.cell rfl
  have c3 : w3.cell? ⟨w.heap.size, 3, none⟩ = some (.slice a n c) := x0.cell rfl
  have O3 := Off.of_below (fun q => q = pe) B3
  have T3 := Thaw.below B3
  go_wp2_with fail
  obtain ⟨w7, hw7⟩ : ∃ w7, w3 = w7 := ⟨_, rfl⟩
  have O7 := O3
  have T7 := T3
  have P7 := P3
  have y0 := x0
  have y1 := x1
  rw [hw7] at O7 T7 P7 y0 y1 ⊢
  clear hw7 O3 T3 P3 x0 x1 B3 F3 c1 c2 c3
  have R0 := RInv.start (d := d) (Z := Z) (U := U) (Ub := Ub) (Us := Us) (w7 := w7) hn (fun h => (ha h).2.1) (fun i q hi h => (hr i q hi h).1) hpU h1 h2 h3 h4 h5 O7 T7 P7
  clear O7 T7 P7
  go_loopw [51] (fun ii wr => ∃ j : Nat, ii = .int .i64 j ∧ j ≤ args.length ∧ Blk wr w.heap.size #[.slice pa binds.length pc, .int .i64 k, .int .i64 i, .slice a n c] 34 ∧ Blk wr (w.heap.size + 1) #[.slice none 0 0, .int .i64 0, .int .i64 0, .slice none 0 0] 34 ∧
    RInv d Z U Ub Us bl off n args PA A PN PC N C Kd pe e0 w j wr) (fun ii _ => args.length - (intOf ii).toNat)
  case atStart => exact ⟨0, rfl, by omega, y0, y1, R0⟩
  case round =>
    clear y0 y1 R0
    obtain ⟨j, rfl, hj, y0, y1, hR⟩ := hrel
    by_cases hlt : j < args.length
    · obtain ⟨rfl, hUb, hZb, hUbb⟩ := ha (by omega)
      clear ha
      obtain ⟨J, r5, r6⟩ := hR.cells
      obtain ⟨q1, q2, q3, q4⟩ := r5 j (by omega)
      have r6j := r6 j hlt
      rw [if_neg (by omega)] at r6j
      have hlt0 : (0 : Int) ≤ (j : Int) := Int.natCast_nonneg _
      have hlt1 : (j : Int) < (n : Int) := by omega
      have hsz := hR.oft.size
      have HR := Lib.hid hR.drew
      have Hc := Lib.hid (ih args[j] (List.getElem_mem hlt) (hfa _ (List.getElem_mem hlt)) Z (Us j) wr.drew _ _ _ _ pe _ (r6j.keep (Keep.refl _ _).drew) (fun q hq => Nat.lt_of_lt_of_le (hUs q (hr j q (by omega) hq).1) hsz)
        (fun q hq => ⟨Nat.lt_of_lt_of_le (hZ q hq).1 hsz, fun o => hR.thaw q o (hZ q hq).1 ((hZ q hq).2 o)⟩) hR.e (hR.thaw pe 0 hpl hpf) fun h => hpU (hr j pe (by omega) h).1)
      have HP : Hid (∀ o, wr.frozen? ⟨bl, o, none⟩ = false) := fun o => hR.thaw bl o (hZ bl hZb).1 ((hZ bl hZb).2 o)
      clear r6 r6j r5 hR ih
      go_wp2_with fail
      refine wp_region_noPanic (wp_region_need (S := fun w' => w'.cell? ⟨w.heap.size, 3, none⟩ = some (.slice (some ⟨bl, off, none⟩) n c) ∧ w'.cell? ⟨bl, off + j * 4, none⟩ = some (.slice (PA j) (PN j) (PC j)) ∧ w'.cell? ⟨bl, off + j * 4 + 1, none⟩ = some (.int .i64 (Kd j)) ∧ w'.cell? ⟨bl, off + j * 4 + 2, none⟩ = some (.int .i64 (J j)) ∧ w'.cell? ⟨bl, off + j * 4 + 3, none⟩ = some (.slice (A j) (N j) (C j))) (by kernel_rfl) ?_)
      have hS : (wr.drew).cell? ⟨w.heap.size, 3, none⟩ = some (.slice (some ⟨bl, off, none⟩) n c) ∧ (wr.drew).cell? ⟨bl, off + j * 4, none⟩ = some (.slice (PA j) (PN j) (PC j)) ∧ (wr.drew).cell? ⟨bl, off + j * 4 + 1, none⟩ = some (.int .i64 (Kd j)) ∧ (wr.drew).cell? ⟨bl, off + j * 4 + 2, none⟩ = some (.int .i64 (J j)) ∧ (wr.drew).cell? ⟨bl, off + j * 4 + 3, none⟩ = some (.slice (A j) (N j) (C j)) := ⟨y0.drew.cell rfl, q1, q2, q3, q4⟩
      refine wpN_take (i := 0) (v := ?v1) rfl (by kernel_rfl) (fun _ _ _ h => h) hS (Or.inl ⟨by rfl, ?hy1⟩) ?hr1
      case hy1 => (intro wS hSw; (try dsimp only at hSw); go_simp; (try with_reducible rfl))
      try simp only [Act.put, List.setIfInBounds_toArray, List.set_cons_zero, List.set_cons_succ, List.getElem_toArray, List.getElem_cons_zero, List.getElem_cons_succ]
      refine wpN_take (i := 1) (v := ?v2) rfl (by kernel_rfl) (fun _ _ _ h => h) hS (Or.inl ⟨by rfl, ?hy2⟩) ?hr2
      case hy2 => (intro wS hSw; (try dsimp only at hSw); go_simp; (try with_reducible rfl))
      try simp only [Act.put, List.setIfInBounds_toArray, List.set_cons_zero, List.set_cons_succ, List.getElem_toArray, List.getElem_cons_zero, List.getElem_cons_succ]
      refine wpN_take (i := 2) (v := ?v3) rfl (by kernel_rfl) (fun _ _ _ h => h) hS (Or.inl ⟨by rfl, ?hy3⟩) ?hr3
      case hy3 => (intro wS hSw; (try dsimp only at hSw); go_simp; (try with_reducible rfl))
      try simp only [Act.put, List.setIfInBounds_toArray, List.set_cons_zero, List.set_cons_succ, List.getElem_toArray, List.getElem_cons_zero, List.getElem_cons_succ]
      refine wpN_take (i := 3) (v := ?v4) rfl (by kernel_rfl) (fun _ _ _ h => h) hS (Or.inl ⟨by rfl, ?hy4⟩) ?hr4
      case hy4 => (intro wS hSw; (try dsimp only at hSw); go_simp; (try with_reducible rfl))
      try simp only [Act.put, List.setIfInBounds_toArray, List.set_cons_zero, List.set_cons_succ, List.getElem_toArray, List.getElem_cons_zero, List.getElem_cons_succ]
      refine wpN_take (i := 4) (v := ?v5) rfl (by kernel_rfl) (fun _ _ _ h => h) hS (Or.inl ⟨by rfl, ?hy5⟩) ?hr5
      case hy5 => (intro wS hSw; (try dsimp only at hSw); go_simp; (try with_reducible rfl))
      try simp only [Act.put, List.setIfInBounds_toArray, List.set_cons_zero, List.set_cons_succ, List.getElem_toArray, List.getElem_cons_zero, List.getElem_cons_succ]
      refine wpN_take (i := 5) (v := ?v6) rfl (by kernel_rfl) (fun _ _ _ h => h) hS (Or.inl ⟨by rfl, ?hy6⟩) ?hr6
      case hy6 => (intro wS hSw; (try dsimp only at hSw); go_simp; (try with_reducible rfl))
      try simp only [Act.put, List.setIfInBounds_toArray, List.set_cons_zero, List.set_cons_succ, List.getElem_toArray, List.getElem_cons_zero, List.getElem_cons_succ]
      refine wpN_take (i := 6) (v := ?v7) rfl (by kernel_rfl) (fun _ _ _ h => h) hS (Or.inl ⟨by rfl, ?hy7⟩) ?hr7
      case hy7 => (intro wS hSw; (try dsimp only at hSw); go_simp; (try with_reducible rfl))
      try simp only [Act.put, List.setIfInBounds_toArray, List.set_cons_zero, List.set_cons_succ, List.getElem_toArray, List.getElem_cons_zero, List.getElem_cons_succ]
      refine wpN_take (i := 7) (v := ?v8) rfl (by kernel_rfl) (fun _ _ _ h => h) hS (Or.inl ⟨by rfl, ?hy8⟩) ?hr8
      case hy8 => (intro wS hSw; (try dsimp only at hSw); go_simp; (try with_reducible rfl))
      try simp only [Act.put, List.setIfInBounds_toArray, List.set_cons_zero, List.set_cons_succ, List.getElem_toArray, List.getElem_cons_zero, List.getElem_cons_succ]
      refine wpN_take (i := 8) (v := ?v9) rfl (by kernel_rfl) (fun _ _ _ h => h) hS (Or.inl ⟨by rfl, ?hy9⟩) ?hr9
      case hy9 => (intro wS hSw; (try dsimp only at hSw); go_simp; (try with_reducible rfl))
      try simp only [Act.put, List.setIfInBounds_toArray, List.set_cons_zero, List.set_cons_succ, List.getElem_toArray, List.getElem_cons_zero, List.getElem_cons_succ]
      refine wpN_take (i := 9) (v := ?v10) rfl (by kernel_rfl) (fun _ _ _ h => h) hS (Or.inl ⟨by rfl, ?hy10⟩) ?hr10
      case hy10 => (intro wS hSw; (try dsimp only at hSw); go_simp; (try with_reducible rfl))
      try simp only [Act.put, List.setIfInBounds_toArray, List.set_cons_zero, List.set_cons_succ, List.getElem_toArray, List.getElem_cons_zero, List.getElem_cons_succ]
      refine wpN_step (i := 10) (by kernel_rfl) rfl (fun K hK => ?_)
      go_simp
      refine Hc.out.mono ?_
      rintro e w5 ⟨i', rfl, g1, g2, g3, g4⟩
      have hKp : Keep (fun q => q = bl) wr.drew w5 := g4.keep fun q hq e => by
        subst hq
        rcases e with e | e
        · exact (hr j q (by omega) e).2.1 rfl
        · exact hpU (e ▸ hUb)
      have hnq : ∀ x, ¬ (Us j (w.heap.size + x) ∨ w.heap.size + x = pe) := fun x e => by
        rcases e with e | e
        · have := hUs _ (hr j _ (by omega) e).1; omega
        · omega
      have z0 := g4.blk (y0.drew) (hnq 0)
      have z1 := g4.blk (y1.drew) (hnq 1)
      have HS := Lib.hid (HR.out.step hn hlt (fun h => ⟨hUb, hUbb⟩) hr hd hpU hpl g1 g2 g3 g4)
      have p0 := hKp _ _ _ rfl (show wr.drew.cell? _ = _ from q1)
      have p1 := hKp _ _ _ rfl (show wr.drew.cell? _ = _ from q2)
      have p2 := hKp _ _ _ rfl (show wr.drew.cell? _ = _ from q3)
      have p3 := hKp _ _ _ rfl (show wr.drew.cell? _ = _ from q4)
      have f0 := g3 bl (off + j * 4) (Keep.lt q1) (HP.out _)
      have f1 := g3 bl (off + j * 4 + 1) (Keep.lt q1) (HP.out _)
      have f2 := g3 bl (off + j * 4 + 2) (Keep.lt q1) (HP.out _)
      have f3 := g3 bl (off + j * 4 + 3) (Keep.lt q1) (HP.out _)
      have hS : (w5).cell? ⟨w.heap.size, 3, none⟩ = some (.slice (some ⟨bl, off, none⟩) n c) ∧ (w5).cell? ⟨bl, off + j * 4, none⟩ = some (.slice (PA j) (PN j) (PC j)) ∧ (w5).cell? ⟨bl, off + j * 4 + 1, none⟩ = some (.int .i64 (Kd j)) ∧ (w5).cell? ⟨bl, off + j * 4 + 2, none⟩ = some (.int .i64 (J j)) ∧ (w5).cell? ⟨bl, off + j * 4 + 3, none⟩ = some (.slice (A j) (N j) (C j)) := ⟨z0.cell rfl, p0, p1, p2, p3⟩
      clear g1 g2 g3 g4 HR Hc q1 q2 q3 q4
      refine hK.out _ _ (fun _ => hS) ?_
      clear hK K
      try simp only [Act.put, List.setIfInBounds_toArray, List.set_cons_zero, List.set_cons_succ, List.getElem_toArray, List.getElem_cons_zero, List.getElem_cons_succ]
      refine wpN_take (i := 11) (v := ?v11) rfl (by kernel_rfl) (fun _ _ _ h => h) hS (Or.inl ⟨by rfl, ?hy11⟩) ?hr11
      case hy11 => (intro wS hSw; (try dsimp only at hSw); go_simp; (try with_reducible rfl))
      try simp only [Act.put, List.setIfInBounds_toArray, List.set_cons_zero, List.set_cons_succ, List.getElem_toArray, List.getElem_cons_zero, List.getElem_cons_succ]
      refine wpN_step (i := 12) (by kernel_rfl) rfl (fun K hK => ?_)
      go_simp
      refine hK.out _ _ (fun h => absurd h (by decide)) ?_
      clear hK K
      try simp only [Act.put, List.setIfInBounds_toArray, List.set_cons_zero, List.set_cons_succ, List.getElem_toArray, List.getElem_cons_zero, List.getElem_cons_succ]
      refine wpN_done (by kernel_rfl) ?_
      refine NoPanic.normal ?_
      have hbq : ∀ x, w.heap.size + x ≠ bl := fun x e => by have := hUs _ hUb; omega
      go_wp2_with fail
      refine ⟨⟨j + 1, by go_num, by omega, ?_, ?_, HS.out⟩, by simp [intOf]; omega⟩
      · exact (((z0.far _ _ (hbq 0)).far _ _ (hbq 0)).far _ _ (hbq 0)).far _ _ (hbq 0)
      · exact (((z1.far _ _ (hbq 1)).far _ _ (hbq 1)).far _ _ (hbq 1)).far _ _ (hbq 1)
    · have d0 : wr.cell? ⟨w.heap.size, 0, none⟩ = some (.slice pa binds.length pc) := y0.cell rfl
      have d1 : wr.cell? ⟨w.heap.size, 1, none⟩ = some (.int .i64 k) := y0.cell rfl
      have d2 : wr.cell? ⟨w.heap.size, 2, none⟩ = some (.int .i64 i) := y0.cell rfl
      have d3 : wr.cell? ⟨w.heap.size, 3, none⟩ = some (.slice a n c) := y0.cell rfl
      have r0 : wr.cell? ⟨w.heap.size + 1, 0, none⟩ = some (.slice none 0 0) := y1.cell rfl
      have r1 : wr.cell? ⟨w.heap.size + 1, 1, none⟩ = some (.int .i64 0) := y1.cell rfl
      have r2 : wr.cell? ⟨w.heap.size + 1, 2, none⟩ = some (.int .i64 0) := y1.cell rfl
      have r3 : wr.cell? ⟨w.heap.size + 1, 3, none⟩ = some (.slice none 0 0) := y1.cell rfl
      have f0 := y1.free 0
      have f1 := y1.free 1
      have f2 := y1.free 2
      have f3 := y1.free 3
      have HD := Lib.hid (hR.done hn (by omega) hb hm ha hr hd k i)
      have HO := Lib.hid hR.oft
      have HT := Lib.hid hR.thaw
      have hqn : ¬ U (w.heap.size + 1) := fun h => by have := hUs _ h; omega
      have hlj : ¬ (j : Int) < (n : Int) := by omega
      clear hR y0 y1 ih hb
      go_wp2_with fail
      refine bodyPost_ret (v := .agg #[.slice pa binds.length pc, .int .i64 k, .int .i64 i, .slice a n c]) (by simp [results, Try.results42, go_sem, r0, r1, r2, r3]) rfl ?_
      obtain ⟨w9, hw9⟩ : ∃ w9, ((((wr.setCell ⟨w.heap.size + 1, 0, none⟩ (.slice pa binds.length pc)).setCell ⟨w.heap.size + 1, 1, none⟩ (.int .i64 k)).setCell ⟨w.heap.size + 1, 2, none⟩ (.int .i64 i)).setCell ⟨w.heap.size + 1, 3, none⟩ (.slice a n c)) = w9 := ⟨_, rfl⟩
      have hk9 : Keep (fun q => q ≠ w.heap.size + 1) wr w9 := by rw [← hw9]; exact ((((Keep.refl _ _).setCell _ _ (by simp)).setCell _ _ (by simp)).setCell _ _ (by simp)).setCell _ _ (by simp)
      have hf9 : ∀ q o, w9.frozen? ⟨q, o, none⟩ = wr.frozen? ⟨q, o, none⟩ := fun q o => by rw [← hw9]; simp
      have ho9 : Off (fun q => U q ∨ q = pe) w w9 := by
        rw [← hw9]
        exact (((HO.out.set _ _ (.inr (by simp))).set _ _ (.inr (by simp))).set _ _ (.inr (by simp))).set _ _ (.inr (by simp))
      rw [hw9]
      refine ⟨i, rfl, ?_, ?_, fun q o hq hf => (hf9 q o).trans (HT.out q o hq hf), ho9⟩
      · rw [Rn.ren_eq, if_neg hk]
        exact HD.out.1.keep (hk9.weaken fun q hq e => hqn (e ▸ hq))
      · rw [Rn.errs_eq, if_neg hk]
        exact hk9 _ _ _ (by omega) HD.out.2
set_option maxRecDepth 100000 in
set_option maxHeartbeats 2000000 in
theorem renamed_b (d : Int) (hdd : -9223372036854775808 ≤ d ∧ d ≤ 9223372036854775807) (binds : List Ty) (k i : Int) (args : List Tm) (ih : ∀ t ∈ args, t.Fit → RenOw d t) (hfit : (Tm.mk binds k i args).Fit) (Z U : Nat → Prop) (w : World) (bv kv iv av : Value) (pe : Nat) (e0 : Int) (ht : IsOw Z w U bv kv iv av (.mk binds k i args)) (hUs : ∀ q, U q → q < w.heap.size) (hZ : ∀ q, Z q → q < w.heap.size ∧ ∀ o, w.frozen? ⟨q, o, none⟩ = false) (hpe : w.cell? ⟨pe, 0, none⟩ = some (.int .i64 e0)) (hpf : w.frozen? ⟨pe, 0, none⟩ = false) (hpU : ¬ U pe)  (hk : k = 2) (c1 : ¬ Rn.sm i d < 0) (c2 : ¬ Rn.sm i d > 1000) :
    Calls Try.prog 42 #[.agg #[bv, kv, iv, av], .int .i64 d, .pointer (some ⟨pe, 0, none⟩)] w fun e w' => ∃ i', e = .returned (.agg #[bv, kv, .int .i64 i', av]) ∧ IsOw Z w' U bv kv (.int .i64 i') av (Rn.ren d (.mk binds k i args)) ∧ w'.cell? ⟨pe, 0, none⟩ = some (.int .i64 (Rn.errs d (.mk binds k i args) e0)) ∧ Thaw w w' ∧ Off (fun q => U q ∨ q = pe) w w' := by
  cases ht with
  | mk U Ub Us bv k i a n c binds args bl off PA A PN PC N C Kd Ix hb hn hm ha hr hd h1 h2 h3 h4 h5 =>
  obtain ⟨pa, pc, rfl⟩ := hb.shape
  have hpl : pe < w.heap.size := Keep.lt hpe
  obtain ⟨hi0, hi1, hfa⟩ := Tm.fit_iff.1 hfit
  have hnn : n ≤ 9223372036854775807 := by unfold maxLen at hm; omega
  have Hsum := Lib.hid (sum_k i d ⟨hi0, hi1⟩ hdd)
  obtain rfl := hk
  obtain ⟨m, hmm⟩ : ∃ m, Rn.sm i d = m := ⟨_, rfl⟩
  rw [hmm] at Hsum c1 c2
  have IFN : Hid (Rn.note (Rn.sm i d) e0 = e0) := by show _ = _; rw [hmm]; unfold Rn.note Rn.code; rw [if_neg c1, if_neg c2, if_neg (by simp)]
  go_enter Try.func42, Try.ntmps42
  go_wp2_with fail
  obtain ⟨w3, hw3⟩ : ∃ w3, (w.alloc (.cells #[.slice pa binds.length pc, .int .i64 2, .int .i64 i, .slice a n c] 34)).alloc (.cells #[.slice none 0 0, .int .i64 0, .int .i64 0, .slice none 0 0] 34) = w3 := ⟨_, rfl⟩
  try rw [hw3]
  have B3 : Below w.heap.size w w3 := by rw [← hw3]; exact ((Below.refl _ _).alloc (Nat.le_refl _) _).alloc (by simp) _
  have x0 : Blk w3 w.heap.size #[.slice pa binds.length pc, .int .i64 2, .int .i64 i, .slice a n c] 34 := by rw [← hw3]; exact (Blk.new _ _ _ rfl).alloc _
  have x1 : Blk w3 (w.heap.size + 1) #[.slice none 0 0, .int .i64 0, .int .i64 0, .slice none 0 0] 34 := by rw [← hw3]; exact Blk.new _ _ _ (by simp)
  clear hw3
  have P3 : w3.cell? ⟨pe, 0, none⟩ = some (.int .i64 e0) := (B3.cell (p := ⟨pe, 0, none⟩) hpl).trans hpe
  have F3 : w3.frozen? ⟨pe, 0, none⟩ = false := Thaw.below B3 pe 0 hpl hpf
  have k1 : w3.cell? ⟨w.heap.size, 1, none⟩ = some (.int .i64 2) := x0.cell rfl
  have k2 : w3.cell? ⟨w.heap.size, 2, none⟩ = some (.int .i64 i) := x0.cell rfl
  have k3 : w3.cell? ⟨w.heap.size, 3, none⟩ = some (.slice a n c) := x0.cell rfl
  have O3 := Off.of_below (fun q => q = pe) B3
  have T3 := Thaw.below B3
  go_wp2_with fail
  refine (Hsum.out w3).mono ?_
  rintro e w4 ⟨rfl, rfl⟩
  have g2 := x0.free 2
  have hne : (⟨w.heap.size, 2, none⟩ : Addr) ≠ ⟨pe, 0, none⟩ := fun e => by cases e
  obtain ⟨w5, hw5⟩ : ∃ w5, w4.setCell ⟨w.heap.size, 2, none⟩ (.int .i64 m) = w5 := ⟨_, rfl⟩
  have O5 := O3.set ⟨w.heap.size, 2, none⟩ (.int .i64 m) (.inr (Nat.le_refl _))
  have T5 := T3.trans (Thaw.set w4 ⟨w.heap.size, 2, none⟩ (.int .i64 m)) B3.size
  have P5 : (w4.setCell ⟨w.heap.size, 2, none⟩ (.int .i64 m)).cell? ⟨pe, 0, none⟩ = some (.int .i64 e0) := by rw [World.cell?_setCell_other _ _ _ _ hne]; exact P3
  have F5 : (w4.setCell ⟨w.heap.size, 2, none⟩ (.int .i64 m)).frozen? ⟨pe, 0, none⟩ = false := by rw [World.frozen?_setCell]; exact F3
  have y0 := x0.set 2 (.int .i64 m)
  have y1 := x1.far ⟨w.heap.size, 2, none⟩ (.int .i64 m) (by simp)
  have c5 : (w4.setCell ⟨w.heap.size, 2, none⟩ (.int .i64 m)).cell? ⟨w.heap.size, 2, none⟩ = some (.int .i64 m) := World.cell?_setCell_same _ _ _ k2
  have c53 : (w4.setCell ⟨w.heap.size, 2, none⟩ (.int .i64 m)).cell? ⟨w.heap.size, 3, none⟩ = some (.slice a n c) := y0.cell rfl
  have S5 : w.heap.size ≤ (w4.setCell ⟨w.heap.size, 2, none⟩ (.int .i64 m)).heap.size := by simpa using B3.size
  rw [hw5] at O5 T5 P5 F5 y0 y1 c5 c53 S5
  clear x0 x1 B3 O3 T3 P3 F3
  go_wp2_with fail
  clear hw5
  obtain ⟨w7, hw7⟩ : ∃ w7, w5 = w7 := ⟨_, rfl⟩
  have O7 := O5
  have T7 := T5
  have P7 := P5
  rw [hw7] at O7 T7 P7 y0 y1 ⊢
  clear hw7 O5 T5 P5 F5 c5 c53 S5 k1 k2 k3 g2
  have R0 := RInv.start (d := d) (Z := Z) (U := U) (Ub := Ub) (Us := Us) (w7 := w7) hn (fun h => (ha h).2.1) (fun i q hi h => (hr i q hi h).1) hpU h1 h2 h3 h4 h5 O7 T7 P7
  clear O7 T7 P7
  go_loopw [51] (fun ii wr => ∃ j : Nat, ii = .int .i64 j ∧ j ≤ args.length ∧ Blk wr w.heap.size #[.slice pa binds.length pc, .int .i64 2, .int .i64 m, .slice a n c] 34 ∧ Blk wr (w.heap.size + 1) #[.slice none 0 0, .int .i64 0, .int .i64 0, .slice none 0 0] 34 ∧
    RInv d Z U Ub Us bl off n args PA A PN PC N C Kd pe e0 w j wr) (fun ii _ => args.length - (intOf ii).toNat)
  case atStart => exact ⟨0, rfl, by omega, y0, y1, R0⟩
  case round =>
    clear y0 y1 R0
    obtain ⟨j, rfl, hj, y0, y1, hR⟩ := hrel
    by_cases hlt : j < args.length
    · obtain ⟨rfl, hUb, hZb, hUbb⟩ := ha (by omega)
      clear ha
      obtain ⟨J, r5, r6⟩ := hR.cells
      obtain ⟨q1, q2, q3, q4⟩ := r5 j (by omega)
      have r6j := r6 j hlt
      rw [if_neg (by omega)] at r6j
      have hlt0 : (0 : Int) ≤ (j : Int) := Int.natCast_nonneg _
      have hlt1 : (j : Int) < (n : Int) := by omega
      have hsz := hR.oft.size
      have HR := Lib.hid hR.drew
      have Hc := Lib.hid (ih args[j] (List.getElem_mem hlt) (hfa _ (List.getElem_mem hlt)) Z (Us j) wr.drew _ _ _ _ pe _ (r6j.keep (Keep.refl _ _).drew) (fun q hq => Nat.lt_of_lt_of_le (hUs q (hr j q (by omega) hq).1) hsz)
        (fun q hq => ⟨Nat.lt_of_lt_of_le (hZ q hq).1 hsz, fun o => hR.thaw q o (hZ q hq).1 ((hZ q hq).2 o)⟩) hR.e (hR.thaw pe 0 hpl hpf) fun h => hpU (hr j pe (by omega) h).1)
      have HP : Hid (∀ o, wr.frozen? ⟨bl, o, none⟩ = false) := fun o => hR.thaw bl o (hZ bl hZb).1 ((hZ bl hZb).2 o)
      clear r6 r6j r5 hR ih
      go_wp2_with fail
      refine wp_region_noPanic (wp_region_need (S := fun w' => w'.cell? ⟨w.heap.size, 3, none⟩ = some (.slice (some ⟨bl, off, none⟩) n c) ∧ w'.cell? ⟨bl, off + j * 4, none⟩ = some (.slice (PA j) (PN j) (PC j)) ∧ w'.cell? ⟨bl, off + j * 4 + 1, none⟩ = some (.int .i64 (Kd j)) ∧ w'.cell? ⟨bl, off + j * 4 + 2, none⟩ = some (.int .i64 (J j)) ∧ w'.cell? ⟨bl, off + j * 4 + 3, none⟩ = some (.slice (A j) (N j) (C j))) (by kernel_rfl) ?_)
      have hS : (wr.drew).cell? ⟨w.heap.size, 3, none⟩ = some (.slice (some ⟨bl, off, none⟩) n c) ∧ (wr.drew).cell? ⟨bl, off + j * 4, none⟩ = some (.slice (PA j) (PN j) (PC j)) ∧ (wr.drew).cell? ⟨bl, off + j * 4 + 1, none⟩ = some (.int .i64 (Kd j)) ∧ (wr.drew).cell? ⟨bl, off + j * 4 + 2, none⟩ = some (.int .i64 (J j)) ∧ (wr.drew).cell? ⟨bl, off + j * 4 + 3, none⟩ = some (.slice (A j) (N j) (C j)) := ⟨y0.drew.cell rfl, q1, q2, q3, q4⟩
      refine wpN_take (i := 0) (v := ?v12) rfl (by kernel_rfl) (fun _ _ _ h => h) hS (Or.inl ⟨by rfl, ?hy12⟩) ?hr12
      case hy12 => (intro wS hSw; (try dsimp only at hSw); go_simp; (try with_reducible rfl))
      try simp only [Act.put, List.setIfInBounds_toArray, List.set_cons_zero, List.set_cons_succ, List.getElem_toArray, List.getElem_cons_zero, List.getElem_cons_succ]
      refine wpN_take (i := 1) (v := ?v13) rfl (by kernel_rfl) (fun _ _ _ h => h) hS (Or.inl ⟨by rfl, ?hy13⟩) ?hr13
      case hy13 => (intro wS hSw; (try dsimp only at hSw); go_simp; (try with_reducible rfl))
      try simp only [Act.put, List.setIfInBounds_toArray, List.set_cons_zero, List.set_cons_succ, List.getElem_toArray, List.getElem_cons_zero, List.getElem_cons_succ]
      refine wpN_take (i := 2) (v := ?v14) rfl (by kernel_rfl) (fun _ _ _ h => h) hS (Or.inl ⟨by rfl, ?hy14⟩) ?hr14
      case hy14 => (intro wS hSw; (try dsimp only at hSw); go_simp; (try with_reducible rfl))
      try simp only [Act.put, List.setIfInBounds_toArray, List.set_cons_zero, List.set_cons_succ, List.getElem_toArray, List.getElem_cons_zero, List.getElem_cons_succ]
      refine wpN_take (i := 3) (v := ?v15) rfl (by kernel_rfl) (fun _ _ _ h => h) hS (Or.inl ⟨by rfl, ?hy15⟩) ?hr15
      case hy15 => (intro wS hSw; (try dsimp only at hSw); go_simp; (try with_reducible rfl))
      try simp only [Act.put, List.setIfInBounds_toArray, List.set_cons_zero, List.set_cons_succ, List.getElem_toArray, List.getElem_cons_zero, List.getElem_cons_succ]
      refine wpN_take (i := 4) (v := ?v16) rfl (by kernel_rfl) (fun _ _ _ h => h) hS (Or.inl ⟨by rfl, ?hy16⟩) ?hr16
      case hy16 => (intro wS hSw; (try dsimp only at hSw); go_simp; (try with_reducible rfl))
      try simp only [Act.put, List.setIfInBounds_toArray, List.set_cons_zero, List.set_cons_succ, List.getElem_toArray, List.getElem_cons_zero, List.getElem_cons_succ]
      refine wpN_take (i := 5) (v := ?v17) rfl (by kernel_rfl) (fun _ _ _ h => h) hS (Or.inl ⟨by rfl, ?hy17⟩) ?hr17
      case hy17 => (intro wS hSw; (try dsimp only at hSw); go_simp; (try with_reducible rfl))
      try simp only [Act.put, List.setIfInBounds_toArray, List.set_cons_zero, List.set_cons_succ, List.getElem_toArray, List.getElem_cons_zero, List.getElem_cons_succ]
      refine wpN_take (i := 6) (v := ?v18) rfl (by kernel_rfl) (fun _ _ _ h => h) hS (Or.inl ⟨by rfl, ?hy18⟩) ?hr18
      case hy18 => (intro wS hSw; (try dsimp only at hSw); go_simp; (try with_reducible rfl))
      try simp only [Act.put, List.setIfInBounds_toArray, List.set_cons_zero, List.set_cons_succ, List.getElem_toArray, List.getElem_cons_zero, List.getElem_cons_succ]
      refine wpN_take (i := 7) (v := ?v19) rfl (by kernel_rfl) (fun _ _ _ h => h) hS (Or.inl ⟨by rfl, ?hy19⟩) ?hr19
      case hy19 => (intro wS hSw; (try dsimp only at hSw); go_simp; (try with_reducible rfl))
      try simp only [Act.put, List.setIfInBounds_toArray, List.set_cons_zero, List.set_cons_succ, List.getElem_toArray, List.getElem_cons_zero, List.getElem_cons_succ]
      refine wpN_take (i := 8) (v := ?v20) rfl (by kernel_rfl) (fun _ _ _ h => h) hS (Or.inl ⟨by rfl, ?hy20⟩) ?hr20
      case hy20 => (intro wS hSw; (try dsimp only at hSw); go_simp; (try with_reducible rfl))
      try simp only [Act.put, List.setIfInBounds_toArray, List.set_cons_zero, List.set_cons_succ, List.getElem_toArray, List.getElem_cons_zero, List.getElem_cons_succ]
      refine wpN_take (i := 9) (v := ?v21) rfl (by kernel_rfl) (fun _ _ _ h => h) hS (Or.inl ⟨by rfl, ?hy21⟩) ?hr21
      case hy21 => (intro wS hSw; (try dsimp only at hSw); go_simp; (try with_reducible rfl))
      try simp only [Act.put, List.setIfInBounds_toArray, List.set_cons_zero, List.set_cons_succ, List.getElem_toArray, List.getElem_cons_zero, List.getElem_cons_succ]
      refine wpN_step (i := 10) (by kernel_rfl) rfl (fun K hK => ?_)
      go_simp
      refine Hc.out.mono ?_
      rintro e w5 ⟨i', rfl, g1, g2, g3, g4⟩
      have hKp : Keep (fun q => q = bl) wr.drew w5 := g4.keep fun q hq e => by
        subst hq
        rcases e with e | e
        · exact (hr j q (by omega) e).2.1 rfl
        · exact hpU (e ▸ hUb)
      have hnq : ∀ x, ¬ (Us j (w.heap.size + x) ∨ w.heap.size + x = pe) := fun x e => by
        rcases e with e | e
        · have := hUs _ (hr j _ (by omega) e).1; omega
        · omega
      have z0 := g4.blk (y0.drew) (hnq 0)
      have z1 := g4.blk (y1.drew) (hnq 1)
      have HS := Lib.hid (HR.out.step hn hlt (fun h => ⟨hUb, hUbb⟩) hr hd hpU hpl g1 g2 g3 g4)
      have p0 := hKp _ _ _ rfl (show wr.drew.cell? _ = _ from q1)
      have p1 := hKp _ _ _ rfl (show wr.drew.cell? _ = _ from q2)
      have p2 := hKp _ _ _ rfl (show wr.drew.cell? _ = _ from q3)
      have p3 := hKp _ _ _ rfl (show wr.drew.cell? _ = _ from q4)
      have f0 := g3 bl (off + j * 4) (Keep.lt q1) (HP.out _)
      have f1 := g3 bl (off + j * 4 + 1) (Keep.lt q1) (HP.out _)
      have f2 := g3 bl (off + j * 4 + 2) (Keep.lt q1) (HP.out _)
      have f3 := g3 bl (off + j * 4 + 3) (Keep.lt q1) (HP.out _)
      have hS : (w5).cell? ⟨w.heap.size, 3, none⟩ = some (.slice (some ⟨bl, off, none⟩) n c) ∧ (w5).cell? ⟨bl, off + j * 4, none⟩ = some (.slice (PA j) (PN j) (PC j)) ∧ (w5).cell? ⟨bl, off + j * 4 + 1, none⟩ = some (.int .i64 (Kd j)) ∧ (w5).cell? ⟨bl, off + j * 4 + 2, none⟩ = some (.int .i64 (J j)) ∧ (w5).cell? ⟨bl, off + j * 4 + 3, none⟩ = some (.slice (A j) (N j) (C j)) := ⟨z0.cell rfl, p0, p1, p2, p3⟩
      clear g1 g2 g3 g4 HR Hc q1 q2 q3 q4
      refine hK.out _ _ (fun _ => hS) ?_
      clear hK K
      try simp only [Act.put, List.setIfInBounds_toArray, List.set_cons_zero, List.set_cons_succ, List.getElem_toArray, List.getElem_cons_zero, List.getElem_cons_succ]
      refine wpN_take (i := 11) (v := ?v22) rfl (by kernel_rfl) (fun _ _ _ h => h) hS (Or.inl ⟨by rfl, ?hy22⟩) ?hr22
      case hy22 => (intro wS hSw; (try dsimp only at hSw); go_simp; (try with_reducible rfl))
      try simp only [Act.put, List.setIfInBounds_toArray, List.set_cons_zero, List.set_cons_succ, List.getElem_toArray, List.getElem_cons_zero, List.getElem_cons_succ]
      refine wpN_step (i := 12) (by kernel_rfl) rfl (fun K hK => ?_)
      go_simp
      refine hK.out _ _ (fun h => absurd h (by decide)) ?_
      clear hK K
      try simp only [Act.put, List.setIfInBounds_toArray, List.set_cons_zero, List.set_cons_succ, List.getElem_toArray, List.getElem_cons_zero, List.getElem_cons_succ]
      refine wpN_done (by kernel_rfl) ?_
      refine NoPanic.normal ?_
      have hbq : ∀ x, w.heap.size + x ≠ bl := fun x e => by have := hUs _ hUb; omega
      go_wp2_with fail
      refine ⟨⟨j + 1, by go_num, by omega, ?_, ?_, HS.out⟩, by simp [intOf]; omega⟩
      · exact (((z0.far _ _ (hbq 0)).far _ _ (hbq 0)).far _ _ (hbq 0)).far _ _ (hbq 0)
      · exact (((z1.far _ _ (hbq 1)).far _ _ (hbq 1)).far _ _ (hbq 1)).far _ _ (hbq 1)
    · have d0 : wr.cell? ⟨w.heap.size, 0, none⟩ = some (.slice pa binds.length pc) := y0.cell rfl
      have d1 : wr.cell? ⟨w.heap.size, 1, none⟩ = some (.int .i64 2) := y0.cell rfl
      have d2 : wr.cell? ⟨w.heap.size, 2, none⟩ = some (.int .i64 m) := y0.cell rfl
      have d3 : wr.cell? ⟨w.heap.size, 3, none⟩ = some (.slice a n c) := y0.cell rfl
      have r0 : wr.cell? ⟨w.heap.size + 1, 0, none⟩ = some (.slice none 0 0) := y1.cell rfl
      have r1 : wr.cell? ⟨w.heap.size + 1, 1, none⟩ = some (.int .i64 0) := y1.cell rfl
      have r2 : wr.cell? ⟨w.heap.size + 1, 2, none⟩ = some (.int .i64 0) := y1.cell rfl
      have r3 : wr.cell? ⟨w.heap.size + 1, 3, none⟩ = some (.slice none 0 0) := y1.cell rfl
      have f0 := y1.free 0
      have f1 := y1.free 1
      have f2 := y1.free 2
      have f3 := y1.free 3
      have HD := Lib.hid (hR.done hn (by omega) hb hm ha hr hd 2 m)
      have HO := Lib.hid hR.oft
      have HT := Lib.hid hR.thaw
      have hqn : ¬ U (w.heap.size + 1) := fun h => by have := hUs _ h; omega
      have hlj : ¬ (j : Int) < (n : Int) := by omega
      clear hR y0 y1 ih hb
      go_wp2_with fail
      refine bodyPost_ret (v := .agg #[.slice pa binds.length pc, .int .i64 2, .int .i64 m, .slice a n c]) (by simp [results, Try.results42, go_sem, r0, r1, r2, r3]) rfl ?_
      obtain ⟨w9, hw9⟩ : ∃ w9, ((((wr.setCell ⟨w.heap.size + 1, 0, none⟩ (.slice pa binds.length pc)).setCell ⟨w.heap.size + 1, 1, none⟩ (.int .i64 2)).setCell ⟨w.heap.size + 1, 2, none⟩ (.int .i64 m)).setCell ⟨w.heap.size + 1, 3, none⟩ (.slice a n c)) = w9 := ⟨_, rfl⟩
      have hk9 : Keep (fun q => q ≠ w.heap.size + 1) wr w9 := by rw [← hw9]; exact ((((Keep.refl _ _).setCell _ _ (by simp)).setCell _ _ (by simp)).setCell _ _ (by simp)).setCell _ _ (by simp)
      have hf9 : ∀ q o, w9.frozen? ⟨q, o, none⟩ = wr.frozen? ⟨q, o, none⟩ := fun q o => by rw [← hw9]; simp
      have ho9 : Off (fun q => U q ∨ q = pe) w w9 := by
        rw [← hw9]
        exact (((HO.out.set _ _ (.inr (by simp))).set _ _ (.inr (by simp))).set _ _ (.inr (by simp))).set _ _ (.inr (by simp))
      rw [hw9]
      refine ⟨m, rfl, ?_, ?_, fun q o hq hf => (hf9 q o).trans (HT.out q o hq hf), ho9⟩
      · rw [Rn.ren_eq, if_pos rfl, hmm]
        exact HD.out.1.keep (hk9.weaken fun q hq e => hqn (e ▸ hq))
      · rw [Rn.errs_eq, if_pos rfl, IFN.out]
        exact hk9 _ _ _ (by omega) HD.out.2
end Go.Proofs.Ytcblpjheoclkeaa

