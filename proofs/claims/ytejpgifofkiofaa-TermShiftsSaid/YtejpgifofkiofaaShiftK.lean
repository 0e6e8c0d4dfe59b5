/-
  term.Shift.
-/
import Derived.Test.YtejpgifofkiofaaShiftLaw
import Derived.Test.YtejpgifofkiofaaTurnedS
import Derived.Test.YtejpgifofkiofaaFloat
namespace Go.Proofs.Ytejpgifofkiofaa
open Go.RowKit

theorem shift_rng (b f : Int) (hf : 0 ≤ f) (e x : Int) (hx : 0 ≤ x) : 0 ≤ (shiftF b f e x).2 ∧ ((shiftF b f e x).2 ≤ x ∨ (shiftF b f e x).2 ≤ 1000) := by
  unfold shiftF
  by_cases h1 : x < f
  · rw [if_pos h1]; exact ⟨hx, .inl (Int.le_refl _)⟩
  · rw [if_neg h1]
    by_cases h2 : argBad b f x
    · rw [if_pos h2]; exact ⟨Int.le_refl _, .inr (by simp)⟩
    · rw [if_neg h2]
      by_cases h3 : longBad b f x
      · rw [if_pos h3]; exact ⟨Int.le_refl _, .inr (by simp)⟩
      · rw [if_neg h3]
        unfold argBad at h2
        unfold longBad at h3
        constructor
        · show 0 ≤ x + b; omega
        · right; show x + b ≤ 1000; omega

def ShiftRo (p0 p1 p2 pe k : Nat) : Prop := k = p0 ∨ k = p1 ∨ k = p2 ∨ k = pe
theorem turner_shift (p0 p1 p2 pe : Nat) (b f : Int) (hb : -9223372036854775808 ≤ b ∧ b ≤ 9223372036854775807) (hf : 0 ≤ f ∧ f ≤ 9223372036854775807) : TurnerS p0 p1 p2 (some pe) (ShiftRo p0 p1 p2 pe) (ShiftSt p0 p1 p2 pe b f) (shiftF b f) where
  call := fun s x w hs h0 h1 => shift2_k p0 p1 p2 pe b f hb hf w s x hs h0 h1
  keep := fun s w w' ⟨x0, x1, x2, xe, d⟩ h => ⟨x0.same (h _ (.inl rfl)), x1.same (h _ (.inr (.inl rfl))), x2.same (h _ (.inr (.inr (.inl rfl)))), xe.same (h _ (.inr (.inr (.inr rfl)))), d⟩
  sub := fun k hk => by cases hk; exact .inr (.inr (.inr rfl))
  rng := fun s x h => shift_rng b f hf.1 s x h

/-- a term and a fault's number -/
def ShiftPost (p : Tm × Int) (w : World) (e : Ending) (w' : World) : Prop := ∃ b k i a, e = .returned (.tuple #[.agg #[b, k, i, a], .int .i64 p.2]) ∧ IsTm (fun q => w.heap.size ≤ q) w' b k i a p.1 ∧ Below w.heap.size w w'

set_option maxRecDepth 100000 in
set_option maxHeartbeats 1000000 in
theorem shift_k {F : Nat → Prop} {w : World} {tb tk ti ta : Value} {t : Tm} (ht : IsTm F w tb tk ti ta t) (hsz : t.full ≤ 80000) (hfit : t.Fit) (b f : Int) (hb : -9223372036854775808 ≤ b ∧ b ≤ 9223372036854775807) (hf : -9223372036854775808 ≤ f ∧ f ≤ 9223372036854775807) :
    Calls Try.prog 27 #[.agg #[tb, tk, ti, ta], .int .i64 b, .int .i64 f] w (ShiftPost (t.shift b f) w) := by
  have Ht := Lib.hid (ht.weaken (F' := fun q => F q ∧ q < w.heap.size) fun q h1 h2 => ⟨h2, h1⟩)
  obtain ⟨pa, pc, qa, qc, rfl, rfl, rfl, rfl⟩ := ht.shape
  clear ht
  obtain ⟨x1, hx1⟩ : ∃ x, t.binds.length = x := ⟨_, rfl⟩
  obtain ⟨x2, hx2⟩ : ∃ x, t.args.length = x := ⟨_, rfl⟩
  obtain ⟨x3, hx3⟩ : ∃ x, t.kind = x := ⟨_, rfl⟩
  obtain ⟨x4, hx4⟩ : ∃ x, t.index = x := ⟨_, rfl⟩
  rw [hx1, hx2, hx3, hx4] at Ht ⊢
  clear hx1 hx2 hx3 hx4
  obtain ⟨P, hP⟩ : ∃ P, t.shift b f = P := ⟨_, rfl⟩
  rw [hP]
  by_cases hf0 : f < 0
  · have HP : Hid (P = (Tm.zero, 1)) := by show _ = _; rw [← hP, Tm.shift, if_pos hf0]
    clear hP
    go_enter Try.func27, Try.ntmps27
    go_wp2_with fail
    refine bodyPost_ret (v := .tuple #[.agg #[.slice none 0 0, .int .i64 0, .int .i64 0, .slice none 0 0], .int .i64 1]) (by simp [results, Try.results27, go_sem]) rfl ?_
    rw [HP.out]
    exact ⟨_, _, _, _, rfl, isTm_zero _ _, ((((Below.refl _ _).alloc (Nat.le_refl _) _).alloc (by simp) _).alloc (by simp; omega) _).alloc (by simp; omega) _⟩
  · have HP : Hid (P = if shiftCode b f (t.looses 0) = 0 then (t.mapl (grow b f) 0, 0) else (Tm.zero, shiftCode b f (t.looses 0))) := by show _ = _; rw [← hP, Tm.shift, if_neg hf0]
    clear hP
    have Hmv := Lib.hid (mapl_shiftV b f t 0)
    obtain ⟨cc, hcc⟩ : ∃ cc, shiftCode b f (t.looses 0) = cc := ⟨_, rfl⟩
    rw [hcc] at HP Hmv
    obtain ⟨M, hM⟩ : ∃ M, t.mapl (shiftV b f) 0 = M := ⟨_, rfl⟩
    rw [hM] at Hmv
    have Hcall : Hid (∀ w6 : World, Below w.heap.size w w6 → w.heap.size + 6 ≤ w6.heap.size → ShiftSt (w.heap.size + 1 + 1) (w.heap.size + 1) (w.heap.size + 1 + 1 + 1 + 1 + 1) (w.heap.size + 1 + 1 + 1 + 1) b f 0 w6 →
        Calls Try.prog 89 #[.agg #[.slice pa x1 pc, .int .i64 x3, .int .i64 x4, .slice qa x2 qc], .int .i64 0, .func (.func 92) #[] #[.pointer (some ⟨w.heap.size + 1 + 1, 0, none⟩), .pointer (some ⟨w.heap.size + 1, 0, none⟩), .pointer (some ⟨w.heap.size + 1 + 1 + 1 + 1 + 1, 0, none⟩)]] w6
          (TurnPost (some (w.heap.size + 1 + 1 + 1 + 1)) (ShiftSt (w.heap.size + 1 + 1) (w.heap.size + 1) (w.heap.size + 1 + 1 + 1 + 1 + 1) (w.heap.size + 1 + 1 + 1 + 1) b f) (cc, M) w6)) := fun w6 hb6 hs6 hst => by
      have h := turned_kS _ _ _ (turner_shift (w.heap.size + 1 + 1) (w.heap.size + 1) (w.heap.size + 1 + 1 + 1 + 1 + 1) (w.heap.size + 1 + 1 + 1 + 1) b f hb ⟨by omega, hf.2⟩) t (fun q => F q ∧ q < w.heap.size) w _ _ _ _ Ht.out (fun k hk hq => by cases hk; have := hq.2; omega) 0 0 w6 ((Keep.refl _ _).below hb6)
        (fun k hk => by rcases hk with h | h | h | h <;> omega) hst (Int.le_refl _) (by omega) hfit
      rw [shiftF_eq, Tm.turn_split, fold_code, hcc, hM] at h
      exact h
    clear hcc hM Ht
    go_enter Try.func27, Try.ntmps27
    go_wp2_with fail
    obtain ⟨w6, hw6⟩ : ∃ w6, (((((w.alloc (.cells #[.slice pa x1 pc, .int .i64 x3, .int .i64 x4, .slice qa x2 qc] 37)).alloc (.cells #[.int .i64 b] 3)).alloc (.cells #[.int .i64 f] 3)).alloc (.cells #[.slice none 0 0, .int .i64 0, .int .i64 0, .slice none 0 0] 37)).alloc (.cells #[.int .i64 0] 52)).alloc (.cells #[.func (.func 91) #[] #[.pointer (some ⟨w.heap.size + 1 + 1 + 1 + 1, 0, none⟩)]] 127) = w6 := ⟨_, rfl⟩
    have B6 : Below w.heap.size w w6 := by rw [← hw6]; exact ((((((Below.refl _ _).alloc (Nat.le_refl _) _).alloc (by simp) _).alloc (by simp; omega) _).alloc (by simp; omega) _).alloc (by simp; omega) _).alloc (by simp; omega) _
    have hs6 : w6.heap.size = w.heap.size + 6 := by rw [← hw6]; simp
    have st6 : ShiftSt (w.heap.size + 1 + 1) (w.heap.size + 1) (w.heap.size + 1 + 1 + 1 + 1 + 1) (w.heap.size + 1 + 1 + 1 + 1) b f 0 w6 := by
      rw [← hw6]
      exact ⟨(((Blk.new _ _ _ (by simp)).alloc _).alloc _).alloc _, ((((Blk.new _ _ _ (by simp)).alloc _).alloc _).alloc _).alloc _, Blk.new _ _ _ (by simp), (Blk.new _ _ _ (by simp)).alloc _, by omega, by omega, by omega⟩
    have xr : Blk w6 (w.heap.size + 1 + 1 + 1) #[.slice none 0 0, .int .i64 0, .int .i64 0, .slice none 0 0] 37 := by rw [← hw6]; exact ((Blk.new _ _ _ (by simp)).alloc _).alloc _
    try rw [hw6]
    clear hw6
    refine (Hcall.out w6 B6 (by omega) st6).mono ?_
    rintro e w7 ⟨b', k', i', a', rfl, hT, hst, hg⟩
    have B7 := B6.grown hg (by omega) (fun k hk => by cases hk; omega)
    have yr := xr.grown hg (by simp)
    have xe := hst.2.2.2.1
    obtain ⟨pa', pc', qa', qc', rfl, rfl, rfl, rfl⟩ := hT.shape
    generalize M.binds.length = y1 at *
    generalize M.args.length = y2 at *
    generalize M.kind = y3 at *
    generalize M.index = y4 at *
    have HT := Lib.hid (hT.weaken (F' := fun q => w.heap.size + 6 ≤ q) fun q _ h => by omega)
    clear hT hst hg st6 xr
    have ce : w7.cell? ⟨w.heap.size + 1 + 1 + 1 + 1, 0, none⟩ = some (.int .i64 cc) := xe.cell rfl
    have r0 : w7.cell? ⟨w.heap.size + 1 + 1 + 1, 0, none⟩ = some (.slice none 0 0) := yr.cell rfl
    have r1 : w7.cell? ⟨w.heap.size + 1 + 1 + 1, 1, none⟩ = some (.int .i64 0) := yr.cell rfl
    have r2 : w7.cell? ⟨w.heap.size + 1 + 1 + 1, 2, none⟩ = some (.int .i64 0) := yr.cell rfl
    have r3 : w7.cell? ⟨w.heap.size + 1 + 1 + 1, 3, none⟩ = some (.slice none 0 0) := yr.cell rfl
    have f0 := yr.free 0
    have f1 := yr.free 1
    have f2 := yr.free 2
    have f3 := yr.free 3
    have hle := xe.lt
    have hlr := yr.lt
    have hs7 := B7.size
    by_cases h0 : cc = 0
    · subst h0
      have Hmm := Lib.hid (Hmv.out rfl)
      have HPP : Hid (P = (M, 0)) := by show _ = _; rw [HP.out, if_pos rfl, Hmm.out]
      clear HP Hmv Hmm
      go_wp2_with fail
      have z := ((((yr.set 0 (.slice pa' y1 pc')).set 1 (.int .i64 y3)).set 2 (.int .i64 y4)).set 3 (.slice qa' y2 qc')).alloc (.cells #[.slice pa' y1 pc', .int .i64 y3, .int .i64 y4, .slice qa' y2 qc'] 37)
      have z0 := z.cell (i := 0) (v := .slice pa' y1 pc') rfl
      have z1 := z.cell (i := 1) (v := .int .i64 y3) rfl
      have z2 := z.cell (i := 2) (v := .int .i64 y4) rfl
      have z3 := z.cell (i := 3) (v := .slice qa' y2 qc') rfl
      refine bodyPost_ret (v := .tuple #[.agg #[.slice pa' y1 pc', .int .i64 y3, .int .i64 y4, .slice qa' y2 qc'], .int .i64 0]) (by simp [results, Try.results27, go_sem, z0, z1, z2, z3]) rfl ?_
      rw [HPP.out]
      refine ⟨_, _, _, _, rfl, ?_, ((((B7.setCell (by simp <;> omega) _).setCell (by simp <;> omega) _).setCell (by simp <;> omega) _).setCell (by simp <;> omega) _).alloc (by simpa using hs7) _⟩
      exact (((((HT.out.keep ((Keep.refl _ _).setCell ⟨w.heap.size + 1 + 1 + 1, 0, none⟩ _ (by simp <;> omega))).keep ((Keep.refl _ _).setCell ⟨w.heap.size + 1 + 1 + 1, 1, none⟩ _ (by simp <;> omega))).keep ((Keep.refl _ _).setCell ⟨w.heap.size + 1 + 1 + 1, 2, none⟩ _ (by simp <;> omega))).keep ((Keep.refl _ _).setCell ⟨w.heap.size + 1 + 1 + 1, 3, none⟩ _ (by simp <;> omega))).keep ((Keep.refl _ _).alloc _)).weaken fun q _ h => by omega
    · have hg0 : (cc == 0) = false := by simpa using h0
      have hg1 : (cc != 0) = true := by simpa using h0
      have HPP : Hid (P = (Tm.zero, cc)) := by show _ = _; rw [HP.out, if_neg h0]
      clear HP Hmv
      go_wp2_with fail
      obtain ⟨w8, hw8⟩ : ∃ w8, w7.alloc (.cells #[.slice pa' y1 pc', .int .i64 y3, .int .i64 y4, .slice qa' y2 qc'] 37) = w8 := ⟨_, rfl⟩
      have B8' : Below w.heap.size w w8 := by rw [← hw8]; exact B7.alloc hs7 _
      have zr := (yr.alloc (.cells #[.slice pa' y1 pc', .int .i64 y3, .int .i64 y4, .slice qa' y2 qc'] 37)).drew
      have ze := (xe.alloc (.cells #[.slice pa' y1 pc', .int .i64 y3, .int .i64 y4, .slice qa' y2 qc'] 37)).drew
      rw [hw8] at zr ze
      rw [hw8]
      clear hw8 yr xe ce r0 r1 r2 r3 f0 f1 f2 f3
      have B8 := B8'.drew
      clear B8'
      refine wp_region_noPanic (wp_region_need (S := fun w' => True) (by kernel_rfl) ?_)
      obtain ⟨w9, hw9⟩ : ∃ w9, w8.drew = w9 := ⟨_, rfl⟩
      rw [hw9] at B8 zr ze ⊢
      clear hw9
      have ce : w9.cell? ⟨w.heap.size + 1 + 1 + 1 + 1, 0, none⟩ = some (.int .i64 cc) := ze.cell rfl
      have r0 : w9.cell? ⟨w.heap.size + 1 + 1 + 1, 0, none⟩ = some (.slice none 0 0) := zr.cell rfl
      have r1 : w9.cell? ⟨w.heap.size + 1 + 1 + 1, 1, none⟩ = some (.int .i64 0) := zr.cell rfl
      have r2 : w9.cell? ⟨w.heap.size + 1 + 1 + 1, 2, none⟩ = some (.int .i64 0) := zr.cell rfl
      have r3 : w9.cell? ⟨w.heap.size + 1 + 1 + 1, 3, none⟩ = some (.slice none 0 0) := zr.cell rfl
      have f0 := zr.free 0
      have f1 := zr.free 1
      have f2 := zr.free 2
      have f3 := zr.free 3
      have z := ((((zr.set 0 (.slice none 0 0)).set 1 (.int .i64 0)).set 2 (.int .i64 0)).set 3 (.slice none 0 0))
      have z0 := z.cell (i := 0) (v := .slice none 0 0) rfl
      have z1 := z.cell (i := 1) (v := .int .i64 0) rfl
      have z2 := z.cell (i := 2) (v := .int .i64 0) rfl
      have z3 := z.cell (i := 3) (v := .slice none 0 0) rfl
      have hS : True := trivial
      refine wpN_take (i := 0) (v := ?v1) rfl (by kernel_rfl) (fun _ _ _ h => h) hS (Or.inl ⟨by rfl, ?hy1⟩) ?hr1
      case hy1 => (intro wS hSw; (try dsimp only at hSw); go_simp; (try with_reducible rfl))
      try simp only [Act.put, List.setIfInBounds_toArray, List.set_cons_zero, List.set_cons_succ, List.getElem_toArray, List.getElem_cons_zero, List.getElem_cons_succ]
      refine wpN_pick [1, 2] (by kernel_rfl) (by simp) (pick_two ?_ ?_)
      · refine wpOp_step (i := 1) rfl (fun K hK => ?_)
        have hK := Lib.hid hK
        try simp only [Act.put, List.setIfInBounds_toArray, List.set_cons_zero, List.set_cons_succ, List.getElem_toArray, List.getElem_cons_zero, List.getElem_cons_succ]
        go_simp
        refine hK.out _ _ ⟨fun _ => trivial, ?_⟩
        try simp only [Act.put, List.setIfInBounds_toArray, List.set_cons_zero, List.set_cons_succ, List.getElem_toArray, List.getElem_cons_zero, List.getElem_cons_succ]
        · skip
          refine wpN_step (i := 2) (by kernel_rfl) rfl (fun K hK => ?_)
          go_simp
          refine hK.out _ _ (fun h => absurd h (by decide)) ?_
          clear hK K
          try simp only [Act.put, List.setIfInBounds_toArray, List.set_cons_zero, List.set_cons_succ, List.getElem_toArray, List.getElem_cons_zero, List.getElem_cons_succ]
          refine wpN_step (i := 3) (by kernel_rfl) rfl (fun K hK => ?_)
          go_simp
          refine hK.out _ _ (fun h => absurd h (by decide)) ?_
          clear hK K
          try simp only [Act.put, List.setIfInBounds_toArray, List.set_cons_zero, List.set_cons_succ, List.getElem_toArray, List.getElem_cons_zero, List.getElem_cons_succ]
          refine wpN_done (by kernel_rfl) ?_
          refine NoPanic.normal ?_
          go_wp2_with fail
          refine bodyPost_ret (v := .tuple #[.agg #[.slice none 0 0, .int .i64 0, .int .i64 0, .slice none 0 0], .int .i64 cc]) (by simp [results, Try.results27, go_sem, z0, z1, z2, z3]) rfl ?_
          rw [HPP.out]
          exact ⟨_, _, _, _, rfl, isTm_zero _ _, (((B8.setCell (by simp <;> omega) _).setCell (by simp <;> omega) _).setCell (by simp <;> omega) _).setCell (by simp <;> omega) _⟩
      · refine wpOp_step (i := 2) rfl (fun K hK => ?_)
        have hK := Lib.hid hK
        try simp only [Act.put, List.setIfInBounds_toArray, List.set_cons_zero, List.set_cons_succ, List.getElem_toArray, List.getElem_cons_zero, List.getElem_cons_succ]
        go_simp
        refine hK.out _ _ ⟨fun _ => trivial, ?_⟩
        try simp only [Act.put, List.setIfInBounds_toArray, List.set_cons_zero, List.set_cons_succ, List.getElem_toArray, List.getElem_cons_zero, List.getElem_cons_succ]
        · skip
          refine wpN_step (i := 1) (by kernel_rfl) rfl (fun K hK => ?_)
          go_simp
          refine hK.out _ _ (fun _ => trivial) ?_
          clear hK K
          try simp only [Act.put, List.setIfInBounds_toArray, List.set_cons_zero, List.set_cons_succ, List.getElem_toArray, List.getElem_cons_zero, List.getElem_cons_succ]
          refine wpN_step (i := 3) (by kernel_rfl) rfl (fun K hK => ?_)
          go_simp
          refine hK.out _ _ (fun h => absurd h (by decide)) ?_
          clear hK K
          try simp only [Act.put, List.setIfInBounds_toArray, List.set_cons_zero, List.set_cons_succ, List.getElem_toArray, List.getElem_cons_zero, List.getElem_cons_succ]
          refine wpN_done (by kernel_rfl) ?_
          refine NoPanic.normal ?_
          go_wp2_with fail
          refine bodyPost_ret (v := .tuple #[.agg #[.slice none 0 0, .int .i64 0, .int .i64 0, .slice none 0 0], .int .i64 cc]) (by simp [results, Try.results27, go_sem, z0, z1, z2, z3]) rfl ?_
          rw [HPP.out]
          exact ⟨_, _, _, _, rfl, isTm_zero _ _, (((B8.setCell (by simp <;> omega) _).setCell (by simp <;> omega) _).setCell (by simp <;> omega) _).setCell (by simp <;> omega) _⟩
end Go.Proofs.Ytejpgifofkiofaa
