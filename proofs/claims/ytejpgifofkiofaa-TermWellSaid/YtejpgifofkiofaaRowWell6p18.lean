/-
  term.Copy, term.Body.
-/
import Derived.Test.YtejpgifofkiofaaRowWell6p17
set_option linter.unusedVariables false
set_option linter.unusedSimpArgs false
namespace Go.Proofs.Ytejpgifofkiofaa
open Go.RowKit

theorem copy1_k (w : World) (x : Int) : Calls Try.prog 90 #[.int .i64 x] w fun e w' => e = .returned (.int .i64 x) ∧ True ∧ w.grownBy w' none := by
  go_enter Try.func90, Try.ntmps90
  go_wp2_with fail
  go_ret
  exact ⟨rfl, trivial, World.grownBy.refl _ _⟩

theorem turner_copy : TurnerC none (fun _ => False) (fun (_ : Unit) (_ : World) => True) (fun s x => (s, x)) where
  call := fun s x w _ _ _ => copy1_k w x
  keep := fun _ _ _ _ _ => trivial
  sub := fun _ h => by cases h
  rng := fun _ x h => ⟨h, .inl (Int.le_refl _)⟩

theorem Tm.turns_id {l : List Tm} (h : ∀ t ∈ l, ∀ (s : Unit) (n : Int), Tm.turn (fun s x => (s, x)) t s n = (s, t)) : ∀ (s : Unit) (n : Int), Tm.turns (fun s x => (s, x)) l s n = (s, l) := by
  induction l with
  | nil => intro s n; simp [turns]
  | cons t l ih =>
    intro s n
    have h1 := ih (fun u hu => h u (by simp [hu]))
    have h2 := h t (by simp)
    simp [turns, h1, h2]
theorem Tm.turn_id (t : Tm) : ∀ (s : Unit) (n : Int), Tm.turn (fun s x => (s, x)) t s n = (s, t) := by
  induction t using Tm.ind with
  | h b k i a ih =>
    intro s n
    have h := Tm.turns_id ih
    rw [turn]
    simp only [h]
    by_cases hc : k = 0 ∧ n + (b.length : Int) ≤ i
    · simp only [if_pos hc]
      have : n + (b.length : Int) + (i - (n + (b.length : Int))) = i := by omega
      rw [this]
    · simp only [if_neg hc]

theorem below_of_gb {w w' : World} (h : w.grownBy w' none) : Below w.heap.size w w' := ⟨h.os, h.tape, h.output, h.size, fun k hk => h.block k hk (by simp)⟩

set_option maxRecDepth 100000 in
set_option maxHeartbeats 1000000 in
theorem copy_k {F : Nat → Prop} {w : World} {b k i a : Value} {t : Tm} (ht : IsTm F w b k i a t) (hsz : t.full ≤ 80000) (hfit : t.Fit) :
    Calls Try.prog 26 #[.agg #[b, k, i, a]] w (FreshTm t w) := by
  have Ht : Hid (∀ w' : World, Below w.heap.size w w' → Calls Try.prog 89 #[.agg #[b, k, i, a], .int .i64 0, .func (.func 90) #[] #[]] w' (FreshTm t w')) := fun w' hb => by
    have h := turned_kC turner_copy t F w b k i a ht (fun _ h => by cases h) () 0 w' ((Keep.refl _ _).below hb) (fun _ h => h.elim) trivial (Int.le_refl _) (by omega) hfit
    refine h.mono ?_
    rintro e w2 ⟨b', k', i', a', rfl, h1, _, h3⟩
    rw [Tm.turn_id] at h1
    exact ⟨b', k', i', a', rfl, h1, below_of_gb h3⟩
  obtain ⟨pa, pc, qa, qc, rfl, rfl, rfl, rfl⟩ := ht.shape
  clear ht
  obtain ⟨x1, hx1⟩ : ∃ x, t.binds.length = x := ⟨_, rfl⟩
  obtain ⟨x2, hx2⟩ : ∃ x, t.args.length = x := ⟨_, rfl⟩
  obtain ⟨x3, hx3⟩ : ∃ x, t.kind = x := ⟨_, rfl⟩
  obtain ⟨x4, hx4⟩ : ∃ x, t.index = x := ⟨_, rfl⟩
  rw [hx1, hx2, hx3, hx4] at Ht ⊢
  have Hx1 := Lib.hid hx1; have Hx2 := Lib.hid hx2; have Hx3 := Lib.hid hx3; have Hx4 := Lib.hid hx4
  clear hx1 hx2 hx3 hx4
  go_enter Try.func26, Try.ntmps26
  go_wp2_with fail
  obtain ⟨w3, hw3⟩ : ∃ w3, (w.alloc (.cells #[.slice pa x1 pc, .int .i64 x3, .int .i64 x4, .slice qa x2 qc] 37)).alloc (.cells #[.slice none 0 0, .int .i64 0, .int .i64 0, .slice none 0 0] 37) = w3 := ⟨_, rfl⟩
  have B3 : Below w.heap.size w w3 := by rw [← hw3]; exact ((Below.refl _ _).alloc (Nat.le_refl _) _).alloc (by simp) _
  have x2' : Blk w3 (w.heap.size + 1) #[.slice none 0 0, .int .i64 0, .int .i64 0, .slice none 0 0] 37 := by rw [← hw3]; exact Blk.new _ _ _ (by simp)
  try rw [hw3]
  clear hw3
  refine (Ht.out w3 B3).mono ?_
  rintro e w4 ⟨b', k', i', a', rfl, hT, hb4⟩
  have y2 := x2'.below hb4
  have B4 := B3.trans (hb4.mono B3.size)
  have hlt := x2'.lt
  obtain ⟨pa', pc', qa', qc', rfl, rfl, rfl, rfl⟩ := hT.shape
  rw [Hx1.out, Hx2.out, Hx3.out, Hx4.out] at hT ⊢
  have r0 : w4.cell? ⟨w.heap.size + 1, 0, none⟩ = some (.slice none 0 0) := y2.cell rfl
  have r1 : w4.cell? ⟨w.heap.size + 1, 1, none⟩ = some (.int .i64 0) := y2.cell rfl
  have r2 : w4.cell? ⟨w.heap.size + 1, 2, none⟩ = some (.int .i64 0) := y2.cell rfl
  have r3 : w4.cell? ⟨w.heap.size + 1, 3, none⟩ = some (.slice none 0 0) := y2.cell rfl
  have f0 := y2.free 0
  have f1 := y2.free 1
  have f2 := y2.free 2
  have f3 := y2.free 3
  have HT := Lib.hid (hT.weaken (F' := fun q => w.heap.size + 2 ≤ q) fun q _ h => by omega)
  clear hT
  go_wp2_with fail
  refine bodyPost_ret (v := .agg #[.slice pa' x1 pc', .int .i64 x3, .int .i64 x4, .slice qa' x2 qc']) (by simp [results, Try.results26, go_sem, r0, r1, r2, r3]) rfl ?_
  refine ⟨_, _, _, _, rfl, ?_, (((B4.setCell (by simp <;> omega) _).setCell (by simp <;> omega) _).setCell (by simp <;> omega) _).setCell (by simp <;> omega) _⟩
  exact ((((HT.out.keep ((Keep.refl _ _).setCell ⟨w.heap.size + 1, 0, none⟩ _ (by simp <;> omega))).keep ((Keep.refl _ _).setCell ⟨w.heap.size + 1, 1, none⟩ _ (by simp <;> omega))).keep ((Keep.refl _ _).setCell ⟨w.heap.size + 1, 2, none⟩ _ (by simp <;> omega))).keep ((Keep.refl _ _).setCell ⟨w.heap.size + 1, 3, none⟩ _ (by simp <;> omega))).weaken fun q _ h => by omega

set_option maxRecDepth 100000 in
set_option maxHeartbeats 1000000 in
theorem body_k {F : Nat → Prop} {w : World} {b k i a : Value} {t : Tm} (ht : IsTm F w b k i a t) (hsz : t.full ≤ 80000) (hfit : t.Fit) :
    Calls Try.prog 25 #[.agg #[b, k, i, a]] w (FreshTm (.mk [] t.kind t.index t.args) w) := by
  have Ht : Hid (∀ w' : World, Below w.heap.size w w' → Calls Try.prog 26 #[.agg #[b, k, i, a]] w' (FreshTm t w')) := fun w' hb => copy_k (ht.bel hb) hsz hfit
  obtain ⟨pa, pc, qa, qc, rfl, rfl, rfl, rfl⟩ := ht.shape
  clear ht
  obtain ⟨x1, hx1⟩ : ∃ x, t.binds.length = x := ⟨_, rfl⟩
  obtain ⟨x2, hx2⟩ : ∃ x, t.args.length = x := ⟨_, rfl⟩
  obtain ⟨x3, hx3⟩ : ∃ x, t.kind = x := ⟨_, rfl⟩
  obtain ⟨x4, hx4⟩ : ∃ x, t.index = x := ⟨_, rfl⟩
  rw [hx1, hx2, hx3, hx4] at Ht ⊢
  have Hx1 := Lib.hid hx1; have Hx2 := Lib.hid hx2; have Hx3 := Lib.hid hx3; have Hx4 := Lib.hid hx4
  clear hx1 hx2 hx3 hx4
  go_enter Try.func25, Try.ntmps25
  go_wp2_with fail
  obtain ⟨w3, hw3⟩ : ∃ w3, (w.alloc (.cells #[.slice pa x1 pc, .int .i64 x3, .int .i64 x4, .slice qa x2 qc] 37)).alloc (.cells #[.slice none 0 0, .int .i64 0, .int .i64 0, .slice none 0 0] 37) = w3 := ⟨_, rfl⟩
  have B3 : Below w.heap.size w w3 := by rw [← hw3]; exact ((Below.refl _ _).alloc (Nat.le_refl _) _).alloc (by simp) _
  have x2' : Blk w3 (w.heap.size + 1) #[.slice none 0 0, .int .i64 0, .int .i64 0, .slice none 0 0] 37 := by rw [← hw3]; exact Blk.new _ _ _ (by simp)
  try rw [hw3]
  clear hw3
  refine (Ht.out w3 B3).mono ?_
  rintro e w4 ⟨b', k', i', a', rfl, hT, hb4⟩
  have y2 := x2'.below hb4
  have B4 := B3.trans (hb4.mono B3.size)
  have hlt := x2'.lt
  obtain ⟨pa', pc', qa', qc', rfl, rfl, rfl, rfl⟩ := hT.shape
  rw [Hx1.out, Hx2.out, Hx3.out, Hx4.out] at hT ⊢
  have r0 : w4.cell? ⟨w.heap.size + 1, 0, none⟩ = some (.slice none 0 0) := y2.cell rfl
  have r1 : w4.cell? ⟨w.heap.size + 1, 1, none⟩ = some (.int .i64 0) := y2.cell rfl
  have r2 : w4.cell? ⟨w.heap.size + 1, 2, none⟩ = some (.int .i64 0) := y2.cell rfl
  have r3 : w4.cell? ⟨w.heap.size + 1, 3, none⟩ = some (.slice none 0 0) := y2.cell rfl
  have f0 := y2.free 0
  have f1 := y2.free 1
  have f2 := y2.free 2
  have f3 := y2.free 3
  have HA := Lib.hid (hT.inv.2.2.2.weaken (F' := fun q => w.heap.size + 2 ≤ q) (by decide) fun q _ h => by omega)
  clear hT
  have hlt2 := y2.lt
  go_wp2_with fail
  have z := ((((y2.set 0 (.slice none 0 0)).set 1 (.int .i64 x3)).set 2 (.int .i64 x4)).set 3 (.slice qa' x2 qc')).alloc (.cells #[.slice none 0 0, .int .i64 x3, .int .i64 x4, .slice qa' x2 qc'] 37)
  have z0 := z.cell (i := 0) (v := .slice none 0 0) rfl
  have z1 := z.cell (i := 1) (v := .int .i64 x3) rfl
  have z2 := z.cell (i := 2) (v := .int .i64 x4) rfl
  have z3 := z.cell (i := 3) (v := .slice qa' x2 qc') rfl
  refine bodyPost_ret (v := .agg #[.slice none 0 0, .int .i64 x3, .int .i64 x4, .slice qa' x2 qc']) (by simp [results, Try.results25, go_sem, z0, z1, z2, z3]) rfl ?_
  refine ⟨_, _, _, _, rfl, ?_, ((((B4.setCell (by simp <;> omega) _).setCell (by simp <;> omega) _).setCell (by simp <;> omega) _).setCell (by simp <;> omega) _).alloc (by have := B4.size; simpa using this) _⟩
  exact isTm_mk (isSl_nil _ _ _) ((((((HA.out.keep ((Keep.refl _ _).setCell ⟨w.heap.size + 1, 0, none⟩ _ (by simp <;> omega))).keep ((Keep.refl _ _).setCell ⟨w.heap.size + 1, 1, none⟩ _ (by simp <;> omega))).keep ((Keep.refl _ _).setCell ⟨w.heap.size + 1, 2, none⟩ _ (by simp <;> omega))).keep ((Keep.refl _ _).setCell ⟨w.heap.size + 1, 3, none⟩ _ (by simp <;> omega))).keep ((Keep.refl _ _).alloc _)).weaken (by decide) fun q _ h => by omega) x3 x4
end Go.Proofs.Ytejpgifofkiofaa

