/-
  term.Copy, term.Body. term.Shift: what its closures do. Indexes that grow: what Shift is in plain Lean.
-/
import Derived.Test.YtejpgifofkiofaaRowParts6p17
import Derived.Laws.EntriesVeiled
set_option linter.unusedVariables false
set_option linter.unusedSimpArgs false
namespace Go.Proofs.Ytejpgifofkiofaa
open Go.RowKit

theorem copy1_k (w : World) (x : Int) : Calls Try.prog 90 #[.int .i64 x] w fun e w' => e = .returned (.int .i64 x) ∧ True ∧ w.grownBy w' none := by
  go_enter Try.func90, Try.ntmps90
  go_wp2_with fail
  go_ret
  exact ⟨rfl, trivial, World.grownBy.refl _ _⟩

theorem turner_copy : TurnerC none (fun _ => False) (fun (_ : Unit) (_ : World) => True) (fun s x => (s, x)) where
  call := fun s x w _ _ _ => copy1_k w x
  keep := fun _ _ _ _ _ => trivial
  sub := fun _ h => by cases h
  rng := fun _ x h => ⟨h, .inl (Int.le_refl _)⟩

theorem Tm.turns_id {l : List Tm} (h : ∀ t ∈ l, ∀ (s : Unit) (n : Int), Tm.turn (fun s x => (s, x)) t s n = (s, t)) : ∀ (s : Unit) (n : Int), Tm.turns (fun s x => (s, x)) l s n = (s, l) := by
  induction l with
  | nil => intro s n; simp [turns]
  | cons t l ih =>
    intro s n
    have h1 := ih (fun u hu => h u (by simp [hu]))
    have h2 := h t (by simp)
    simp [turns, h1, h2]
theorem Tm.turn_id (t : Tm) : ∀ (s : Unit) (n : Int), Tm.turn (fun s x => (s, x)) t s n = (s, t) := by
  induction t using Tm.ind with
  | h b k i a ih =>
    intro s n
    have h := Tm.turns_id ih
    rw [turn]
    simp only [h]
    by_cases hc : k = 0 ∧ n + (b.length : Int) ≤ i
    · simp only [if_pos hc]
      have : n + (b.length : Int) + (i - (n + (b.length : Int))) = i := by omega
      rw [this]
    · simp only [if_neg hc]

theorem below_of_gb {w w' : World} (h : w.grownBy w' none) : Below w.heap.size w w' := ⟨h.os, h.tape, h.output, h.size, fun k hk => h.block k hk (by simp)⟩

set_option maxRecDepth 100000 in
set_option maxHeartbeats 1000000 in
theorem copy_k {F : Nat → Prop} {w : World} {b k i a : Value} {t : Tm} (ht : IsTm F w b k i a t) (hsz : t.full ≤ 80000) (hfit : t.Fit) :
    Calls Try.prog 26 #[.agg #[b, k, i, a]] w (FreshTm t w) := by
  have Ht : Hid (∀ w' : World, Below w.heap.size w w' → Calls Try.prog 89 #[.agg #[b, k, i, a], .int .i64 0, .func (.func 90) #[] #[]] w' (FreshTm t w')) := fun w' hb => by
    have h := turned_kC turner_copy t F w b k i a ht (fun _ h => by cases h) () 0 w' ((Keep.refl _ _).below hb) (fun _ h => h.elim) trivial (Int.le_refl _) (by omega) hfit
    refine h.mono ?_
    rintro e w2 ⟨b', k', i', a', rfl, h1, _, h3⟩
    rw [Tm.turn_id] at h1
    exact ⟨b', k', i', a', rfl, h1, below_of_gb h3⟩
  obtain ⟨pa, pc, qa, qc, rfl, rfl, rfl, rfl⟩ := ht.shape
  clear ht
  obtain ⟨x1, hx1⟩ : ∃ x, t.binds.length = x := ⟨_, rfl⟩
  obtain ⟨x2, hx2⟩ : ∃ x, t.args.length = x := ⟨_, rfl⟩
  obtain ⟨x3, hx3⟩ : ∃ x, t.kind = x := ⟨_, rfl⟩
  obtain ⟨x4, hx4⟩ : ∃ x, t.index = x := ⟨_, rfl⟩
  rw [hx1, hx2, hx3, hx4] at Ht ⊢
  have Hx1 := Lib.hid hx1; have Hx2 := Lib.hid hx2; have Hx3 := Lib.hid hx3; have Hx4 := Lib.hid hx4
  clear hx1 hx2 hx3 hx4
  go_enter Try.func26, Try.ntmps26
  go_wp2_with fail
  obtain ⟨w3, hw3⟩ : ∃ w3, (w.alloc (.cells #[.slice pa x1 pc, .int .i64 x3, .int .i64 x4, .slice qa x2 qc] 37)).alloc (.cells #[.slice none 0 0, .int .i64 0, .int .i64 0, .slice none 0 0] 37) = w3 := ⟨_, rfl⟩
  have B3 : Below w.heap.size w w3 := by rw [← hw3]; exact ((Below.refl _ _).alloc (Nat.le_refl _) _).alloc (by simp) _
  have x2' : Blk w3 (w.heap.size + 1) #[.slice none 0 0, .int .i64 0, .int .i64 0, .slice none 0 0] 37 := by rw [← hw3]; exact Blk.new _ _ _ (by simp)
  try rw [hw3]
  clear hw3
  refine (Ht.out w3 B3).mono ?_
  rintro e w4 ⟨b', k', i', a', rfl, hT, hb4⟩
  have y2 := x2'.below hb4
  have B4 := B3.trans (hb4.mono B3.size)
  have hlt := x2'.lt
  obtain ⟨pa', pc', qa', qc', rfl, rfl, rfl, rfl⟩ := hT.shape
  rw [Hx1.out, Hx2.out, Hx3.out, Hx4.out] at hT ⊢
  have r0 : w4.cell? ⟨w.heap.size + 1, 0, none⟩ = some (.slice none 0 0) := y2.cell rfl
  have r1 : w4.cell? ⟨w.heap.size + 1, 1, none⟩ = some (.int .i64 0) := y2.cell rfl
  have r2 : w4.cell? ⟨w.heap.size + 1, 2, none⟩ = some (.int .i64 0) := y2.cell rfl
  have r3 : w4.cell? ⟨w.heap.size + 1, 3, none⟩ = some (.slice none 0 0) := y2.cell rfl
  have f0 := y2.free 0
  have f1 := y2.free 1
  have f2 := y2.free 2
  have f3 := y2.free 3
  have HT := Lib.hid (hT.weaken (F' := fun q => w.heap.size + 2 ≤ q) fun q _ h => by omega)
  clear hT
  go_wp2_with fail
  refine bodyPost_ret (v := .agg #[.slice pa' x1 pc', .int .i64 x3, .int .i64 x4, .slice qa' x2 qc']) (by simp [results, Try.results26, go_sem, r0, r1, r2, r3]) rfl ?_
  refine ⟨_, _, _, _, rfl, ?_, (((B4.setCell (by simp <;> omega) _).setCell (by simp <;> omega) _).setCell (by simp <;> omega) _).setCell (by simp <;> omega) _⟩
  exact ((((HT.out.keep ((Keep.refl _ _).setCell ⟨w.heap.size + 1, 0, none⟩ _ (by simp <;> omega))).keep ((Keep.refl _ _).setCell ⟨w.heap.size + 1, 1, none⟩ _ (by simp <;> omega))).keep ((Keep.refl _ _).setCell ⟨w.heap.size + 1, 2, none⟩ _ (by simp <;> omega))).keep ((Keep.refl _ _).setCell ⟨w.heap.size + 1, 3, none⟩ _ (by simp <;> omega))).weaken fun q _ h => by omega

set_option maxRecDepth 100000 in
set_option maxHeartbeats 1000000 in
theorem body_k {F : Nat → Prop} {w : World} {b k i a : Value} {t : Tm} (ht : IsTm F w b k i a t) (hsz : t.full ≤ 80000) (hfit : t.Fit) :
    Calls Try.prog 25 #[.agg #[b, k, i, a]] w (FreshTm (.mk [] t.kind t.index t.args) w) := by
  have Ht : Hid (∀ w' : World, Below w.heap.size w w' → Calls Try.prog 26 #[.agg #[b, k, i, a]] w' (FreshTm t w')) := fun w' hb => copy_k (ht.bel hb) hsz hfit
  obtain ⟨pa, pc, qa, qc, rfl, rfl, rfl, rfl⟩ := ht.shape
  clear ht
  obtain ⟨x1, hx1⟩ : ∃ x, t.binds.length = x := ⟨_, rfl⟩
  obtain ⟨x2, hx2⟩ : ∃ x, t.args.length = x := ⟨_, rfl⟩
  obtain ⟨x3, hx3⟩ : ∃ x, t.kind = x := ⟨_, rfl⟩
  obtain ⟨x4, hx4⟩ : ∃ x, t.index = x := ⟨_, rfl⟩
  rw [hx1, hx2, hx3, hx4] at Ht ⊢
  have Hx1 := Lib.hid hx1; have Hx2 := Lib.hid hx2; have Hx3 := Lib.hid hx3; have Hx4 := Lib.hid hx4
  clear hx1 hx2 hx3 hx4
  go_enter Try.func25, Try.ntmps25
  go_wp2_with fail
  obtain ⟨w3, hw3⟩ : ∃ w3, (w.alloc (.cells #[.slice pa x1 pc, .int .i64 x3, .int .i64 x4, .slice qa x2 qc] 37)).alloc (.cells #[.slice none 0 0, .int .i64 0, .int .i64 0, .slice none 0 0] 37) = w3 := ⟨_, rfl⟩
  have B3 : Below w.heap.size w w3 := by rw [← hw3]; exact ((Below.refl _ _).alloc (Nat.le_refl _) _).alloc (by simp) _
  have x2' : Blk w3 (w.heap.size + 1) #[.slice none 0 0, .int .i64 0, .int .i64 0, .slice none 0 0] 37 := by rw [← hw3]; exact Blk.new _ _ _ (by simp)
  try rw [hw3]
  clear hw3
  refine (Ht.out w3 B3).mono ?_
  rintro e w4 ⟨b', k', i', a', rfl, hT, hb4⟩
  have y2 := x2'.below hb4
  have B4 := B3.trans (hb4.mono B3.size)
  have hlt := x2'.lt
  obtain ⟨pa', pc', qa', qc', rfl, rfl, rfl, rfl⟩ := hT.shape
  rw [Hx1.out, Hx2.out, Hx3.out, Hx4.out] at hT ⊢
  have r0 : w4.cell? ⟨w.heap.size + 1, 0, none⟩ = some (.slice none 0 0) := y2.cell rfl
  have r1 : w4.cell? ⟨w.heap.size + 1, 1, none⟩ = some (.int .i64 0) := y2.cell rfl
  have r2 : w4.cell? ⟨w.heap.size + 1, 2, none⟩ = some (.int .i64 0) := y2.cell rfl
  have r3 : w4.cell? ⟨w.heap.size + 1, 3, none⟩ = some (.slice none 0 0) := y2.cell rfl
  have f0 := y2.free 0
  have f1 := y2.free 1
  have f2 := y2.free 2
  have f3 := y2.free 3
  have HA := Lib.hid (hT.inv.2.2.2.weaken (F' := fun q => w.heap.size + 2 ≤ q) (by decide) fun q _ h => by omega)
  clear hT
  have hlt2 := y2.lt
  go_wp2_with fail
  have z := ((((y2.set 0 (.slice none 0 0)).set 1 (.int .i64 x3)).set 2 (.int .i64 x4)).set 3 (.slice qa' x2 qc')).alloc (.cells #[.slice none 0 0, .int .i64 x3, .int .i64 x4, .slice qa' x2 qc'] 37)
  have z0 := z.cell (i := 0) (v := .slice none 0 0) rfl
  have z1 := z.cell (i := 1) (v := .int .i64 x3) rfl
  have z2 := z.cell (i := 2) (v := .int .i64 x4) rfl
  have z3 := z.cell (i := 3) (v := .slice qa' x2 qc') rfl
  refine bodyPost_ret (v := .agg #[.slice none 0 0, .int .i64 x3, .int .i64 x4, .slice qa' x2 qc']) (by simp [results, Try.results25, go_sem, z0, z1, z2, z3]) rfl ?_
  refine ⟨_, _, _, _, rfl, ?_, ((((B4.setCell (by simp <;> omega) _).setCell (by simp <;> omega) _).setCell (by simp <;> omega) _).setCell (by simp <;> omega) _).alloc (by have := B4.size; simpa using this) _⟩
  exact isTm_mk (isSl_nil _ _ _) ((((((HA.out.keep ((Keep.refl _ _).setCell ⟨w.heap.size + 1, 0, none⟩ _ (by simp <;> omega))).keep ((Keep.refl _ _).setCell ⟨w.heap.size + 1, 1, none⟩ _ (by simp <;> omega))).keep ((Keep.refl _ _).setCell ⟨w.heap.size + 1, 2, none⟩ _ (by simp <;> omega))).keep ((Keep.refl _ _).setCell ⟨w.heap.size + 1, 3, none⟩ _ (by simp <;> omega))).keep ((Keep.refl _ _).alloc _)).weaken (by decide) fun q _ h => by omega) x3 x4
end Go.Proofs.Ytejpgifofkiofaa

namespace Go.Proofs.Ytejpgifofkiofaa
open Go.RowKit

def noteOf (e c : Int) : Int := if e = 0 ∨ c < e then c else e

theorem shift1_k (w : World) (c e : Int) (pe : Nat) (he : Blk w pe #[.int .i64 e] 52) : Calls Try.prog 91 #[.int .i64 c, .pointer (some ⟨pe, 0, none⟩)] w fun r w' => (∃ v, r = .returned v) ∧ Blk w' pe #[.int .i64 (noteOf e c)] 52 ∧ w.grownBy w' (some pe) := by
  have c0 : w.cell? ⟨pe, 0, none⟩ = some (.int .i64 e) := he.cell rfl
  have f0 := he.free 0
  have hlt := he.lt
  have hset : ∀ v, w.grownBy (w.setCell ⟨pe, 0, none⟩ v) (some pe) := fun v => ⟨rfl, rfl, rfl, by simp, fun k hk hne => Below.heap_setCell _ _ _ _ (fun h => hne (by rw [h]))⟩
  by_cases h0 : e = 0
  · subst h0
    have hn : noteOf 0 c = c := by simp [noteOf]
    have Hs := Lib.hid (hset (.int .i64 c))
    go_enter Try.func91, Try.ntmps91
    go_wp2_with fail
    go_end0
    exact ⟨⟨_, rfl⟩, by rw [hn]; exact he.set 0 _, Hs.out⟩
  · have hg : (e == 0) = false := by simpa using h0
    by_cases h1 : c < e
    · have hn : noteOf e c = c := by simp [noteOf, h1]
      have Hs := Lib.hid (hset (.int .i64 c))
      go_enter Try.func91, Try.ntmps91
      go_wp2_with fail
      go_end0
      exact ⟨⟨_, rfl⟩, by rw [hn]; exact he.set 0 _, Hs.out⟩
    · have hn : noteOf e c = e := by simp [noteOf, h0, h1]
      go_enter Try.func91, Try.ntmps91
      go_wp2_with fail
      go_end0
      exact ⟨⟨_, rfl⟩, by first | exact he | (rw [hn]; exact he), World.grownBy.refl _ _⟩

def argBad (b f x : Int) : Prop := f ≤ x ∧ b < 0 ∧ (b = -9223372036854775808 ∨ x - f < -b)
def longBad (b f x : Int) : Prop := f ≤ x ∧ ((1000 < b) ∨ (0 ≤ b ∧ 1000 - b < x) ∨ (b < 0 ∧ 1000 < x + b))
instance (b f x : Int) : Decidable (argBad b f x) := by unfold argBad; infer_instance
instance (b f x : Int) : Decidable (longBad b f x) := by unfold longBad; infer_instance
def shiftF (b f : Int) (e x : Int) : Int × Int :=
  if x < f then (e, x) else if argBad b f x then (noteOf e 1, 0) else if longBad b f x then (noteOf e 2, 0) else (e, x + b)

def ShiftSt (p0 p1 p2 pe : Nat) (b f : Int) (e : Int) (w : World) : Prop :=
  Blk w p0 #[.int .i64 f] 3 ∧ Blk w p1 #[.int .i64 b] 3 ∧ Blk w p2 #[.func (.func 91) #[] #[.pointer (some ⟨pe, 0, none⟩)]] 127 ∧ Blk w pe #[.int .i64 e] 52 ∧ p0 ≠ pe ∧ p1 ≠ pe ∧ p2 ≠ pe

set_option maxRecDepth 100000 in
set_option maxHeartbeats 1000000 in
theorem shift2_k (p0 p1 p2 pe : Nat) (b f : Int) (hb : -9223372036854775808 ≤ b ∧ b ≤ 9223372036854775807) (hf : 0 ≤ f ∧ f ≤ 9223372036854775807) (w : World) (e x : Int) (hst : ShiftSt p0 p1 p2 pe b f e w) (hx0 : 0 ≤ x) (hx1 : x ≤ 9223372036854775807) :
    Calls Try.prog 92 #[.int .i64 x, .pointer (some ⟨p0, 0, none⟩), .pointer (some ⟨p1, 0, none⟩), .pointer (some ⟨p2, 0, none⟩)] w fun r w' => r = .returned (.int .i64 (shiftF b f e x).2) ∧ ShiftSt p0 p1 p2 pe b f (shiftF b f e x).1 w' ∧ w.grownBy w' (some pe) := by
  obtain ⟨x0, x1, x2, xe, d0, d1, d2⟩ := hst
  have c0 : w.cell? ⟨p0, 0, none⟩ = some (.int .i64 f) := x0.cell rfl
  have c1 : w.cell? ⟨p1, 0, none⟩ = some (.int .i64 b) := x1.cell rfl
  have c2 : w.cell? ⟨p2, 0, none⟩ = some (.func (.func 91) #[] #[.pointer (some ⟨pe, 0, none⟩)]) := x2.cell rfl
  have Hnote : Hid (∀ c, Calls Try.prog 91 #[.int .i64 c, .pointer (some ⟨pe, 0, none⟩)] w fun r w' => (∃ v, r = .returned v) ∧ ShiftSt p0 p1 p2 pe b f (noteOf e c) w' ∧ w.grownBy w' (some pe)) := fun c =>
    (shift1_k w c e pe xe).mono fun r w' ⟨h1, h2, h3⟩ => ⟨h1, ⟨x0.grown h3 (by simpa using Ne.symm d0), x1.grown h3 (by simpa using Ne.symm d1), x2.grown h3 (by simpa using Ne.symm d2), h2, d0, d1, d2⟩, h3⟩
  have Hst : Hid (ShiftSt p0 p1 p2 pe b f e w) := ⟨x0, x1, x2, xe, d0, d1, d2⟩
  clear x0 x1 x2 xe d0 d1 d2
  by_cases hlt : x < f
  · have HF := Lib.hid (show shiftF b f e x = (e, x) by simp [shiftF, hlt])
    go_enter Try.func92, Try.ntmps92
    go_wp2_with fail
    go_ret
    rw [HF.out]
    exact ⟨rfl, Hst.out, World.grownBy.refl _ _⟩
  have hq1 : IntKind.i64.wrap (x - f) = x - f := IntWalk.i64_in _ (by omega)
  by_cases hb0 : b < 0
  · have hb0' : ¬ b ≥ 0 := by omega
    by_cases hmin : b = -9223372036854775808
    · have HF : Hid (shiftF b f e x = (noteOf e 1, 0)) := by
        show _ = _
        unfold shiftF
        rw [if_neg hlt, if_pos ⟨by omega, hb0, .inl hmin⟩]
      have hq2 : IntKind.i64.wrap (-b) = b := by rw [hmin]; rfl
      have hq3 : (b == b) = true := by simp
      clear hmin
      go_enter Try.func92, Try.ntmps92
      go_wp2_with fail
      refine (Hnote.out 1).mono ?_
      rintro r w1 ⟨⟨v, rfl⟩, hs1, hg1⟩
      go_wp2_with fail
      go_ret
      rw [HF.out]
      exact ⟨rfl, hs1, hg1⟩
    have hq2 : IntKind.i64.wrap (-b) = -b := IntWalk.i64_in _ (by omega)
    have hq3 : (b == -b) = false := by simpa using (by omega : ¬ b = -b)
    by_cases hd : x - f < -b
    · have HF : Hid (shiftF b f e x = (noteOf e 1, 0)) := by
        show _ = _
        unfold shiftF
        rw [if_neg hlt, if_pos ⟨by omega, hb0, .inr hd⟩]
      go_enter Try.func92, Try.ntmps92
      go_wp2_with fail
      refine (Hnote.out 1).mono ?_
      rintro r w1 ⟨⟨v, rfl⟩, hs1, hg1⟩
      go_wp2_with fail
      go_ret
      rw [HF.out]
      exact ⟨rfl, hs1, hg1⟩
    have hna : ¬ argBad b f x := by rintro ⟨_, _, h | h⟩ <;> omega
    have hg1 : ¬ b > 1000 := by omega
    have hq4 : IntKind.i64.wrap (x + b) = x + b := IntWalk.i64_in _ (by omega)
    by_cases hl : x + b > 1000
    · have HF : Hid (shiftF b f e x = (noteOf e 2, 0)) := by
        show _ = _
        unfold shiftF
        rw [if_neg hlt, if_neg hna, if_pos ⟨by omega, .inr (.inr ⟨hb0, hl⟩)⟩]
      go_enter Try.func92, Try.ntmps92
      go_wp2_with fail
      refine (Hnote.out 2).mono ?_
      rintro r w1 ⟨⟨v, rfl⟩, hs1, hg1⟩
      go_wp2_with fail
      go_ret
      rw [HF.out]
      exact ⟨rfl, hs1, hg1⟩
    have HF : Hid (shiftF b f e x = (e, x + b)) := by
      show _ = _
      unfold shiftF
      rw [if_neg hlt, if_neg hna, if_neg (by rintro ⟨_, h | h | h⟩ <;> omega)]
    go_enter Try.func92, Try.ntmps92
    go_wp2_with fail
    go_ret
    rw [HF.out]
    exact ⟨rfl, Hst.out, World.grownBy.refl _ _⟩
  have hb0' : b ≥ 0 := by omega
  have hna : ¬ argBad b f x := by rintro ⟨_, h, _⟩; omega
  by_cases hg1 : b > 1000
  · have HF : Hid (shiftF b f e x = (noteOf e 2, 0)) := by
      show _ = _
      unfold shiftF
      rw [if_neg hlt, if_neg hna, if_pos ⟨by omega, .inl hg1⟩]
    go_enter Try.func92, Try.ntmps92
    go_wp2_with fail
    refine (Hnote.out 2).mono ?_
    rintro r w1 ⟨⟨v, rfl⟩, hs1, hg1⟩
    go_wp2_with fail
    go_ret
    rw [HF.out]
    exact ⟨rfl, hs1, hg1⟩
  have hq5 : IntKind.i64.wrap (1000 - b) = 1000 - b := IntWalk.i64_in _ (by omega)
  by_cases hl : x > 1000 - b
  · have HF : Hid (shiftF b f e x = (noteOf e 2, 0)) := by
      show _ = _
      unfold shiftF
      rw [if_neg hlt, if_neg hna, if_pos ⟨by omega, .inr (.inl ⟨hb0', hl⟩)⟩]
    go_enter Try.func92, Try.ntmps92
    go_wp2_with fail
    refine (Hnote.out 2).mono ?_
    rintro r w1 ⟨⟨v, rfl⟩, hs1, hg1⟩
    go_wp2_with fail
    go_ret
    rw [HF.out]
    exact ⟨rfl, hs1, hg1⟩
  have hq4 : IntKind.i64.wrap (x + b) = x + b := IntWalk.i64_in _ (by omega)
  have HF : Hid (shiftF b f e x = (e, x + b)) := by
    show _ = _
    unfold shiftF
    rw [if_neg hlt, if_neg hna, if_neg (by rintro ⟨_, h | h | h⟩ <;> omega)]
  go_enter Try.func92, Try.ntmps92
  go_wp2_with fail
  go_ret
  rw [HF.out]
  exact ⟨rfl, Hst.out, World.grownBy.refl _ _⟩
end Go.Proofs.Ytejpgifofkiofaa

namespace Go.Proofs.Ytejpgifofkiofaa
open Go.RowKit

namespace Tm
mutual
def looses : Tm → Int → List Int
  | .mk b k i a, n => (if k = 0 ∧ n + (b.length : Nat) ≤ i then [i - (n + (b.length : Nat))] else []) ++ loosess a (n + (b.length : Nat))
def loosess : List Tm → Int → List Int
  | [], _ => []
  | t :: l, n => looses t n ++ loosess l n
end
mutual
def mapl (v : Int → Int) : Tm → Int → Tm
  | .mk b k i a, n => .mk b k (if k = 0 ∧ n + (b.length : Nat) ≤ i then n + (b.length : Nat) + v (i - (n + (b.length : Nat))) else i) (mapls v a (n + (b.length : Nat)))
def mapls (v : Int → Int) : List Tm → Int → List Tm
  | [], _ => []
  | t :: l, n => mapl v t n :: mapls v l n
end
theorem looses_eq (b : List Ty) (k i : Int) (a : List Tm) (n m : Int) (hm : n + (b.length : Int) = m) : looses (.mk b k i a) n = (if k = 0 ∧ m ≤ i then [i - m] else []) ++ loosess a m := by subst hm; rw [looses]
theorem mapl_eq (v : Int → Int) (b : List Ty) (k i : Int) (a : List Tm) (n m : Int) (hm : n + (b.length : Int) = m) : mapl v (.mk b k i a) n = .mk b k (if k = 0 ∧ m ≤ i then m + v (i - m) else i) (mapls v a m) := by subst hm; rw [mapl]
theorem loosess_append (l l' : List Tm) (n : Int) : loosess (l ++ l') n = loosess l n ++ loosess l' n := by
  induction l with
  | nil => simp [loosess]
  | cons t l ih => simp [loosess, ih]
theorem mapls_len (v : Int → Int) (l : List Tm) (n : Int) : (mapls v l n).length = l.length := by
  induction l with
  | nil => simp [mapls]
  | cons t l ih => simp [mapls, ih]
theorem mapls_append (v : Int → Int) (l l' : List Tm) (n : Int) : mapls v (l ++ l') n = mapls v l n ++ mapls v l' n := by
  induction l with
  | nil => simp [mapls]
  | cons t l ih => simp [mapls, ih]
theorem loosess_take (l : List Tm) (n : Int) (j : Nat) (h : j < l.length) : loosess (l.take (j + 1)) n = loosess (l.take j) n ++ looses l[j] n := by
  rw [List.take_succ_eq_append_getElem h, loosess_append]; simp [loosess]
theorem mapls_take (v : Int → Int) (l : List Tm) (n : Int) (j : Nat) (h : j < l.length) : mapls v (l.take (j + 1)) n = mapls v (l.take j) n ++ [mapl v l[j] n] := by
  rw [List.take_succ_eq_append_getElem h, mapls_append]; simp [mapls]

section
variable {σ : Type} (g : σ → Int → σ) (v : Int → Int)
theorem turns_split {l : List Tm} (h : ∀ t ∈ l, ∀ s n, turn (fun s x => (g s x, v x)) t s n = ((looses t n).foldl g s, mapl v t n)) : ∀ s n, turns (fun s x => (g s x, v x)) l s n = ((loosess l n).foldl g s, mapls v l n) := by
  induction l with
  | nil => intro s n; simp [turns, loosess, mapls]
  | cons t l ih =>
    intro s n
    have h1 := h t (by simp) s n
    have h2 := ih (fun u hu => h u (by simp [hu])) ((looses t n).foldl g s) n
    simp only [turns, h1, h2, loosess, mapls, List.foldl_append]
theorem turn_split (t : Tm) : ∀ s n, turn (fun s x => (g s x, v x)) t s n = ((looses t n).foldl g s, mapl v t n) := by
  induction t using Tm.ind with
  | h b k i a ih =>
    intro s n
    have h := turns_split g v ih
    obtain ⟨m, hm⟩ : ∃ m : Int, n + (b.length : Int) = m := ⟨_, rfl⟩
    rw [looses_eq b k i a n m hm, mapl_eq v b k i a n m hm, turn]
    simp only [hm, h]
    by_cases hc : k = 0 ∧ m ≤ i
    · simp only [if_pos hc, List.cons_append, List.nil_append, List.foldl_cons]
    · simp only [if_neg hc, List.nil_append]
end
theorem mapls_congr {v v' : Int → Int} {l : List Tm} (h : ∀ t ∈ l, ∀ n, (∀ x ∈ looses t n, v x = v' x) → mapl v t n = mapl v' t n) : ∀ n, (∀ x ∈ loosess l n, v x = v' x) → mapls v l n = mapls v' l n := by
  induction l with
  | nil => intro n _; simp [mapls]
  | cons t l ih =>
    intro n hx
    simp only [loosess, List.mem_append] at hx
    rw [mapls, mapls, h t (by simp) n fun x hx' => hx x (.inl hx'), ih (fun u hu => h u (by simp [hu])) n fun x hx' => hx x (.inr hx')]
theorem mapl_congr {v v' : Int → Int} (t : Tm) : ∀ n, (∀ x ∈ looses t n, v x = v' x) → mapl v t n = mapl v' t n := by
  induction t using Tm.ind with
  | h b k i a ih =>
    intro n hx
    obtain ⟨m, hm⟩ : ∃ m : Int, n + (b.length : Int) = m := ⟨_, rfl⟩
    rw [looses_eq b k i a n m hm] at hx
    rw [mapl_eq v b k i a n m hm, mapl_eq v' b k i a n m hm, mapls_congr ih m fun x hx' => hx x (List.mem_append.2 (.inr hx'))]
    by_cases hc : k = 0 ∧ m ≤ i
    · simp only [if_pos hc] at hx ⊢
      rw [hx (i - m) (by simp)]
    · simp only [if_neg hc]
theorem loosess_nonneg {l : List Tm} (h : ∀ t ∈ l, ∀ n, ∀ x ∈ looses t n, 0 ≤ x) : ∀ n, ∀ x ∈ loosess l n, 0 ≤ x := by
  induction l with
  | nil => intro n x hx; simp [loosess] at hx
  | cons t l ih =>
    intro n x hx
    simp only [loosess, List.mem_append] at hx
    rcases hx with hx | hx
    · exact h t (by simp) n x hx
    · exact ih (fun u hu => h u (by simp [hu])) n x hx
theorem looses_nonneg (t : Tm) : ∀ n, ∀ x ∈ looses t n, 0 ≤ x := by
  induction t using Tm.ind with
  | h b k i a ih =>
    intro n x hx
    rw [looses_eq b k i a n _ rfl] at hx
    rcases List.mem_append.1 hx with hx | hx
    · split at hx
      · simp at hx; omega
      · simp at hx
    · exact loosess_nonneg ih _ x hx
end Tm

def shiftE (b f e x : Int) : Int := if x < f then e else if argBad b f x then noteOf e 1 else if longBad b f x then noteOf e 2 else e
def shiftV (b f x : Int) : Int := if x < f then x else if argBad b f x then 0 else if longBad b f x then 0 else x + b
def grow (b f x : Int) : Int := if x < f then x else x + b
theorem shiftF_eq (b f : Int) : shiftF b f = fun e x => (shiftE b f e x, shiftV b f x) := by
  funext e x
  unfold shiftF shiftE shiftV
  split
  · rfl
  · split
    · rfl
    · split <;> rfl

def shiftCode (b f : Int) (l : List Int) : Int := if ∃ x ∈ l, argBad b f x then 1 else if ∃ x ∈ l, longBad b f x then 2 else 0

theorem fold_shiftE (b f : Int) (l : List Int) : ∀ e, (e = 0 ∨ e = 1 ∨ e = 2) → l.foldl (shiftE b f) e = if e = 1 ∨ ∃ x ∈ l, argBad b f x then 1 else if e = 2 ∨ ∃ x ∈ l, longBad b f x then 2 else 0 := by
  induction l with
  | nil => intro e he; rcases he with rfl | rfl | rfl <;> simp
  | cons x l ih =>
    intro e he
    rw [List.foldl_cons]
    by_cases hx : x < f
    · have h1 : ¬ argBad b f x := fun h => by have := h.1; omega
      have h2 : ¬ longBad b f x := fun h => by have := h.1; omega
      rw [show shiftE b f e x = e by simp [shiftE, hx], ih e he]
      simp [h1, h2]
    · by_cases h1 : argBad b f x
      · rw [show shiftE b f e x = 1 by rcases he with rfl | rfl | rfl <;> simp [shiftE, hx, h1, noteOf], ih 1 (by simp)]
        simp [h1]
      · by_cases h2 : longBad b f x
        · have hs : shiftE b f e x = if e = 1 then 1 else 2 := by rcases he with rfl | rfl | rfl <;> simp [shiftE, hx, h1, h2, noteOf]
          rw [hs]
          by_cases he1 : e = 1
          · simp only [if_pos he1]; rw [ih 1 (by simp)]; simp [he1]
          · simp only [if_neg he1]; rw [ih 2 (by simp)]; simp [h1, h2, he1]
        · rw [show shiftE b f e x = e by simp [shiftE, hx, h1, h2], ih e he]
          simp [h1, h2]
theorem fold_code (b f : Int) (l : List Int) : l.foldl (shiftE b f) 0 = shiftCode b f l := by
  rw [fold_shiftE b f l 0 (by simp)]; simp [shiftCode]

def Tm.shift (t : Tm) (b f : Int) : Tm × Int :=
  if f < 0 then (Tm.zero, 1) else if shiftCode b f (t.looses 0) = 0 then (t.mapl (grow b f) 0, 0) else (Tm.zero, shiftCode b f (t.looses 0))

theorem mapl_shiftV (b f : Int) (t : Tm) (n : Int) (h : shiftCode b f (t.looses n) = 0) : t.mapl (shiftV b f) n = t.mapl (grow b f) n := by
  refine Tm.mapl_congr t n fun x hx => ?_
  unfold shiftCode at h
  by_cases ha : ∃ x ∈ t.looses n, argBad b f x
  · rw [if_pos ha] at h; cases h
  · rw [if_neg ha] at h
    by_cases hl : ∃ x ∈ t.looses n, longBad b f x
    · rw [if_pos hl] at h; cases h
    · unfold shiftV grow
      rw [if_neg (fun h' => ha ⟨x, hx, h'⟩), if_neg (fun h' => hl ⟨x, hx, h'⟩)]
end Go.Proofs.Ytejpgifofkiofaa

