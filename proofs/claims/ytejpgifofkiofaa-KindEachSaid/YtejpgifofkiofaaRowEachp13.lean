/-
  term.Copy, term.Body. term.Shift: what its closures do. Indexes that grow: what Shift is in plain Lean. The reference's loose indexes, and terms that grow. slices.Sort and slices.Compact of ints of the call's own; what they hand back rises. A function that has run loops over functions leaves with a mark for each; rows of ints that grow within such rounds.
-/
import Derived.Test.YtejpgifofkiofaaRowEachp12
import Derived.Laws.EntriesVeiled
import Derived.Test.YtejpgifofkiofaaRowEachp4
import Derived.Lib.OwnBridge
import Derived.Sort.OwnSortedInts
import Derived.Test.YtejpgifofkiofaaRowEachp3
import Derived.Test.YtejpgifofkiofaaRowEachp2
import Derived.RangeFuncBox
set_option linter.unusedVariables false
set_option linter.unusedSimpArgs false
namespace Go.Proofs.Ytejpgifofkiofaa
open Go.RowKit

theorem copy1_k (w : World) (x : Int) : Calls Try.prog 90 #[.int .i64 x] w fun e w' => e = .returned (.int .i64 x) ∧ True ∧ w.grownBy w' none := by
  go_enter Try.func90, Try.ntmps90
  go_wp2_with fail
  go_ret
  exact ⟨rfl, trivial, World.grownBy.refl _ _⟩

theorem turner_copy : TurnerC none (fun _ => False) (fun (_ : Unit) (_ : World) => True) (fun s x => (s, x)) where
  call := fun s x w _ _ _ => copy1_k w x
  keep := fun _ _ _ _ _ => trivial
  sub := fun _ h => by cases h
  rng := fun _ x h => ⟨h, .inl (Int.le_refl _)⟩

theorem Tm.turns_id {l : List Tm} (h : ∀ t ∈ l, ∀ (s : Unit) (n : Int), Tm.turn (fun s x => (s, x)) t s n = (s, t)) : ∀ (s : Unit) (n : Int), Tm.turns (fun s x => (s, x)) l s n = (s, l) := by
  induction l with
  | nil => intro s n; simp [turns]
  | cons t l ih =>
    intro s n
    have h1 := ih (fun u hu => h u (by simp [hu]))
    have h2 := h t (by simp)
    simp [turns, h1, h2]
theorem Tm.turn_id (t : Tm) : ∀ (s : Unit) (n : Int), Tm.turn (fun s x => (s, x)) t s n = (s, t) := by
  induction t using Tm.ind with
  | h b k i a ih =>
    intro s n
    have h := Tm.turns_id ih
    rw [turn]
    simp only [h]
    by_cases hc : k = 0 ∧ n + (b.length : Int) ≤ i
    · simp only [if_pos hc]
      have : n + (b.length : Int) + (i - (n + (b.length : Int))) = i := by omega
      rw [this]
    · simp only [if_neg hc]

theorem below_of_gb {w w' : World} (h : w.grownBy w' none) : Below w.heap.size w w' := ⟨h.os, h.tape, h.output, h.size, fun k hk => h.block k hk (by simp)⟩

set_option maxRecDepth 100000 in
set_option maxHeartbeats 1000000 in
theorem copy_k {F : Nat → Prop} {w : World} {b k i a : Value} {t : Tm} (ht : IsTm F w b k i a t) (hsz : t.full ≤ 80000) (hfit : t.Fit) :
    Calls Try.prog 26 #[.agg #[b, k, i, a]] w (FreshTm t w) := by
  have Ht : Hid (∀ w' : World, Below w.heap.size w w' → Calls Try.prog 89 #[.agg #[b, k, i, a], .int .i64 0, .func (.func 90) #[] #[]] w' (FreshTm t w')) := fun w' hb => by
    have h := turned_kC turner_copy t F w b k i a ht (fun _ h => by cases h) () 0 w' ((Keep.refl _ _).below hb) (fun _ h => h.elim) trivial (Int.le_refl _) (by omega) hfit
    refine h.mono ?_
    rintro e w2 ⟨b', k', i', a', rfl, h1, _, h3⟩
    rw [Tm.turn_id] at h1
    exact ⟨b', k', i', a', rfl, h1, below_of_gb h3⟩
  obtain ⟨pa, pc, qa, qc, rfl, rfl, rfl, rfl⟩ := ht.shape
  clear ht
  obtain ⟨x1, hx1⟩ : ∃ x, t.binds.length = x := ⟨_, rfl⟩
  obtain ⟨x2, hx2⟩ : ∃ x, t.args.length = x := ⟨_, rfl⟩
  obtain ⟨x3, hx3⟩ : ∃ x, t.kind = x := ⟨_, rfl⟩
  obtain ⟨x4, hx4⟩ : ∃ x, t.index = x := ⟨_, rfl⟩
  rw [hx1, hx2, hx3, hx4] at Ht ⊢
  have Hx1 := Lib.hid hx1; have Hx2 := Lib.hid hx2; have Hx3 := Lib.hid hx3; have Hx4 := Lib.hid hx4
  clear hx1 hx2 hx3 hx4
  go_enter Try.func26, Try.ntmps26
  go_wp2_with fail
  obtain ⟨w3, hw3⟩ : ∃ w3, (w.alloc (.cells #[.slice pa x1 pc, .int .i64 x3, .int .i64 x4, .slice qa x2 qc] 37)).alloc (.cells #[.slice none 0 0, .int .i64 0, .int .i64 0, .slice none 0 0] 37) = w3 := ⟨_, rfl⟩
  have B3 : Below w.heap.size w w3 := by rw [← hw3]; exact ((Below.refl _ _).alloc (Nat.le_refl _) _).alloc (by simp) _
  have x2' : Blk w3 (w.heap.size + 1) #[.slice none 0 0, .int .i64 0, .int .i64 0, .slice none 0 0] 37 := by rw [← hw3]; exact Blk.new _ _ _ (by simp)
  try rw [hw3]
  clear hw3
  refine (Ht.out w3 B3).mono ?_
  rintro e w4 ⟨b', k', i', a', rfl, hT, hb4⟩
  have y2 := x2'.below hb4
  have B4 := B3.trans (hb4.mono B3.size)
  have hlt := x2'.lt
  obtain ⟨pa', pc', qa', qc', rfl, rfl, rfl, rfl⟩ := hT.shape
  rw [Hx1.out, Hx2.out, Hx3.out, Hx4.out] at hT ⊢
  have r0 : w4.cell? ⟨w.heap.size + 1, 0, none⟩ = some (.slice none 0 0) := y2.cell rfl
  have r1 : w4.cell? ⟨w.heap.size + 1, 1, none⟩ = some (.int .i64 0) := y2.cell rfl
  have r2 : w4.cell? ⟨w.heap.size + 1, 2, none⟩ = some (.int .i64 0) := y2.cell rfl
  have r3 : w4.cell? ⟨w.heap.size + 1, 3, none⟩ = some (.slice none 0 0) := y2.cell rfl
  have f0 := y2.free 0
  have f1 := y2.free 1
  have f2 := y2.free 2
  have f3 := y2.free 3
  have HT := Lib.hid (hT.weaken (F' := fun q => w.heap.size + 2 ≤ q) fun q _ h => by omega)
  clear hT
  go_wp2_with fail
  refine bodyPost_ret (v := .agg #[.slice pa' x1 pc', .int .i64 x3, .int .i64 x4, .slice qa' x2 qc']) (by simp [results, Try.results26, go_sem, r0, r1, r2, r3]) rfl ?_
  refine ⟨_, _, _, _, rfl, ?_, (((B4.setCell (by simp <;> omega) _).setCell (by simp <;> omega) _).setCell (by simp <;> omega) _).setCell (by simp <;> omega) _⟩
  exact ((((HT.out.keep ((Keep.refl _ _).setCell ⟨w.heap.size + 1, 0, none⟩ _ (by simp <;> omega))).keep ((Keep.refl _ _).setCell ⟨w.heap.size + 1, 1, none⟩ _ (by simp <;> omega))).keep ((Keep.refl _ _).setCell ⟨w.heap.size + 1, 2, none⟩ _ (by simp <;> omega))).keep ((Keep.refl _ _).setCell ⟨w.heap.size + 1, 3, none⟩ _ (by simp <;> omega))).weaken fun q _ h => by omega

set_option maxRecDepth 100000 in
set_option maxHeartbeats 1000000 in
theorem body_k {F : Nat → Prop} {w : World} {b k i a : Value} {t : Tm} (ht : IsTm F w b k i a t) (hsz : t.full ≤ 80000) (hfit : t.Fit) :
    Calls Try.prog 25 #[.agg #[b, k, i, a]] w (FreshTm (.mk [] t.kind t.index t.args) w) := by
  have Ht : Hid (∀ w' : World, Below w.heap.size w w' → Calls Try.prog 26 #[.agg #[b, k, i, a]] w' (FreshTm t w')) := fun w' hb => copy_k (ht.bel hb) hsz hfit
  obtain ⟨pa, pc, qa, qc, rfl, rfl, rfl, rfl⟩ := ht.shape
  clear ht
  obtain ⟨x1, hx1⟩ : ∃ x, t.binds.length = x := ⟨_, rfl⟩
  obtain ⟨x2, hx2⟩ : ∃ x, t.args.length = x := ⟨_, rfl⟩
  obtain ⟨x3, hx3⟩ : ∃ x, t.kind = x := ⟨_, rfl⟩
  obtain ⟨x4, hx4⟩ : ∃ x, t.index = x := ⟨_, rfl⟩
  rw [hx1, hx2, hx3, hx4] at Ht ⊢
  have Hx1 := Lib.hid hx1; have Hx2 := Lib.hid hx2; have Hx3 := Lib.hid hx3; have Hx4 := Lib.hid hx4
  clear hx1 hx2 hx3 hx4
  go_enter Try.func25, Try.ntmps25
  go_wp2_with fail
  obtain ⟨w3, hw3⟩ : ∃ w3, (w.alloc (.cells #[.slice pa x1 pc, .int .i64 x3, .int .i64 x4, .slice qa x2 qc] 37)).alloc (.cells #[.slice none 0 0, .int .i64 0, .int .i64 0, .slice none 0 0] 37) = w3 := ⟨_, rfl⟩
  have B3 : Below w.heap.size w w3 := by rw [← hw3]; exact ((Below.refl _ _).alloc (Nat.le_refl _) _).alloc (by simp) _
  have x2' : Blk w3 (w.heap.size + 1) #[.slice none 0 0, .int .i64 0, .int .i64 0, .slice none 0 0] 37 := by rw [← hw3]; exact Blk.new _ _ _ (by simp)
  try rw [hw3]
  clear hw3
  refine (Ht.out w3 B3).mono ?_
  rintro e w4 ⟨b', k', i', a', rfl, hT, hb4⟩
  have y2 := x2'.below hb4
  have B4 := B3.trans (hb4.mono B3.size)
  have hlt := x2'.lt
  obtain ⟨pa', pc', qa', qc', rfl, rfl, rfl, rfl⟩ := hT.shape
  rw [Hx1.out, Hx2.out, Hx3.out, Hx4.out] at hT ⊢
  have r0 : w4.cell? ⟨w.heap.size + 1, 0, none⟩ = some (.slice none 0 0) := y2.cell rfl
  have r1 : w4.cell? ⟨w.heap.size + 1, 1, none⟩ = some (.int .i64 0) := y2.cell rfl
  have r2 : w4.cell? ⟨w.heap.size + 1, 2, none⟩ = some (.int .i64 0) := y2.cell rfl
  have r3 : w4.cell? ⟨w.heap.size + 1, 3, none⟩ = some (.slice none 0 0) := y2.cell rfl
  have f0 := y2.free 0
  have f1 := y2.free 1
  have f2 := y2.free 2
  have f3 := y2.free 3
  have HA := Lib.hid (hT.inv.2.2.2.weaken (F' := fun q => w.heap.size + 2 ≤ q) (by decide) fun q _ h => by omega)
  clear hT
  have hlt2 := y2.lt
  go_wp2_with fail
  have z := ((((y2.set 0 (.slice none 0 0)).set 1 (.int .i64 x3)).set 2 (.int .i64 x4)).set 3 (.slice qa' x2 qc')).alloc (.cells #[.slice none 0 0, .int .i64 x3, .int .i64 x4, .slice qa' x2 qc'] 37)
  have z0 := z.cell (i := 0) (v := .slice none 0 0) rfl
  have z1 := z.cell (i := 1) (v := .int .i64 x3) rfl
  have z2 := z.cell (i := 2) (v := .int .i64 x4) rfl
  have z3 := z.cell (i := 3) (v := .slice qa' x2 qc') rfl
  refine bodyPost_ret (v := .agg #[.slice none 0 0, .int .i64 x3, .int .i64 x4, .slice qa' x2 qc']) (by simp [results, Try.results25, go_sem, z0, z1, z2, z3]) rfl ?_
  refine ⟨_, _, _, _, rfl, ?_, ((((B4.setCell (by simp <;> omega) _).setCell (by simp <;> omega) _).setCell (by simp <;> omega) _).setCell (by simp <;> omega) _).alloc (by have := B4.size; simpa using this) _⟩
  exact isTm_mk (isSl_nil _ _ _) ((((((HA.out.keep ((Keep.refl _ _).setCell ⟨w.heap.size + 1, 0, none⟩ _ (by simp <;> omega))).keep ((Keep.refl _ _).setCell ⟨w.heap.size + 1, 1, none⟩ _ (by simp <;> omega))).keep ((Keep.refl _ _).setCell ⟨w.heap.size + 1, 2, none⟩ _ (by simp <;> omega))).keep ((Keep.refl _ _).setCell ⟨w.heap.size + 1, 3, none⟩ _ (by simp <;> omega))).keep ((Keep.refl _ _).alloc _)).weaken (by decide) fun q _ h => by omega) x3 x4
end Go.Proofs.Ytejpgifofkiofaa

namespace Go.Proofs.Ytejpgifofkiofaa
open Go.RowKit

def noteOf (e c : Int) : Int := if e = 0 ∨ c < e then c else e

theorem shift1_k (w : World) (c e : Int) (pe : Nat) (he : Blk w pe #[.int .i64 e] 52) : Calls Try.prog 91 #[.int .i64 c, .pointer (some ⟨pe, 0, none⟩)] w fun r w' => (∃ v, r = .returned v) ∧ Blk w' pe #[.int .i64 (noteOf e c)] 52 ∧ w.grownBy w' (some pe) := by
  have c0 : w.cell? ⟨pe, 0, none⟩ = some (.int .i64 e) := he.cell rfl
  have f0 := he.free 0
  have hlt := he.lt
  have hset : ∀ v, w.grownBy (w.setCell ⟨pe, 0, none⟩ v) (some pe) := fun v => ⟨rfl, rfl, rfl, by simp, fun k hk hne => Below.heap_setCell _ _ _ _ (fun h => hne (by rw [h]))⟩
  by_cases h0 : e = 0
  · subst h0
    have hn : noteOf 0 c = c := by simp [noteOf]
    have Hs := Lib.hid (hset (.int .i64 c))
    go_enter Try.func91, Try.ntmps91
    go_wp2_with fail
    go_end0
    exact ⟨⟨_, rfl⟩, by rw [hn]; exact he.set 0 _, Hs.out⟩
  · have hg : (e == 0) = false := by simpa using h0
    by_cases h1 : c < e
    · have hn : noteOf e c = c := by simp [noteOf, h1]
      have Hs := Lib.hid (hset (.int .i64 c))
      go_enter Try.func91, Try.ntmps91
      go_wp2_with fail
      go_end0
      exact ⟨⟨_, rfl⟩, by rw [hn]; exact he.set 0 _, Hs.out⟩
    · have hn : noteOf e c = e := by simp [noteOf, h0, h1]
      go_enter Try.func91, Try.ntmps91
      go_wp2_with fail
      go_end0
      exact ⟨⟨_, rfl⟩, by first | exact he | (rw [hn]; exact he), World.grownBy.refl _ _⟩

def argBad (b f x : Int) : Prop := f ≤ x ∧ b < 0 ∧ (b = -9223372036854775808 ∨ x - f < -b)
def longBad (b f x : Int) : Prop := f ≤ x ∧ ((1000 < b) ∨ (0 ≤ b ∧ 1000 - b < x) ∨ (b < 0 ∧ 1000 < x + b))
instance (b f x : Int) : Decidable (argBad b f x) := by unfold argBad; infer_instance
instance (b f x : Int) : Decidable (longBad b f x) := by unfold longBad; infer_instance
def shiftF (b f : Int) (e x : Int) : Int × Int :=
  if x < f then (e, x) else if argBad b f x then (noteOf e 1, 0) else if longBad b f x then (noteOf e 2, 0) else (e, x + b)

def ShiftSt (p0 p1 p2 pe : Nat) (b f : Int) (e : Int) (w : World) : Prop :=
  Blk w p0 #[.int .i64 f] 3 ∧ Blk w p1 #[.int .i64 b] 3 ∧ Blk w p2 #[.func (.func 91) #[] #[.pointer (some ⟨pe, 0, none⟩)]] 127 ∧ Blk w pe #[.int .i64 e] 52 ∧ p0 ≠ pe ∧ p1 ≠ pe ∧ p2 ≠ pe

set_option maxRecDepth 100000 in
set_option maxHeartbeats 1000000 in
theorem shift2_k (p0 p1 p2 pe : Nat) (b f : Int) (hb : -9223372036854775808 ≤ b ∧ b ≤ 9223372036854775807) (hf : 0 ≤ f ∧ f ≤ 9223372036854775807) (w : World) (e x : Int) (hst : ShiftSt p0 p1 p2 pe b f e w) (hx0 : 0 ≤ x) (hx1 : x ≤ 9223372036854775807) :
    Calls Try.prog 92 #[.int .i64 x, .pointer (some ⟨p0, 0, none⟩), .pointer (some ⟨p1, 0, none⟩), .pointer (some ⟨p2, 0, none⟩)] w fun r w' => r = .returned (.int .i64 (shiftF b f e x).2) ∧ ShiftSt p0 p1 p2 pe b f (shiftF b f e x).1 w' ∧ w.grownBy w' (some pe) := by
  obtain ⟨x0, x1, x2, xe, d0, d1, d2⟩ := hst
  have c0 : w.cell? ⟨p0, 0, none⟩ = some (.int .i64 f) := x0.cell rfl
  have c1 : w.cell? ⟨p1, 0, none⟩ = some (.int .i64 b) := x1.cell rfl
  have c2 : w.cell? ⟨p2, 0, none⟩ = some (.func (.func 91) #[] #[.pointer (some ⟨pe, 0, none⟩)]) := x2.cell rfl
  have Hnote : Hid (∀ c, Calls Try.prog 91 #[.int .i64 c, .pointer (some ⟨pe, 0, none⟩)] w fun r w' => (∃ v, r = .returned v) ∧ ShiftSt p0 p1 p2 pe b f (noteOf e c) w' ∧ w.grownBy w' (some pe)) := fun c =>
    (shift1_k w c e pe xe).mono fun r w' ⟨h1, h2, h3⟩ => ⟨h1, ⟨x0.grown h3 (by simpa using Ne.symm d0), x1.grown h3 (by simpa using Ne.symm d1), x2.grown h3 (by simpa using Ne.symm d2), h2, d0, d1, d2⟩, h3⟩
  have Hst : Hid (ShiftSt p0 p1 p2 pe b f e w) := ⟨x0, x1, x2, xe, d0, d1, d2⟩
  clear x0 x1 x2 xe d0 d1 d2
  by_cases hlt : x < f
  · have HF := Lib.hid (show shiftF b f e x = (e, x) by simp [shiftF, hlt])
    go_enter Try.func92, Try.ntmps92
    go_wp2_with fail
    go_ret
    rw [HF.out]
    exact ⟨rfl, Hst.out, World.grownBy.refl _ _⟩
  have hq1 : IntKind.i64.wrap (x - f) = x - f := IntWalk.i64_in _ (by omega)
  by_cases hb0 : b < 0
  · have hb0' : ¬ b ≥ 0 := by omega
    by_cases hmin : b = -9223372036854775808
    · have HF : Hid (shiftF b f e x = (noteOf e 1, 0)) := by
        show _ = _
        unfold shiftF
        rw [if_neg hlt, if_pos ⟨by omega, hb0, .inl hmin⟩]
      have hq2 : IntKind.i64.wrap (-b) = b := by rw [hmin]; rfl
      have hq3 : (b == b) = true := by simp
      clear hmin
      go_enter Try.func92, Try.ntmps92
      go_wp2_with fail
      refine (Hnote.out 1).mono ?_
      rintro r w1 ⟨⟨v, rfl⟩, hs1, hg1⟩
      go_wp2_with fail
      go_ret
      rw [HF.out]
      exact ⟨rfl, hs1, hg1⟩
    have hq2 : IntKind.i64.wrap (-b) = -b := IntWalk.i64_in _ (by omega)
    have hq3 : (b == -b) = false := by simpa using (by omega : ¬ b = -b)
    by_cases hd : x - f < -b
    · have HF : Hid (shiftF b f e x = (noteOf e 1, 0)) := by
        show _ = _
        unfold shiftF
        rw [if_neg hlt, if_pos ⟨by omega, hb0, .inr hd⟩]
      go_enter Try.func92, Try.ntmps92
      go_wp2_with fail
      refine (Hnote.out 1).mono ?_
      rintro r w1 ⟨⟨v, rfl⟩, hs1, hg1⟩
      go_wp2_with fail
      go_ret
      rw [HF.out]
      exact ⟨rfl, hs1, hg1⟩
    have hna : ¬ argBad b f x := by rintro ⟨_, _, h | h⟩ <;> omega
    have hg1 : ¬ b > 1000 := by omega
    have hq4 : IntKind.i64.wrap (x + b) = x + b := IntWalk.i64_in _ (by omega)
    by_cases hl : x + b > 1000
    · have HF : Hid (shiftF b f e x = (noteOf e 2, 0)) := by
        show _ = _
        unfold shiftF
        rw [if_neg hlt, if_neg hna, if_pos ⟨by omega, .inr (.inr ⟨hb0, hl⟩)⟩]
      go_enter Try.func92, Try.ntmps92
      go_wp2_with fail
      refine (Hnote.out 2).mono ?_
      rintro r w1 ⟨⟨v, rfl⟩, hs1, hg1⟩
      go_wp2_with fail
      go_ret
      rw [HF.out]
      exact ⟨rfl, hs1, hg1⟩
    have HF : Hid (shiftF b f e x = (e, x + b)) := by
      show _ = _
      unfold shiftF
      rw [if_neg hlt, if_neg hna, if_neg (by rintro ⟨_, h | h | h⟩ <;> omega)]
    go_enter Try.func92, Try.ntmps92
    go_wp2_with fail
    go_ret
    rw [HF.out]
    exact ⟨rfl, Hst.out, World.grownBy.refl _ _⟩
  have hb0' : b ≥ 0 := by omega
  have hna : ¬ argBad b f x := by rintro ⟨_, h, _⟩; omega
  by_cases hg1 : b > 1000
  · have HF : Hid (shiftF b f e x = (noteOf e 2, 0)) := by
      show _ = _
      unfold shiftF
      rw [if_neg hlt, if_neg hna, if_pos ⟨by omega, .inl hg1⟩]
    go_enter Try.func92, Try.ntmps92
    go_wp2_with fail
    refine (Hnote.out 2).mono ?_
    rintro r w1 ⟨⟨v, rfl⟩, hs1, hg1⟩
    go_wp2_with fail
    go_ret
    rw [HF.out]
    exact ⟨rfl, hs1, hg1⟩
  have hq5 : IntKind.i64.wrap (1000 - b) = 1000 - b := IntWalk.i64_in _ (by omega)
  by_cases hl : x > 1000 - b
  · have HF : Hid (shiftF b f e x = (noteOf e 2, 0)) := by
      show _ = _
      unfold shiftF
      rw [if_neg hlt, if_neg hna, if_pos ⟨by omega, .inr (.inl ⟨hb0', hl⟩)⟩]
    go_enter Try.func92, Try.ntmps92
    go_wp2_with fail
    refine (Hnote.out 2).mono ?_
    rintro r w1 ⟨⟨v, rfl⟩, hs1, hg1⟩
    go_wp2_with fail
    go_ret
    rw [HF.out]
    exact ⟨rfl, hs1, hg1⟩
  have hq4 : IntKind.i64.wrap (x + b) = x + b := IntWalk.i64_in _ (by omega)
  have HF : Hid (shiftF b f e x = (e, x + b)) := by
    show _ = _
    unfold shiftF
    rw [if_neg hlt, if_neg hna, if_neg (by rintro ⟨_, h | h | h⟩ <;> omega)]
  go_enter Try.func92, Try.ntmps92
  go_wp2_with fail
  go_ret
  rw [HF.out]
  exact ⟨rfl, Hst.out, World.grownBy.refl _ _⟩
end Go.Proofs.Ytejpgifofkiofaa

namespace Go.Proofs.Ytejpgifofkiofaa
open Go.RowKit

namespace Tm
mutual
def looses : Tm → Int → List Int
  | .mk b k i a, n => (if k = 0 ∧ n + (b.length : Nat) ≤ i then [i - (n + (b.length : Nat))] else []) ++ loosess a (n + (b.length : Nat))
def loosess : List Tm → Int → List Int
  | [], _ => []
  | t :: l, n => looses t n ++ loosess l n
end
mutual
def mapl (v : Int → Int) : Tm → Int → Tm
  | .mk b k i a, n => .mk b k (if k = 0 ∧ n + (b.length : Nat) ≤ i then n + (b.length : Nat) + v (i - (n + (b.length : Nat))) else i) (mapls v a (n + (b.length : Nat)))
def mapls (v : Int → Int) : List Tm → Int → List Tm
  | [], _ => []
  | t :: l, n => mapl v t n :: mapls v l n
end
theorem looses_eq (b : List Ty) (k i : Int) (a : List Tm) (n m : Int) (hm : n + (b.length : Int) = m) : looses (.mk b k i a) n = (if k = 0 ∧ m ≤ i then [i - m] else []) ++ loosess a m := by subst hm; rw [looses]
theorem mapl_eq (v : Int → Int) (b : List Ty) (k i : Int) (a : List Tm) (n m : Int) (hm : n + (b.length : Int) = m) : mapl v (.mk b k i a) n = .mk b k (if k = 0 ∧ m ≤ i then m + v (i - m) else i) (mapls v a m) := by subst hm; rw [mapl]
theorem loosess_append (l l' : List Tm) (n : Int) : loosess (l ++ l') n = loosess l n ++ loosess l' n := by
  induction l with
  | nil => simp [loosess]
  | cons t l ih => simp [loosess, ih]
theorem mapls_len (v : Int → Int) (l : List Tm) (n : Int) : (mapls v l n).length = l.length := by
  induction l with
  | nil => simp [mapls]
  | cons t l ih => simp [mapls, ih]
theorem mapls_append (v : Int → Int) (l l' : List Tm) (n : Int) : mapls v (l ++ l') n = mapls v l n ++ mapls v l' n := by
  induction l with
  | nil => simp [mapls]
  | cons t l ih => simp [mapls, ih]
theorem loosess_take (l : List Tm) (n : Int) (j : Nat) (h : j < l.length) : loosess (l.take (j + 1)) n = loosess (l.take j) n ++ looses l[j] n := by
  rw [List.take_succ_eq_append_getElem h, loosess_append]; simp [loosess]
theorem mapls_take (v : Int → Int) (l : List Tm) (n : Int) (j : Nat) (h : j < l.length) : mapls v (l.take (j + 1)) n = mapls v (l.take j) n ++ [mapl v l[j] n] := by
  rw [List.take_succ_eq_append_getElem h, mapls_append]; simp [mapls]

section
variable {σ : Type} (g : σ → Int → σ) (v : Int → Int)
theorem turns_split {l : List Tm} (h : ∀ t ∈ l, ∀ s n, turn (fun s x => (g s x, v x)) t s n = ((looses t n).foldl g s, mapl v t n)) : ∀ s n, turns (fun s x => (g s x, v x)) l s n = ((loosess l n).foldl g s, mapls v l n) := by
  induction l with
  | nil => intro s n; simp [turns, loosess, mapls]
  | cons t l ih =>
    intro s n
    have h1 := h t (by simp) s n
    have h2 := ih (fun u hu => h u (by simp [hu])) ((looses t n).foldl g s) n
    simp only [turns, h1, h2, loosess, mapls, List.foldl_append]
theorem turn_split (t : Tm) : ∀ s n, turn (fun s x => (g s x, v x)) t s n = ((looses t n).foldl g s, mapl v t n) := by
  induction t using Tm.ind with
  | h b k i a ih =>
    intro s n
    have h := turns_split g v ih
    obtain ⟨m, hm⟩ : ∃ m : Int, n + (b.length : Int) = m := ⟨_, rfl⟩
    rw [looses_eq b k i a n m hm, mapl_eq v b k i a n m hm, turn]
    simp only [hm, h]
    by_cases hc : k = 0 ∧ m ≤ i
    · simp only [if_pos hc, List.cons_append, List.nil_append, List.foldl_cons]
    · simp only [if_neg hc, List.nil_append]
end
theorem mapls_congr {v v' : Int → Int} {l : List Tm} (h : ∀ t ∈ l, ∀ n, (∀ x ∈ looses t n, v x = v' x) → mapl v t n = mapl v' t n) : ∀ n, (∀ x ∈ loosess l n, v x = v' x) → mapls v l n = mapls v' l n := by
  induction l with
  | nil => intro n _; simp [mapls]
  | cons t l ih =>
    intro n hx
    simp only [loosess, List.mem_append] at hx
    rw [mapls, mapls, h t (by simp) n fun x hx' => hx x (.inl hx'), ih (fun u hu => h u (by simp [hu])) n fun x hx' => hx x (.inr hx')]
theorem mapl_congr {v v' : Int → Int} (t : Tm) : ∀ n, (∀ x ∈ looses t n, v x = v' x) → mapl v t n = mapl v' t n := by
  induction t using Tm.ind with
  | h b k i a ih =>
    intro n hx
    obtain ⟨m, hm⟩ : ∃ m : Int, n + (b.length : Int) = m := ⟨_, rfl⟩
    rw [looses_eq b k i a n m hm] at hx
    rw [mapl_eq v b k i a n m hm, mapl_eq v' b k i a n m hm, mapls_congr ih m fun x hx' => hx x (List.mem_append.2 (.inr hx'))]
    by_cases hc : k = 0 ∧ m ≤ i
    · simp only [if_pos hc] at hx ⊢
      rw [hx (i - m) (by simp)]
    · simp only [if_neg hc]
theorem loosess_nonneg {l : List Tm} (h : ∀ t ∈ l, ∀ n, ∀ x ∈ looses t n, 0 ≤ x) : ∀ n, ∀ x ∈ loosess l n, 0 ≤ x := by
  induction l with
  | nil => intro n x hx; simp [loosess] at hx
  | cons t l ih =>
    intro n x hx
    simp only [loosess, List.mem_append] at hx
    rcases hx with hx | hx
    · exact h t (by simp) n x hx
    · exact ih (fun u hu => h u (by simp [hu])) n x hx
theorem looses_nonneg (t : Tm) : ∀ n, ∀ x ∈ looses t n, 0 ≤ x := by
  induction t using Tm.ind with
  | h b k i a ih =>
    intro n x hx
    rw [looses_eq b k i a n _ rfl] at hx
    rcases List.mem_append.1 hx with hx | hx
    · split at hx
      · simp at hx; omega
      · simp at hx
    · exact loosess_nonneg ih _ x hx
end Tm

def shiftE (b f e x : Int) : Int := if x < f then e else if argBad b f x then noteOf e 1 else if longBad b f x then noteOf e 2 else e
def shiftV (b f x : Int) : Int := if x < f then x else if argBad b f x then 0 else if longBad b f x then 0 else x + b
def grow (b f x : Int) : Int := if x < f then x else x + b
theorem shiftF_eq (b f : Int) : shiftF b f = fun e x => (shiftE b f e x, shiftV b f x) := by
  funext e x
  unfold shiftF shiftE shiftV
  split
  · rfl
  · split
    · rfl
    · split <;> rfl

def shiftCode (b f : Int) (l : List Int) : Int := if ∃ x ∈ l, argBad b f x then 1 else if ∃ x ∈ l, longBad b f x then 2 else 0

theorem fold_shiftE (b f : Int) (l : List Int) : ∀ e, (e = 0 ∨ e = 1 ∨ e = 2) → l.foldl (shiftE b f) e = if e = 1 ∨ ∃ x ∈ l, argBad b f x then 1 else if e = 2 ∨ ∃ x ∈ l, longBad b f x then 2 else 0 := by
  induction l with
  | nil => intro e he; rcases he with rfl | rfl | rfl <;> simp
  | cons x l ih =>
    intro e he
    rw [List.foldl_cons]
    by_cases hx : x < f
    · have h1 : ¬ argBad b f x := fun h => by have := h.1; omega
      have h2 : ¬ longBad b f x := fun h => by have := h.1; omega
      rw [show shiftE b f e x = e by simp [shiftE, hx], ih e he]
      simp [h1, h2]
    · by_cases h1 : argBad b f x
      · rw [show shiftE b f e x = 1 by rcases he with rfl | rfl | rfl <;> simp [shiftE, hx, h1, noteOf], ih 1 (by simp)]
        simp [h1]
      · by_cases h2 : longBad b f x
        · have hs : shiftE b f e x = if e = 1 then 1 else 2 := by rcases he with rfl | rfl | rfl <;> simp [shiftE, hx, h1, h2, noteOf]
          rw [hs]
          by_cases he1 : e = 1
          · simp only [if_pos he1]; rw [ih 1 (by simp)]; simp [he1]
          · simp only [if_neg he1]; rw [ih 2 (by simp)]; simp [h1, h2, he1]
        · rw [show shiftE b f e x = e by simp [shiftE, hx, h1, h2], ih e he]
          simp [h1, h2]
theorem fold_code (b f : Int) (l : List Int) : l.foldl (shiftE b f) 0 = shiftCode b f l := by
  rw [fold_shiftE b f l 0 (by simp)]; simp [shiftCode]

def Tm.shift (t : Tm) (b f : Int) : Tm × Int :=
  if f < 0 then (Tm.zero, 1) else if shiftCode b f (t.looses 0) = 0 then (t.mapl (grow b f) 0, 0) else (Tm.zero, shiftCode b f (t.looses 0))

theorem mapl_shiftV (b f : Int) (t : Tm) (n : Int) (h : shiftCode b f (t.looses n) = 0) : t.mapl (shiftV b f) n = t.mapl (grow b f) n := by
  refine Tm.mapl_congr t n fun x hx => ?_
  unfold shiftCode at h
  by_cases ha : ∃ x ∈ t.looses n, argBad b f x
  · rw [if_pos ha] at h; cases h
  · rw [if_neg ha] at h
    by_cases hl : ∃ x ∈ t.looses n, longBad b f x
    · rw [if_pos hl] at h; cases h
    · unfold shiftV grow
      rw [if_neg (fun h' => ha ⟨x, hx, h'⟩), if_neg (fun h' => hl ⟨x, hx, h'⟩)]
end Go.Proofs.Ytejpgifofkiofaa

namespace Go.Proofs.Ytejpgifofkiofaa
open Go.RowKit

def rpInt : Rp Int where
  n := 1
  R _ _ x v := x = [.int .i64 v]
  len := by rintro F w x a rfl; rfl
  one := by rintro F w x a rfl u hu; simp at hu; subst hu; rfl
  keep := fun h _ => h
  weaken := fun h _ => h

theorem infoI : (Try.prog.info? 3).map (fun i => (i.zero, i.size, i.bytes)) = some (some (.int .i64 0), 1, 8) := by kernel_rfl

theorem Tm.loosess_len_of {l : List Tm} (h : ∀ t ∈ l, ∀ n, (t.looses n).length ≤ t.full) : ∀ n, (Tm.loosess l n).length ≤ Tm.fulls l := by
  induction l with
  | nil => intro n; simp [loosess]
  | cons t l ih =>
    intro n
    have h1 := h t (by simp) n
    have h2 := ih (fun u hu => h u (by simp [hu])) n
    simp [loosess, fulls]; omega
theorem Tm.looses_len (t : Tm) : ∀ n, (t.looses n).length ≤ t.full := by
  induction t using Tm.ind with
  | h b k i a ih =>
    intro n
    have h := Tm.loosess_len_of ih (n + (b.length : Int))
    rw [Tm.looses_eq b k i a n _ rfl, Tm.full_eq, List.length_append]
    split <;> simp <;> omega
theorem Tm.loosess_len (l : List Tm) (n : Int) : (Tm.loosess l n).length ≤ Tm.fulls l := Tm.loosess_len_of (fun t _ n => Tm.looses_len t n) n

theorem Tm.mem_loosess {l : List Tm} {t : Tm} {n x : Int} (h : t ∈ l) (hx : x ∈ t.looses n) : x ∈ Tm.loosess l n := by
  induction l with
  | nil => cases h
  | cons u l ih =>
    simp only [loosess, List.mem_append]
    rcases List.mem_cons.1 h with rfl | h
    · exact .inl hx
    · exact .inr (ih h)

def FreshInts (l : List Int) (w : World) (e : Ending) (w' : World) : Prop := ∃ a c, e = .returned (.slice a l.length c) ∧ IsSl rpInt (fun q => w.heap.size ≤ q) w' (.slice a l.length c) l ∧ Below w.heap.size w w'

def LoosesR (t : Tm) : Prop := ∀ (F : Nat → Prop) (w0 : World) (b0 k0 i0 a0 : Value), IsTm F w0 b0 k0 i0 a0 t → ∀ (n : Int) (w : World), Keep F w0 w → 0 ≤ n → n + t.full ≤ 90000 → t.Fit →
    Calls Try.prog 119 #[.agg #[b0, k0, i0, a0], .int .i64 n] w (FreshInts (t.looses n) w)

set_option maxRecDepth 100000 in
set_option maxHeartbeats 1000000 in
theorem looses_r : ∀ t : Tm, LoosesR t := Tm.ind fun binds k i args ih => by
  intro F w0 b0 k0 i0 a0 ht n w hw hn0 hn1 hfit
  obtain ⟨rfl, rfl, hb, hs⟩ := ht.inv
  obtain ⟨pa, pc, rfl⟩ := hb.shape
  obtain ⟨a, c, rfl⟩ := hs.shape
  simp only [Tm.binds, Tm.kind, Tm.index, Tm.args] at *
  obtain ⟨_, hm, bl, off, PA, A, PN, PC, N, C, Kd, Ix, ha, h1, h2, h3, h4, h5⟩ := sl_cells6 hs
  clear hs ht hb
  rw [Tm.full_eq] at hn1
  obtain ⟨hi0, hi1, hfa⟩ := Tm.fit_iff.1 hfit
  have hbl := Ty.le_sizes binds
  obtain ⟨m, hmm⟩ : ∃ m : Int, n + (binds.length : Int) = m := ⟨_, rfl⟩
  have hm0 : 0 ≤ m := by omega
  have hm1 : m ≤ 90000 := by omega
  have hs1 : IntKind.i64.wrap m = m := IntWalk.i64_in _ (by omega)
  have hal : args.length ≤ 90000 := by have := Tm.len_fulls args; omega
  obtain ⟨L, hL⟩ : ∃ L, Tm.looses (.mk binds k i args) n = L := ⟨_, rfl⟩
  rw [hL]
  have Hih : Hid (∀ j (h : j < args.length) (w' : World), Keep F w0 w' → Calls Try.prog 119 #[.agg #[.slice (PA j) (PN j) (PC j), .int .i64 (Kd j), .int .i64 (Ix j), .slice (A j) (N j) (C j)], .int .i64 m] w' (FreshInts (args[j].looses m) w')) :=
    fun j h w' hw => ih _ (List.getElem_mem h) _ _ _ _ _ _ (h5 j h) m w' hw hm0 (by have := Tm.full_mem (List.getElem_mem h); omega) (hfa _ (List.getElem_mem h))
  clear ih h5 hfit hfa
  obtain ⟨i2, hi2, hz0, hz1, hz2⟩ := info_parts infoI
  by_cases hk : k = 0
  · subst hk
    have hk0 : ((0 : Int) == 0) = true := rfl
    by_cases hge : i ≥ m
    · skip
      have HL : Hid ([i - m] ++ Tm.loosess args m = L) := by show _ = _; rw [← hL, Tm.looses_eq binds 0 i args n m hmm, if_pos ⟨rfl, hge⟩]
      have hq1 : IntKind.i64.wrap (i - m) = i - m := IntWalk.i64_in _ (by omega)
      clear hL
      go_enter Try.func119, Try.ntmps119
      go_wp2_with (at_builtin; refine wpList_push rpInt (by decide) rfl _ _ _ rfl (w.heap.size + 1) 3 i2 _ 8 Try.underlying105 hi2 hz0 hz1 hz2 rfl (by decide) (fun q => w.heap.size ≤ q) (.slice none 0 0) [] rfl (Acc.nil _ _ _ _ _) (by simp) (w.heap.size + 1) _ [.int .i64 (i - m)] (i - m) rfl (Blk.new _ #[.int .i64 (i - m)] _ (by simp)) rfl (by simp) ?_; intro g cap w3 hacc3 hgrow hat hlt2)
      have B3 : Below w.heap.size w w3 := (((Below.refl _ _).alloc (Nat.le_refl _) _).alloc (by simp) _).grown hgrow (by simp; omega) (fun k hk => by cases hk)
      have x3 : Blk w3 w.heap.size #[.slice pa binds.length pc, .int .i64 0, .int .i64 i, .slice a args.length c] 29 := ((Blk.new _ _ _ rfl).alloc _).grown hgrow (by simp [Value.ownBlock])
      have A3 : Hid (Acc rpInt 3 (w.heap.size + 1) (fun q => w.heap.size ≤ q) w3 (.slice (some ⟨g, 0, none⟩) 1 cap) [i - m]) := hacc3
      clear hacc3 hgrow hat hlt2
      go_loopw [5, 7] (fun x ii wr => ∃ (j : Nat) (v : Value), ii = .int .i64 j ∧ x = v ∧ j ≤ args.length ∧ Below w.heap.size w wr ∧ Blk wr w.heap.size #[.slice pa binds.length pc, .int .i64 0, .int .i64 i, .slice a args.length c] 29 ∧
          Acc rpInt 3 (w.heap.size + 1) (fun q => w.heap.size ≤ q) wr v ([i - m] ++ Tm.loosess (args.take j) m)) (fun _ ii _ => args.length - (intOf ii).toNat)
      case atStart => exact ⟨0, _, rfl, rfl, by omega, B3, x3, by simpa [Tm.loosess] using A3.out⟩
      case round =>
        clear B3 x3 A3
        obtain ⟨j, v, rfl, hv0, hj, hb, hbox, hacc⟩ := hrel
        have hv0 := hv0.symm
        subst hv0
        have c0 : wr.cell? ⟨w.heap.size, 3, none⟩ = some (.slice a args.length c) := hbox.cell rfl
        have hlt0 := hbox.lt
        have Hacc := Lib.hid hacc; clear hacc
        by_cases hlt : j < args.length
        · obtain ⟨rfl, hF⟩ := ha (by omega)
          have hkp : Keep F w0 wr := hw.below hb
          have e1 := hkp _ _ _ hF (h1 j hlt)
          have e2 := hkp _ _ _ hF (h2 j hlt)
          have e3 := hkp _ _ _ hF (h3 j hlt)
          have e4 := hkp _ _ _ hF (h4 j hlt)
          have hj0 : (0 : Int) ≤ (j : Int) := Int.natCast_nonneg _
          have hj1 : (j : Int) < (args.length : Int) := by omega
          have Hlen : Hid (([i - m] ++ Tm.loosess (args.take j) m).length + (args[j].looses m).length ≤ 1000000) := by
            show _ ≤ _
            have q1 := Tm.loosess_len (args.take j) m; have q2 := Tm.looses_len args[j] m; have q3 := Tm.fulls_take_le args j; have q4 := Tm.full_mem (List.getElem_mem hlt)
            simp; omega
          have Htk := Lib.hid (Tm.loosess_take args m j hlt)
          go_wp2_with fail
          refine (Hih.out j hlt wr hkp).mono ?_
          rintro e w1 ⟨ra, rc, rfl, hr1, hb1⟩
          have A1 := Lib.hid (Hacc.out.below hb1)
          have hB1 := hb.trans (hb1.mono hb.size)
          have hbox1 := hbox.below hb1
          have hsz1 := hB1.size
          have hlt1 := hbox1.lt
          have HR := Lib.hid (hr1.weaken (F' := fun q => w.heap.size ≤ q ∧ v.ownBlock ≠ some q) (by decide) fun q _ hq => ⟨Nat.le_trans hb.size hq, fun e => by have := (Hacc.out.base_le q e).2; omega⟩)
          clear hr1
          go_wp2_with (at_builtin; refine wpList_push_sl rpInt (by decide) rfl _ _ _ rfl (w.heap.size + 1) 3 i2 _ 8 Try.underlying105 hi2 hz0 hz1 hz2 rfl (by decide) (fun q => w.heap.size ≤ q) v ([i - m] ++ Tm.loosess (args.take j) m) rfl A1.out _ (args[j].looses m) rfl HR.out Hlen.out (by omega) ?_; intro v' w2 hacc2 hgrow hat)
          go_roundw
          case rel =>
            refine ⟨j + 1, _, by go_num, rfl, by omega, hB1.grown hgrow hsz1 (fun q hq => by have := (A1.out.base_le q hq).1; omega), hbox1.grown hgrow (fun e => by have := (A1.out.base_le _ e).1; omega), ?_⟩
            rw [Htk.out, ← List.append_assoc]
            exact hacc2
          case measure => simp [intOf]; omega
        · go_wp2_with fail
          go_ret
          have h := Hacc.out
          rw [List.take_of_length_le (by omega)] at h
          obtain ⟨va, vc, hv⟩ := h.len_shape
          rw [show [i - m] ++ Tm.loosess args m = L from HL.out] at h hv
          refine ⟨va, vc, ?_, ?_, hb⟩
          · rw [← hv]; rfl
          · rw [← hv]; exact h.sl (fun q _ hq => hq) (fun q hq => by omega)
    · skip
      have HL : Hid ([] ++ Tm.loosess args m = L) := by show _ = _; rw [← hL, Tm.looses_eq binds 0 i args n m hmm, if_neg (fun h => hge h.2)]
      clear hL
      go_enter Try.func119, Try.ntmps119
      go_wp2_with fail
      have B3 : Below w.heap.size w (w.alloc (.cells #[.slice pa binds.length pc, .int .i64 0, .int .i64 i, .slice a args.length c] 29)) := (Below.refl _ _).alloc (Nat.le_refl _) _
      have x3 := Blk.new w #[.slice pa binds.length pc, .int .i64 0, .int .i64 i, .slice a args.length c] 29 rfl
      have A3 : Hid (Acc rpInt 3 (w.heap.size + 1) (fun q => w.heap.size ≤ q) (w.alloc (.cells #[.slice pa binds.length pc, .int .i64 0, .int .i64 i, .slice a args.length c] 29)) (.slice none 0 0) []) := Acc.nil _ _ _ _ _
      go_loopw [5, 7] (fun x ii wr => ∃ (j : Nat) (v : Value), ii = .int .i64 j ∧ x = v ∧ j ≤ args.length ∧ Below w.heap.size w wr ∧ Blk wr w.heap.size #[.slice pa binds.length pc, .int .i64 0, .int .i64 i, .slice a args.length c] 29 ∧
          Acc rpInt 3 (w.heap.size + 1) (fun q => w.heap.size ≤ q) wr v ([] ++ Tm.loosess (args.take j) m)) (fun _ ii _ => args.length - (intOf ii).toNat)
      case atStart => exact ⟨0, _, rfl, rfl, by omega, B3, x3, by simpa [Tm.loosess] using A3.out⟩
      case round =>
        clear B3 x3 A3
        obtain ⟨j, v, rfl, hv0, hj, hb, hbox, hacc⟩ := hrel
        have hv0 := hv0.symm
        subst hv0
        have c0 : wr.cell? ⟨w.heap.size, 3, none⟩ = some (.slice a args.length c) := hbox.cell rfl
        have hlt0 := hbox.lt
        have Hacc := Lib.hid hacc; clear hacc
        by_cases hlt : j < args.length
        · obtain ⟨rfl, hF⟩ := ha (by omega)
          have hkp : Keep F w0 wr := hw.below hb
          have e1 := hkp _ _ _ hF (h1 j hlt)
          have e2 := hkp _ _ _ hF (h2 j hlt)
          have e3 := hkp _ _ _ hF (h3 j hlt)
          have e4 := hkp _ _ _ hF (h4 j hlt)
          have hj0 : (0 : Int) ≤ (j : Int) := Int.natCast_nonneg _
          have hj1 : (j : Int) < (args.length : Int) := by omega
          have Hlen : Hid (([] ++ Tm.loosess (args.take j) m).length + (args[j].looses m).length ≤ 1000000) := by
            show _ ≤ _
            have q1 := Tm.loosess_len (args.take j) m; have q2 := Tm.looses_len args[j] m; have q3 := Tm.fulls_take_le args j; have q4 := Tm.full_mem (List.getElem_mem hlt)
            simp; omega
          have Htk := Lib.hid (Tm.loosess_take args m j hlt)
          go_wp2_with fail
          refine (Hih.out j hlt wr hkp).mono ?_
          rintro e w1 ⟨ra, rc, rfl, hr1, hb1⟩
          have A1 := Lib.hid (Hacc.out.below hb1)
          have hB1 := hb.trans (hb1.mono hb.size)
          have hbox1 := hbox.below hb1
          have hsz1 := hB1.size
          have hlt1 := hbox1.lt
          have HR := Lib.hid (hr1.weaken (F' := fun q => w.heap.size ≤ q ∧ v.ownBlock ≠ some q) (by decide) fun q _ hq => ⟨Nat.le_trans hb.size hq, fun e => by have := (Hacc.out.base_le q e).2; omega⟩)
          clear hr1
          go_wp2_with (at_builtin; refine wpList_push_sl rpInt (by decide) rfl _ _ _ rfl (w.heap.size + 1) 3 i2 _ 8 Try.underlying105 hi2 hz0 hz1 hz2 rfl (by decide) (fun q => w.heap.size ≤ q) v ([] ++ Tm.loosess (args.take j) m) rfl A1.out _ (args[j].looses m) rfl HR.out Hlen.out (by omega) ?_; intro v' w2 hacc2 hgrow hat)
          go_roundw
          case rel =>
            refine ⟨j + 1, _, by go_num, rfl, by omega, hB1.grown hgrow hsz1 (fun q hq => by have := (A1.out.base_le q hq).1; omega), hbox1.grown hgrow (fun e => by have := (A1.out.base_le _ e).1; omega), ?_⟩
            rw [Htk.out, ← List.append_assoc]
            exact hacc2
          case measure => simp [intOf]; omega
        · go_wp2_with fail
          go_ret
          have h := Hacc.out
          rw [List.take_of_length_le (by omega)] at h
          obtain ⟨va, vc, hv⟩ := h.len_shape
          rw [show [] ++ Tm.loosess args m = L from HL.out] at h hv
          refine ⟨va, vc, ?_, ?_, hb⟩
          · rw [← hv]; rfl
          · rw [← hv]; exact h.sl (fun q _ hq => hq) (fun q hq => by omega)
  · have hk0 : (k == 0) = false := by simpa using hk
    have HL : Hid ([] ++ Tm.loosess args m = L) := by show _ = _; rw [← hL, Tm.looses_eq binds k i args n m hmm, if_neg (fun h => hk h.1)]
    clear hL
    go_enter Try.func119, Try.ntmps119
    go_wp2_with fail
    have B3 : Below w.heap.size w (w.alloc (.cells #[.slice pa binds.length pc, .int .i64 k, .int .i64 i, .slice a args.length c] 29)) := (Below.refl _ _).alloc (Nat.le_refl _) _
    have x3 := Blk.new w #[.slice pa binds.length pc, .int .i64 k, .int .i64 i, .slice a args.length c] 29 rfl
    have A3 : Hid (Acc rpInt 3 (w.heap.size + 1) (fun q => w.heap.size ≤ q) (w.alloc (.cells #[.slice pa binds.length pc, .int .i64 k, .int .i64 i, .slice a args.length c] 29)) (.slice none 0 0) []) := Acc.nil _ _ _ _ _
    go_loopw [5, 7] (fun x ii wr => ∃ (j : Nat) (v : Value), ii = .int .i64 j ∧ x = v ∧ j ≤ args.length ∧ Below w.heap.size w wr ∧ Blk wr w.heap.size #[.slice pa binds.length pc, .int .i64 k, .int .i64 i, .slice a args.length c] 29 ∧
        Acc rpInt 3 (w.heap.size + 1) (fun q => w.heap.size ≤ q) wr v ([] ++ Tm.loosess (args.take j) m)) (fun _ ii _ => args.length - (intOf ii).toNat)
    case atStart => exact ⟨0, _, rfl, rfl, by omega, B3, x3, by simpa [Tm.loosess] using A3.out⟩
    case round =>
      clear B3 x3 A3
      obtain ⟨j, v, rfl, hv0, hj, hb, hbox, hacc⟩ := hrel
      have hv0 := hv0.symm
      subst hv0
      have c0 : wr.cell? ⟨w.heap.size, 3, none⟩ = some (.slice a args.length c) := hbox.cell rfl
      have hlt0 := hbox.lt
      have Hacc := Lib.hid hacc; clear hacc
      by_cases hlt : j < args.length
      · obtain ⟨rfl, hF⟩ := ha (by omega)
        have hkp : Keep F w0 wr := hw.below hb
        have e1 := hkp _ _ _ hF (h1 j hlt)
        have e2 := hkp _ _ _ hF (h2 j hlt)
        have e3 := hkp _ _ _ hF (h3 j hlt)
        have e4 := hkp _ _ _ hF (h4 j hlt)
        have hj0 : (0 : Int) ≤ (j : Int) := Int.natCast_nonneg _
        have hj1 : (j : Int) < (args.length : Int) := by omega
        have Hlen : Hid (([] ++ Tm.loosess (args.take j) m).length + (args[j].looses m).length ≤ 1000000) := by
          show _ ≤ _
          have q1 := Tm.loosess_len (args.take j) m; have q2 := Tm.looses_len args[j] m; have q3 := Tm.fulls_take_le args j; have q4 := Tm.full_mem (List.getElem_mem hlt)
          simp; omega
        have Htk := Lib.hid (Tm.loosess_take args m j hlt)
        go_wp2_with fail
        refine (Hih.out j hlt wr hkp).mono ?_
        rintro e w1 ⟨ra, rc, rfl, hr1, hb1⟩
        have A1 := Lib.hid (Hacc.out.below hb1)
        have hB1 := hb.trans (hb1.mono hb.size)
        have hbox1 := hbox.below hb1
        have hsz1 := hB1.size
        have hlt1 := hbox1.lt
        have HR := Lib.hid (hr1.weaken (F' := fun q => w.heap.size ≤ q ∧ v.ownBlock ≠ some q) (by decide) fun q _ hq => ⟨Nat.le_trans hb.size hq, fun e => by have := (Hacc.out.base_le q e).2; omega⟩)
        clear hr1
        go_wp2_with (at_builtin; refine wpList_push_sl rpInt (by decide) rfl _ _ _ rfl (w.heap.size + 1) 3 i2 _ 8 Try.underlying105 hi2 hz0 hz1 hz2 rfl (by decide) (fun q => w.heap.size ≤ q) v ([] ++ Tm.loosess (args.take j) m) rfl A1.out _ (args[j].looses m) rfl HR.out Hlen.out (by omega) ?_; intro v' w2 hacc2 hgrow hat)
        go_roundw
        case rel =>
          refine ⟨j + 1, _, by go_num, rfl, by omega, hB1.grown hgrow hsz1 (fun q hq => by have := (A1.out.base_le q hq).1; omega), hbox1.grown hgrow (fun e => by have := (A1.out.base_le _ e).1; omega), ?_⟩
          rw [Htk.out, ← List.append_assoc]
          exact hacc2
        case measure => simp [intOf]; omega
      · go_wp2_with fail
        go_ret
        have h := Hacc.out
        rw [List.take_of_length_le (by omega)] at h
        obtain ⟨va, vc, hv⟩ := h.len_shape
        rw [show [] ++ Tm.loosess args m = L from HL.out] at h hv
        refine ⟨va, vc, ?_, ?_, hb⟩
        · rw [← hv]; rfl
        · rw [← hv]; exact h.sl (fun q _ hq => hq) (fun q hq => by omega)
end Go.Proofs.Ytejpgifofkiofaa

namespace Go.Proofs.Ytejpgifofkiofaa
open Go.RowKit

def sortU (zs : List Int) : List Int := Lib.compact (zs.mergeSort fun x y => decide (x ≤ y))

theorem keeps_zero (d : Array Int) : Lib.keeps d 0 = true := by simp [Lib.keeps]
theorem upTo_rises (d : Array Int) : ∀ m, m ≤ d.size → (∀ i j, i ≤ j → j < d.size → d[i]! ≤ d[j]!) → (Lib.compactUpTo d m).Pairwise (· < ·) ∧ (∀ x ∈ Lib.compactUpTo d m, ∃ j, j < m ∧ d[j]! = x) ∧ (∀ j, j < m → d[j]! ∈ Lib.compactUpTo d m) := by
  intro m
  induction m with
  | zero => intro _ _; simp [Lib.compactUpTo]
  | succ m ih =>
    intro hm hs
    obtain ⟨h1, h2, h3⟩ := ih (by omega) hs
    rw [Lib.compactUpTo_succ]
    by_cases hk : Lib.keeps d m = true
    · rw [if_pos hk]
      refine ⟨?_, ?_, ?_⟩
      · rw [List.pairwise_append]
        refine ⟨h1, by simp, fun a ha b hb => ?_⟩
        obtain ⟨j, hj, rfl⟩ := h2 a ha
        simp at hb; subst hb
        have hle := hs j (m - 1) (by omega) (by omega)
        have hle2 := hs (m - 1) m (by omega) (by omega)
        have hne : d[m - 1]! ≠ d[m]! := by
          cases m with
          | zero => omega
          | succ k =>
            have : d[k + 1]! ≠ d[k]! := by simpa [Lib.keeps] using hk
            exact fun e => this e.symm
        omega
      · intro x hx
        rcases List.mem_append.1 hx with hx | hx
        · obtain ⟨j, hj, e⟩ := h2 x hx; exact ⟨j, by omega, e⟩
        · simp at hx; exact ⟨m, by omega, hx.symm⟩
      · intro j hj
        rw [List.mem_append]
        by_cases hjm : j = m
        · subst hjm; right; simp
        · left; exact h3 j (by omega)
    · rw [if_neg hk, List.append_nil]
      refine ⟨h1, fun x hx => by obtain ⟨j, hj, e⟩ := h2 x hx; exact ⟨j, by omega, e⟩, fun j hj => ?_⟩
      by_cases hjm : j = m
      · subst hjm
        cases j with
        | zero => exact absurd (keeps_zero d) hk
        | succ k =>
          have : d[k + 1]! = d[k]! := by simpa [Lib.keeps] using hk
          rw [this]; exact h3 k (by omega)
      · exact h3 j (by omega)

theorem sortU_spec (zs : List Int) : (sortU zs).Pairwise (· < ·) ∧ ∀ x, x ∈ sortU zs ↔ x ∈ zs := by
  obtain ⟨ss, hss⟩ : ∃ ss, (zs.mergeSort fun x y => decide (x ≤ y)) = ss := ⟨_, rfl⟩
  have hp : ss.Perm zs := by rw [← hss]; exact List.mergeSort_perm _ _
  have hs : ss.Pairwise (fun x y => x ≤ y) := by
    have := List.pairwise_mergeSort (le := fun x y : Int => decide (x ≤ y)) (fun a b c h1 h2 => by simp at *; omega) (fun a b => by simp; omega) zs
    rw [hss] at this
    simpa using this
  have hs' : ∀ i j, i ≤ j → j < ss.toArray.size → ss.toArray[i]! ≤ ss.toArray[j]! := by
    intro i j hij hj
    have hj' : j < ss.length := by simpa using hj
    have hi' : i < ss.length := by omega
    simp only [List.getElem!_toArray, getElem!_pos ss i hi', getElem!_pos ss j hj']
    by_cases e : i = j
    · subst e; exact Int.le_refl _
    · exact List.pairwise_iff_getElem.1 hs i j hi' hj' (by omega)
  obtain ⟨h1, h2, h3⟩ := upTo_rises ss.toArray ss.length (by simp) hs'
  unfold sortU
  rw [hss]
  refine ⟨h1, fun x => ?_⟩
  rw [← hp.mem_iff]
  constructor
  · intro hx
    obtain ⟨j, hj, e⟩ := h2 x hx
    rw [← e]
    simp only [List.getElem!_toArray, getElem!_pos ss j hj]
    exact List.getElem_mem hj
  · intro hx
    obtain ⟨j, hj, e⟩ := List.getElem_of_mem hx
    have := h3 j hj
    simp only [List.getElem!_toArray, getElem!_pos ss j hj, e] at this
    exact this
theorem rises_eq : ∀ {l r : List Int}, l.Pairwise (· < ·) → r.Pairwise (· < ·) → (∀ x, x ∈ l ↔ x ∈ r) → l = r
  | [], [], _, _, _ => rfl
  | [], b :: r, _, _, h => absurd ((h b).2 (by simp)) (by simp)
  | a :: l, [], _, _, h => absurd ((h a).1 (by simp)) (by simp)
  | a :: l, b :: r, h1, h2, h => by
    rw [List.pairwise_cons] at h1 h2
    have hab : a = b := by
      have ha := (h a).1 (by simp)
      have hb := (h b).2 (by simp)
      rcases List.mem_cons.1 ha with e | ha
      · exact e
      rcases List.mem_cons.1 hb with e | hb
      · exact e.symm
      have := h2.1 a ha; have := h1.1 b hb; omega
    subst hab
    rw [rises_eq h1.2 h2.2 fun x => ?_]
    constructor
    · intro hx
      rcases List.mem_cons.1 ((h x).1 (by simp [hx])) with e | hx'
      · have := h1.1 x hx; omega
      · exact hx'
    · intro hx
      rcases List.mem_cons.1 ((h x).2 (by simp [hx])) with e | hx'
      · have := h2.1 x hx; omega
      · exact hx'
theorem sortU_twice (zs : List Int) : sortU (zs ++ zs) = sortU zs :=
  rises_eq (sortU_spec _).1 (sortU_spec _).1 fun x => by rw [(sortU_spec _).2, (sortU_spec _).2]; simp

theorem sort_own {base : Nat} {w : World} {v : Value} {zs : List Int} (h : w.ownsRow base 3 1 v zs.length (zs.map (Value.int .i64))) (hl : zs.length ≤ 1000000) :
    Calls Try.prog 115 #[v] w fun e w' => e = .returned (.tuple #[]) ∧ w'.ownsRow base 3 1 v zs.length ((zs.mergeSort fun x y => decide (x ≤ y)).map (Value.int .i64)) ∧ w.grownBy w' v.ownBlock := by
  by_cases hv : v = .slice none 0 0
  · subst hv
    have h0 : zs = [] := by
      rcases h.2 with ⟨_, e⟩ | ⟨_, _, _, e, _⟩
      · exact List.eq_nil_of_length_eq_zero e
      · cases e
    subst h0
    refine (Try.slices_Sort_int_none none 0 w).mono ?_
    rintro e w' ⟨rfl, rfl⟩
    exact ⟨rfl, by simpa using h, ⟨rfl, rfl, rfl, Nat.le_refl _, fun _ _ _ => rfl⟩⟩
  · obtain ⟨g, cap, rfl, hb, hlt, hn, hm, _, hH⟩ := Lib.holds_of_ownsRow h hv
    refine (Try.slices_Sort_int g 0 cap zs w hH hlt (by omega)).mono ?_
    rintro e w' ⟨rfl, n, os, rfl⟩
    refine ⟨rfl, ?_, grownBy_sortedI _⟩
    rcases h.2 with ⟨e, _⟩ | ⟨g', cap', cur, e, _, hg, _, _, hc, _⟩
    · cases e
    · cases e
      exact ownsRow_sortedI (ss := zs) (by simp) hb hg hn hm hc

theorem compact_own {base : Nat} {w : World} {v : Value} {zs : List Int} (h : w.ownsRow base 3 1 v zs.length (zs.map (Value.int .i64))) (hl : zs.length ≤ 1000000) :
    Calls Try.prog 116 #[v] w fun e w' => ∃ v', e = .returned v' ∧ w'.ownsRow base 3 1 v' (Lib.compact zs).length ((Lib.compact zs).map (Value.int .i64)) ∧ w.grownBy w' v.ownBlock := by
  by_cases hv : v = .slice none 0 0
  · subst hv
    have h0 : zs = [] := by
      rcases h.2 with ⟨_, e⟩ | ⟨_, _, _, e, _⟩
      · exact List.eq_nil_of_length_eq_zero e
      · cases e
    subst h0
    refine (Try.slices_Compact_int_empty none 0 w).mono ?_
    rintro e w' ⟨rfl, rfl⟩
    exact ⟨_, rfl, h, ⟨rfl, rfl, rfl, Nat.le_refl _, fun _ _ _ => rfl⟩⟩
  · obtain ⟨g, cap, rfl, hb, hlt, hn, hm, _, hH⟩ := Lib.holds_of_ownsRow h hv
    refine (Try.slices_Compact_int g 0 cap zs w hH (by omega) hn).mono ?_
    rintro e w' ⟨rfl, q, rfl⟩
    have hcl := Lib.compact_length_le zs
    refine ⟨_, rfl, ?_, ?_⟩
    · have := Lib.ownsRow_putRow (q := q) (k := (Lib.compact zs).length) (ys := Lib.compact zs ++ List.replicate (zs.length - (Lib.compact zs).length) 0) h (by simp; omega) hcl
      simpa using this
    · have := grownBy_sortedI (w := w) (g := g) (n := q) (os := #[]) (Lib.compact zs ++ List.replicate (zs.length - (Lib.compact zs).length) 0).toArray
      simpa [Value.ownBlock] using this

theorem own_ints {base : Nat} {w : World} {v : Value} {l : List Int} (h : w.ownsRow base 3 1 v l.length (l.map (Value.int .i64))) : ∃ a c, v = .slice a l.length c ∧ IsSl rpInt (fun q => base ≤ q) w v l := by
  have hA : Acc rpInt 3 base (fun _ => False) w v l := by
    refine ⟨l.map (fun z => [.int .i64 z]), by simp, ?_, fun i hi => ⟨[.int .i64 l[i]], by simp [List.getElem?_eq_getElem hi], rfl⟩⟩
    have : (l.map (fun z => [Value.int .i64 z])).flatten = l.map (Value.int .i64) := by
      clear h
      induction l with
      | nil => rfl
      | cons a l ih => simp only [List.map_cons, List.flatten_cons, ih]; rfl
    rw [this]; exact h
  obtain ⟨a, c, hv⟩ := hA.len_shape
  exact ⟨a, c, hv, hA.sl (fun _ _ h => h.elim) (fun _ h => h)⟩
end Go.Proofs.Ytejpgifofkiofaa

namespace Go.Proofs.Ytejpgifofkiofaa
open Go.RowKit

theorem leaves_marks {F : Fence} {n : Nat} {P : Program} {fn : Func} {tmps : Array Value} {R : Ending → World → Prop} (B : Nat) : ∀ (Ds : List Nat) (w : World), Ds.Nodup → B ≤ w.heap.size → (∀ D ∈ Ds, B ≤ D ∧ w.heap[D]? = some (.deferred (some []))) →
    (∀ w', Keep (fun _ => True) w w' → Below B w w' → LeavesIn F n P fn tmps R [] .returning w') → LeavesInM F n P fn tmps R (Ds.map fun D => { target := .collected D, args := #[] }) .returning w
  | [], w, _, _, _, hk => hk w (Keep.refl _ _) (Below.refl _ _)
  | D :: Ds, w, hd, hB, hD, hk => by
    rw [List.nodup_cons] at hd
    have h1 := hD D (by simp)
    have hlt : D < w.heap.size := (Array.getElem?_eq_some_iff.1 h1.2).1
    refine ⟨by simp, .inl ⟨D, _, rfl, run_takeDeferred h1.2, ?_⟩⟩
    have hbel : Below B w (w.putObj D (.deferred none)) := (Below.refl _ _).grown (grownBy_putObj' w D (.deferred none)) hB (fun r e => by cases e; exact h1.1)
    have hkp : Keep (fun _ => True) w (w.putObj D (.deferred none)) := fun o v k _ hv => cell_kept hv (grownBy_putObj' _ D (.deferred none)) (fun r e => by cases e; exact ⟨_, h1.2, rfl⟩)
    refine leaves_marks B Ds _ hd.2 (by simpa using hB) (fun D' hD' => ⟨(hD D' (by simp [hD'])).1, ?_⟩) fun w' hk' hb' => hk w' (hkp.trans hk') (hbel.trans hb')
    have hne : D' ≠ D := fun e => hd.1 (e ▸ hD')
    exact (World.putObj_heap_other hne).trans (hD D' (by simp [hD'])).2

theorem keepsOthers_grown {W W' : World} {row : Option Nat} (hg : W.grownBy W' row) (hr : ∀ r, row = some r → ∃ o : Obj, W.heap[r]? = some o ∧ o.isCells = true) : KeepsOthers W W' :=
  ⟨hg.size, fun k o ho hc => (hg.block k (Array.getElem?_eq_some_iff.1 ho).1 (fun e => by
    obtain ⟨o', ho', hc'⟩ := hr k e.symm
    rw [ho] at ho'; cases ho'; rw [hc] at hc'; cases hc')).trans ho⟩

theorem own_row {w : World} {base : Nat} {e : TypeId} {size : Nat} {v : Value} {n : Nat} {xs : List Value} (h : w.ownsRow base e size v n xs) : ∀ r, v.ownBlock = some r → base ≤ r ∧ ∃ cs, w.heap[r]? = some (.cells cs e (0, 0)) := by
  intro r hr
  rcases h.2 with ⟨rfl, _⟩ | ⟨g, cap, cur, rfl, hb, hg, _⟩
  · cases hr
  · cases hr; exact ⟨hb, _, hg⟩
theorem own_kept {w w' : World} {base : Nat} {e : TypeId} {size : Nat} {v : Value} {n : Nat} {xs : List Value} {row : Option Nat} (h : w.ownsRow base e size v n xs) (hg : w.grownBy w' row)
    (hr : ∀ r, row = some r → ∃ o : Obj, w.heap[r]? = some o ∧ ∀ cs, o ≠ .cells cs e (0, 0)) : w'.ownsRow base e size v n xs := by
  refine h.kept hg ?_
  cases hv : v.ownBlock with
  | none => exact .inl rfl
  | some g =>
    refine .inr fun e' => ?_
    obtain ⟨_, cs, hc⟩ := own_row h g hv
    obtain ⟨o, ho, hne⟩ := hr g e'.symm
    rw [hc] at ho; cases ho; exact hne cs rfl

structure OutAt (w : World) (Ds : List Nat) (vv : Value) (zs : List Int) (W : World) : Prop where
  box : Blk W w.heap.size #[vv] 105
  own : W.ownsRow (w.heap.size + 1) 3 1 vv zs.length (zs.map (Value.int .i64))
  nod : Ds.Nodup
  marks : ∀ D ∈ Ds, w.heap.size + 1 ≤ D ∧ W.heap[D]? = some (.deferred (some []))
  below : Below w.heap.size w W
def OutG (B k : Nat) (t : TypeId) : Prop := k < B ∨ (B < k ∧ t ≠ 3)
namespace OutAt
variable {w W W' : World} {Ds : List Nat} {vv : Value} {zs : List Int}
theorem lt (h : OutAt w Ds vv zs W) : ∀ D ∈ Ds, D < W.heap.size := fun D hD => (Array.getElem?_eq_some_iff.1 (h.marks D hD).2).1
theorem blw (h : OutAt w Ds vv zs W) (hb : Below W.heap.size W W') : OutAt w Ds vv zs W' :=
  ⟨h.box.below hb, ownsRow_below h.own hb, h.nod, fun D hD => ⟨(h.marks D hD).1, (hb.block D (h.lt D hD)).trans (h.marks D hD).2⟩, h.below.trans (hb.mono h.below.size)⟩
theorem alloc (h : OutAt w Ds vv zs W) (o : Obj) : OutAt w Ds vv zs (W.alloc o) := h.blw ((Below.refl _ _).alloc (Nat.le_refl _) _)
theorem grown {B : Nat} {row : Option Nat} (h : OutAt w Ds vv zs W) (hlt : ∀ D ∈ Ds, D < B) (hwB : w.heap.size < B) (hg : W.grownBy W' row)
    (hr : ∀ r, row = some r → B ≤ r ∧ ∃ o : Obj, W.heap[r]? = some o ∧ ∀ cs, o ≠ .cells cs 3 (0, 0)) : OutAt w Ds vv zs W' :=
  ⟨h.box.grown hg (fun e => by have := (hr _ e).1; omega), own_kept h.own hg (fun r e => (hr r e).2), h.nod,
    fun D hD => ⟨(h.marks D hD).1, (hg.block D (h.lt D hD) (fun e => by have := (hr _ e.symm).1; have := hlt D hD; omega)).trans (h.marks D hD).2⟩,
    h.below.grown hg h.below.size (fun r e => by have := (hr r e).1; omega)⟩
theorem mark (h : OutAt w Ds vv zs W) {D : Nat} (hD : W.heap[D]? = some (.deferred (some []))) (hn : ∀ D' ∈ Ds, D' < D) (hw : w.heap.size + 1 ≤ D) : OutAt w (D :: Ds) vv zs W :=
  ⟨h.box, h.own, List.nodup_cons.2 ⟨fun hm => by have := hn D hm; omega, h.nod⟩, fun D' h' => by
    rcases List.mem_cons.1 h' with rfl | h'
    · exact ⟨hw, hD⟩
    · exact h.marks D' h', h.below⟩
theorem push (h : OutAt w Ds vv zs W) (x : Int) {w3 : World} {v' : Value} (hg : (W.alloc (.cells #[.int .i64 x] 3)).grownBy w3 vv.ownBlock)
    (hown : w3.ownsRow (w.heap.size + 1) 3 1 v' (zs.length + 1) (zs.map (Value.int .i64) ++ [.int .i64 x])) :
    OutAt w Ds v' (zs ++ [x]) (w3.setCell ⟨w.heap.size, 0, none⟩ v') ∧ KeepsOthers W (w3.setCell ⟨w.heap.size, 0, none⟩ v') ∧ KeepC (OutG w.heap.size) W (w3.setCell ⟨w.heap.size, 0, none⟩ v') := by
  have ho1 := h.own.alloc (.cells #[.int .i64 x] 3)
  have h1 := h.alloc (.cells #[.int .i64 x] 3)
  have hrow := own_row ho1
  have hk3 : KeepsOthers (W.alloc (.cells #[.int .i64 x] 3)) w3 := keepsOthers_grown hg (fun r e => by
    obtain ⟨_, cs, hc⟩ := hrow r e; exact ⟨_, hc, rfl⟩)
  have hbox3 : Blk w3 w.heap.size #[vv] 105 := h1.box.grown hg (fun e => by have := (hrow _ e).1; omega)
  have hbel3 : Below w.heap.size w w3 := h1.below.grown hg h1.below.size (fun r e => by have := (hrow r e).1; omega)
  have hkc : KeepC (OutG w.heap.size) (W.alloc (.cells #[.int .i64 x] 3)) w3 := ⟨hg.size, fun k cs t fr hk hc => (hg.block k (Array.getElem?_eq_some_iff.1 hc).1 (fun e => by
    obtain ⟨hle, cs', hc'⟩ := hrow k e.symm
    rw [hc] at hc'; cases hc'
    rcases hk with hk | hk
    · omega
    · exact hk.2 rfl)).trans hc⟩
  refine ⟨⟨hbox3.set 0 _, ?_, h.nod, fun D hD => ⟨(h1.marks D hD).1, ?_⟩, hbel3.setCell (by simp) _⟩, (((KeepsOthers.alloc W _).trans hk3).trans (KeepsOthers.setCell _ _ _)), ?_⟩
  · have := ownsRow_setCell_below hown (a := ⟨w.heap.size, 0, none⟩) (by simp) v'
    simpa using this
  · exact (KeepsOthers.setCell w3 _ v').same D _ (hk3.same D _ (h1.marks D hD).2 rfl) rfl
  · exact (((KeepC.refl _ W).alloc _).trans hkc).setCell _ _ (fun t ht => by rcases ht with h | h <;> simp at h)
theorem push_box (h : OutAt w Ds vv zs W) {x : Int} {w3 : World} (hg : (W.alloc (.cells #[.int .i64 x] 3)).grownBy w3 vv.ownBlock) : Blk w3 w.heap.size #[vv] 105 :=
  (h.alloc (.cells #[.int .i64 x] 3)).box.grown hg (fun e => by have := (own_row (h.own.alloc (.cells #[.int .i64 x] 3)) _ e).1; omega)
theorem turned (h : OutAt w Ds vv zs W) {ys : List Int} {W' : World} (hg : W.grownBy W' vv.ownBlock) {v' : Value} (hown : W'.ownsRow (w.heap.size + 1) 3 1 v' ys.length (ys.map (Value.int .i64))) :
    (Blk W' w.heap.size #[vv] 105 ∧ ∀ D ∈ Ds, w.heap.size + 1 ≤ D ∧ W'.heap[D]? = some (.deferred (some []))) ∧ Below w.heap.size w W' := by
  have hrow := own_row h.own
  refine ⟨⟨h.box.grown hg (fun e => by have := (hrow _ e).1; omega), fun D hD => ⟨(h.marks D hD).1, ?_⟩⟩, h.below.grown hg h.below.size (fun r e => by have := (hrow r e).1; omega)⟩
  refine (hg.block D (h.lt D hD) (fun e => ?_)).trans (h.marks D hD).2
  obtain ⟨_, cs, hc⟩ := hrow D e.symm
  rw [(h.marks D hD).2] at hc; cases hc
theorem sorted (h : OutAt w Ds vv zs W) {ys : List Int} {W' : World} (hg : W.grownBy W' vv.ownBlock) (hown : W'.ownsRow (w.heap.size + 1) 3 1 vv ys.length (ys.map (Value.int .i64))) : OutAt w Ds vv ys W' :=
  let q := h.turned hg hown
  ⟨q.1.1, hown, h.nod, q.1.2, q.2⟩
theorem leave (h : OutAt w Ds vv zs W) {ys : List Int} {W' : World} (hg : W.grownBy W' vv.ownBlock) {v' : Value} (hown : W'.ownsRow (w.heap.size + 1) 3 1 v' ys.length (ys.map (Value.int .i64)))
    {F : Fence} {n : Nat} {P : Program} {fn : Func} {tmps : Array Value} (hr : ∀ w3 : World, (results fn tmps).run P w3 = .ok v' w3) :
    LeavesInM F n P fn tmps (FreshInts ys w) (Ds.map fun D => { target := .collected D, args := #[] }) .returning W' := by
  obtain ⟨⟨hb, hm⟩, hbel⟩ := h.turned hg hown
  refine leaves_marks (w.heap.size + 1) Ds W' h.nod (by have := hb.lt; omega) hm (fun w3 hk hb3 => ?_)
  obtain ⟨a, c, hv, hs⟩ := own_ints hown
  subst hv
  exact ⟨_, hr w3, a, c, rfl, (hs.keep (fun k o u _ hu => hk k o u trivial hu)).weaken (by decide) (fun q _ hq => by omega), hbel.trans (hb3.mono (by omega))⟩
end OutAt
end Go.Proofs.Ytejpgifofkiofaa

