/-
  term.Shift: what its closures do.
-/
import Derived.Test.YtejpgifofkiofaaCopy6
import Derived.Laws.EntriesVeiled
namespace Go.Proofs.Ytejpgifofkiofaa
open Go.RowKit

/-- the worse of two faults -/
def noteOf (e c : Int) : Int := if e = 0 ∨ c < e then c else e

theorem shift1_k (w : World) (c e : Int) (pe : Nat) (he : Blk w pe #[.int .i64 e] 52) : Calls Try.prog 91 #[.int .i64 c, .pointer (some ⟨pe, 0, none⟩)] w fun r w' => (∃ v, r = .returned v) ∧ Blk w' pe #[.int .i64 (noteOf e c)] 52 ∧ w.grownBy w' (some pe) := by
  have c0 : w.cell? ⟨pe, 0, none⟩ = some (.int .i64 e) := he.cell rfl
  have f0 := he.free 0
  have hlt := he.lt
  have hset : ∀ v, w.grownBy (w.setCell ⟨pe, 0, none⟩ v) (some pe) := fun v => ⟨rfl, rfl, rfl, by simp, fun k hk hne => Below.heap_setCell _ _ _ _ (fun h => hne (by rw [h]))⟩
  by_cases h0 : e = 0
  · subst h0
    have hn : noteOf 0 c = c := by simp [noteOf]
    have Hs := Lib.hid (hset (.int .i64 c))
    go_enter Try.func91, Try.ntmps91
    go_wp2_with fail
    go_end0
    exact ⟨⟨_, rfl⟩, by rw [hn]; exact he.set 0 _, Hs.out⟩
  · have hg : (e == 0) = false := by simpa using h0
    by_cases h1 : c < e
    · have hn : noteOf e c = c := by simp [noteOf, h1]
      have Hs := Lib.hid (hset (.int .i64 c))
      go_enter Try.func91, Try.ntmps91
      go_wp2_with fail
      go_end0
      exact ⟨⟨_, rfl⟩, by rw [hn]; exact he.set 0 _, Hs.out⟩
    · have hn : noteOf e c = e := by simp [noteOf, h0, h1]
      go_enter Try.func91, Try.ntmps91
      go_wp2_with fail
      go_end0
      exact ⟨⟨_, rfl⟩, by first | exact he | (rw [hn]; exact he), World.grownBy.refl _ _⟩

/-- is an index's turn a fault? -/
def argBad (b f x : Int) : Prop := f ≤ x ∧ b < 0 ∧ (b = -9223372036854775808 ∨ x - f < -b)
def longBad (b f x : Int) : Prop := f ≤ x ∧ ((1000 < b) ∨ (0 ≤ b ∧ 1000 - b < x) ∨ (b < 0 ∧ 1000 < x + b))
instance (b f x : Int) : Decidable (argBad b f x) := by unfold argBad; infer_instance
instance (b f x : Int) : Decidable (longBad b f x) := by unfold longBad; infer_instance
/-- what the closure hands back and remembers -/
def shiftF (b f : Int) (e x : Int) : Int × Int :=
  if x < f then (e, x) else if argBad b f x then (noteOf e 1, 0) else if longBad b f x then (noteOf e 2, 0) else (e, x + b)

/-- the closure's captured cells -/
def ShiftSt (p0 p1 p2 pe : Nat) (b f : Int) (e : Int) (w : World) : Prop :=
  Blk w p0 #[.int .i64 f] 3 ∧ Blk w p1 #[.int .i64 b] 3 ∧ Blk w p2 #[.func (.func 91) #[] #[.pointer (some ⟨pe, 0, none⟩)]] 127 ∧ Blk w pe #[.int .i64 e] 52 ∧ p0 ≠ pe ∧ p1 ≠ pe ∧ p2 ≠ pe

set_option maxRecDepth 100000 in
set_option maxHeartbeats 1000000 in
theorem shift2_k (p0 p1 p2 pe : Nat) (b f : Int) (hb : -9223372036854775808 ≤ b ∧ b ≤ 9223372036854775807) (hf : 0 ≤ f ∧ f ≤ 9223372036854775807) (w : World) (e x : Int) (hst : ShiftSt p0 p1 p2 pe b f e w) (hx0 : 0 ≤ x) (hx1 : x ≤ 9223372036854775807) :
    Calls Try.prog 92 #[.int .i64 x, .pointer (some ⟨p0, 0, none⟩), .pointer (some ⟨p1, 0, none⟩), .pointer (some ⟨p2, 0, none⟩)] w fun r w' => r = .returned (.int .i64 (shiftF b f e x).2) ∧ ShiftSt p0 p1 p2 pe b f (shiftF b f e x).1 w' ∧ w.grownBy w' (some pe) := by
  obtain ⟨x0, x1, x2, xe, d0, d1, d2⟩ := hst
  have c0 : w.cell? ⟨p0, 0, none⟩ = some (.int .i64 f) := x0.cell rfl
  have c1 : w.cell? ⟨p1, 0, none⟩ = some (.int .i64 b) := x1.cell rfl
  have c2 : w.cell? ⟨p2, 0, none⟩ = some (.func (.func 91) #[] #[.pointer (some ⟨pe, 0, none⟩)]) := x2.cell rfl
  have Hnote : Hid (∀ c, Calls Try.prog 91 #[.int .i64 c, .pointer (some ⟨pe, 0, none⟩)] w fun r w' => (∃ v, r = .returned v) ∧ ShiftSt p0 p1 p2 pe b f (noteOf e c) w' ∧ w.grownBy w' (some pe)) := fun c =>
    (shift1_k w c e pe xe).mono fun r w' ⟨h1, h2, h3⟩ => ⟨h1, ⟨x0.grown h3 (by simpa using Ne.symm d0), x1.grown h3 (by simpa using Ne.symm d1), x2.grown h3 (by simpa using Ne.symm d2), h2, d0, d1, d2⟩, h3⟩
  have Hst : Hid (ShiftSt p0 p1 p2 pe b f e w) := ⟨x0, x1, x2, xe, d0, d1, d2⟩
  clear x0 x1 x2 xe d0 d1 d2
  by_cases hlt : x < f
  · have HF := Lib.hid (show shiftF b f e x = (e, x) by simp [shiftF, hlt])
    go_enter Try.func92, Try.ntmps92
    go_wp2_with fail
    go_ret
    rw [HF.out]
    exact ⟨rfl, Hst.out, World.grownBy.refl _ _⟩
  have hq1 : IntKind.i64.wrap (x - f) = x - f := IntWalk.i64_in _ (by omega)
  by_cases hb0 : b < 0
  · have hb0' : ¬ b ≥ 0 := by omega
    by_cases hmin : b = -9223372036854775808
    · have HF : Hid (shiftF b f e x = (noteOf e 1, 0)) := by
        show _ = _
        unfold shiftF
        rw [if_neg hlt, if_pos ⟨by omega, hb0, .inl hmin⟩]
      have hq2 : IntKind.i64.wrap (-b) = b := by rw [hmin]; rfl
      have hq3 : (b == b) = true := by simp
      clear hmin
      go_enter Try.func92, Try.ntmps92
      go_wp2_with fail
      refine (Hnote.out 1).mono ?_
      rintro r w1 ⟨⟨v, rfl⟩, hs1, hg1⟩
      go_wp2_with fail
      go_ret
      rw [HF.out]
      exact ⟨rfl, hs1, hg1⟩
    have hq2 : IntKind.i64.wrap (-b) = -b := IntWalk.i64_in _ (by omega)
    have hq3 : (b == -b) = false := by simpa using (by omega : ¬ b = -b)
    by_cases hd : x - f < -b
    · have HF : Hid (shiftF b f e x = (noteOf e 1, 0)) := by
        show _ = _
        unfold shiftF
        rw [if_neg hlt, if_pos ⟨by omega, hb0, .inr hd⟩]
      go_enter Try.func92, Try.ntmps92
      go_wp2_with fail
      refine (Hnote.out 1).mono ?_
      rintro r w1 ⟨⟨v, rfl⟩, hs1, hg1⟩
      go_wp2_with fail
      go_ret
      rw [HF.out]
      exact ⟨rfl, hs1, hg1⟩
    have hna : ¬ argBad b f x := by rintro ⟨_, _, h | h⟩ <;> omega
    have hg1 : ¬ b > 1000 := by omega
    have hq4 : IntKind.i64.wrap (x + b) = x + b := IntWalk.i64_in _ (by omega)
    by_cases hl : x + b > 1000
    · have HF : Hid (shiftF b f e x = (noteOf e 2, 0)) := by
        show _ = _
        unfold shiftF
        rw [if_neg hlt, if_neg hna, if_pos ⟨by omega, .inr (.inr ⟨hb0, hl⟩)⟩]
      go_enter Try.func92, Try.ntmps92
      go_wp2_with fail
      refine (Hnote.out 2).mono ?_
      rintro r w1 ⟨⟨v, rfl⟩, hs1, hg1⟩
      go_wp2_with fail
      go_ret
      rw [HF.out]
      exact ⟨rfl, hs1, hg1⟩
    have HF : Hid (shiftF b f e x = (e, x + b)) := by
      show _ = _
      unfold shiftF
      rw [if_neg hlt, if_neg hna, if_neg (by rintro ⟨_, h | h | h⟩ <;> omega)]
    go_enter Try.func92, Try.ntmps92
    go_wp2_with fail
    go_ret
    rw [HF.out]
    exact ⟨rfl, Hst.out, World.grownBy.refl _ _⟩
  have hb0' : b ≥ 0 := by omega
  have hna : ¬ argBad b f x := by rintro ⟨_, h, _⟩; omega
  by_cases hg1 : b > 1000
  · have HF : Hid (shiftF b f e x = (noteOf e 2, 0)) := by
      show _ = _
      unfold shiftF
      rw [if_neg hlt, if_neg hna, if_pos ⟨by omega, .inl hg1⟩]
    go_enter Try.func92, Try.ntmps92
    go_wp2_with fail
    refine (Hnote.out 2).mono ?_
    rintro r w1 ⟨⟨v, rfl⟩, hs1, hg1⟩
    go_wp2_with fail
    go_ret
    rw [HF.out]
    exact ⟨rfl, hs1, hg1⟩
  have hq5 : IntKind.i64.wrap (1000 - b) = 1000 - b := IntWalk.i64_in _ (by omega)
  by_cases hl : x > 1000 - b
  · have HF : Hid (shiftF b f e x = (noteOf e 2, 0)) := by
      show _ = _
      unfold shiftF
      rw [if_neg hlt, if_neg hna, if_pos ⟨by omega, .inr (.inl ⟨hb0', hl⟩)⟩]
    go_enter Try.func92, Try.ntmps92
    go_wp2_with fail
    refine (Hnote.out 2).mono ?_
    rintro r w1 ⟨⟨v, rfl⟩, hs1, hg1⟩
    go_wp2_with fail
    go_ret
    rw [HF.out]
    exact ⟨rfl, hs1, hg1⟩
  have hq4 : IntKind.i64.wrap (x + b) = x + b := IntWalk.i64_in _ (by omega)
  have HF : Hid (shiftF b f e x = (e, x + b)) := by
    show _ = _
    unfold shiftF
    rw [if_neg hlt, if_neg hna, if_neg (by rintro ⟨_, h | h | h⟩ <;> omega)]
  go_enter Try.func92, Try.ntmps92
  go_wp2_with fail
  go_ret
  rw [HF.out]
  exact ⟨rfl, Hst.out, World.grownBy.refl _ _⟩
end Go.Proofs.Ytejpgifofkiofaa
