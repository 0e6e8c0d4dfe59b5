/-
  What the members of a gathering yield: a list of standard shapes.
-/
import Derived.Test.YtejpgifofkiofaaGather
import Derived.Test.YtejpgifofkiofaaTo6
import Derived.Test.YtejpgifofkiofaaHead6
namespace Go.Proofs.Ytejpgifofkiofaa
open Go.RowKit

/-- a shape that a yield has, with memory of its own from x to y -/
structure Phi where
  P : Value → Nat → Nat → World → Prop
  up : ∀ {v x y w w'}, P v x y w → Below w.heap.size w w' → P v x y w'
/-- the shape of number j -/
def PhiL (l : List (Nat × Phi)) (j : Nat) (v : Value) (x y : Nat) (w : World) : Prop := ∃ p, l.find? (fun p => p.1 == j) = some p ∧ p.2.P v x y w
theorem phiL_below {l : List (Nat × Phi)} : ∀ j v x y w w', PhiL l j v x y w → Below w.heap.size w w' → PhiL l j v x y w' := fun _ _ _ _ _ _ ⟨p, h1, h2⟩ hb => ⟨p, h1, p.2.up h2 hb⟩
theorem phiL_at {l : List (Nat × Phi)} {j : Nat} {p : Nat × Phi} {v : Value} {x y : Nat} {w : World} (h : l.find? (fun p => p.1 == j) = some p) (hp : PhiL l j v x y w) : p.2.P v x y w := by
  obtain ⟨q, h1, h2⟩ := hp
  rw [h] at h1; cases h1; exact h2
theorem phiL_mk {l : List (Nat × Phi)} {j : Nat} {p : Nat × Phi} {v : Value} {x y : Nat} {w : World} (h : l.find? (fun p => p.1 == j) = some p) (hp : p.2.P v x y w) : PhiL l j v x y w := ⟨p, h, hp⟩
def phiTm (t : Tm) : Phi := ⟨fun v x y w => ∃ b k i a, v = .agg #[b, k, i, a] ∧ IsTm (fun q => x ≤ q ∧ q < y) w b k i a t, fun ⟨b, k, i, a, e, h⟩ hb => ⟨b, k, i, a, e, h.bel hb⟩⟩
def phiBlk (cs : Array Value) (T : TypeId) : Phi := ⟨fun v x y w => v = .pointer (some ⟨x, 0, none⟩) ∧ x < y ∧ Blk w x cs T, fun ⟨e, h1, h2⟩ hb => ⟨e, h1, h2.below hb⟩⟩
def phiTy (t : Ty) : Phi := ⟨fun v x y w => ∃ s b, v = .agg #[s, b] ∧ IsTy (fun q => x ≤ q ∧ q < y) w s b t, fun ⟨s, b, e, h⟩ hb => ⟨s, b, e, h.bel hb⟩⟩
def phiSl {α : Type} (r : Rp α) (l : List α) : Phi := ⟨fun v x y w => ∃ a c, v = .slice a l.length c ∧ IsSl r (fun q => x ≤ q ∧ q < y) w (.slice a l.length c) l, fun ⟨a, c, e, h⟩ hb => ⟨a, c, e, h.keep ((Keep.refl _ _).below hb)⟩⟩
def phiSl2 (r : Rp Ty) (F : Nat → Prop) (l : List Ty) : Phi := ⟨fun v x y w => ∃ a c, v = .slice a l.length c ∧ IsSl2 r (fun q => x ≤ q ∧ q < y) F w (.slice a l.length c) l, fun ⟨a, c, e, h⟩ hb => ⟨a, c, e, h.bel hb⟩⟩
def phiHead (F : Nat → Prop) (o : Option Ty) : Phi := ⟨fun v _ _ w => ∃ s b, v = .tuple #[.agg #[s, b], .bool o.isSome] ∧ IsTy F w s b (o.getD tyZ), fun ⟨s, b, e, h⟩ hb => ⟨s, b, e, h.bel hb⟩⟩
/-- a world of its own -/
def phiWd (b : Int) (C M : List Ty) : Phi := ⟨fun v x y w => ∃ cv mv, v = .agg #[.int .i64 b, cv, mv] ∧ IsSl rpTy (fun q => x ≤ q ∧ q < y) w cv C ∧ IsSl rpTy (fun q => x ≤ q ∧ q < y) w mv M, fun ⟨cv, mv, e, h, h'⟩ hb => ⟨cv, mv, e, h.keep ((Keep.refl _ _).below hb), h'.keep ((Keep.refl _ _).below hb)⟩⟩
def phiV (u : Value) : Phi := ⟨fun v _ _ _ => v = u, fun h _ => h⟩
end Go.Proofs.Ytejpgifofkiofaa
