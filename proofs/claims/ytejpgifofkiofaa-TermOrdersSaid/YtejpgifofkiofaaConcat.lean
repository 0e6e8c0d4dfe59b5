/-
  slices.Grow from nil and slices.Concat of two slices of types.
-/
import Derived.Test.YtejpgifofkiofaaRefSame
import Derived.Test.YtejpgifofkiofaaTo
namespace Go.Proofs.Ytejpgifofkiofaa
open Go.RowKit

/-- a slice of types that may share what came in -/
def OutSl (F : Nat → Prop) (l : List Ty) (w : World) (e : Ending) (w' : World) : Prop :=
  ∃ a c, e = .returned (.slice a l.length c) ∧ IsSl rpTy (fun k => F k ∨ w.heap.size ≤ k) w' (.slice a l.length c) l ∧ Below w.heap.size w w'

/-- a slice of types of its own row; its elements lie where they lay -/
def OutSl2 (F : Nat → Prop) (l : List Ty) (w : World) (e : Ending) (w' : World) : Prop :=
  ∃ a c, e = .returned (.slice a l.length c) ∧ IsSl2 rpTy (fun k => w.heap.size ≤ k) F w' (.slice a l.length c) l ∧ Below w.heap.size w w'

def GrowPost (w : World) (e : Ending) (w' : World) : Prop := ∃ v, e = .returned v ∧ (∀ F, Acc rpTy 40 w.heap.size F w' v []) ∧ Below w.heap.size w w'

set_option maxRecDepth 100000 in
set_option maxHeartbeats 400000 in
theorem grow_any (n : Nat) (m : Int) (w : World) (hnm : m = n) (hn : n ≤ 1000000) :
    Calls Try.prog 122 #[.slice none 0 0, .int .i64 m] w (GrowPost w) := by
  subst hnm
  obtain ⟨i0, hi0, hz0, hz1, hz2⟩ := info_parts infoK
  by_cases h0 : n = 0
  · subst h0
    go_enter Try.func122, Try.ntmps122
    go_wp2_with fail
    go_ret
    exact ⟨_, rfl, fun F => Acc.nil _ _ _ _ _, Below.refl _ _⟩
  · have hr : ∀ ty, (Builtin.append_ #[33, 3] ty #[.slice none 0 0, .int .i64 (n : Int)]).run Try.prog w = _ := fun ty =>
      Lib.run_append_grow_zeros w 33 3 ty 40 i0 (.agg #[.slice none 0 0, .int .i64 0]) .i64 .i64 Try.underlying33 Try.underlying3 hi0 hz0 none 0 0 [] (run_firstCells_none _ _ _ _ _) n (by omega) (by rw [hz1]; decide) (by omega) (by omega) (by rw [hz2]; omega) (by rw [hz2]; exact growslice_fits (by omega) (by omega))
    have hr' : ∃ g, n ≤ g ∧ g ≤ maxLen ∧ ∀ ty, (Builtin.append_ #[33, 3] ty #[.slice none 0 0, .int .i64 (n : Int)]).run Try.prog w = .ok (.slice (some ⟨w.heap.size, 0, none⟩) n g) (w.drew.alloc (.cells (Builtin.zeroCells (#[.slice none 0 0, .int .i64 0]) n ++ Builtin.zeroCells (#[.slice none 0 0, .int .i64 0]) (g - n)) 40)) := by
      refine ⟨grownCap w n 0 40, grownCap_ge _ _ _ _, grownCap_le_maxLen _ _ _ _ (by unfold maxLen; omega), fun ty => ?_⟩
      have := hr ty
      simpa [Value.cells] using this
    obtain ⟨g, hg1, hg2, hg⟩ := hr'
    have hg2' := hg2
    clear hg2
    clear hr
    have hn0 : 0 < (n : Int) := by omega
    have Hg := Lib.hid hg; clear hg
    go_enter Try.func122, Try.ntmps122
    go_wp2_with (at_builtin; refine wpList_append_eq rfl _ _ _ _ _ rfl (Hg.out _) ?_)
    go_ret
    refine ⟨_, rfl, fun F => ⟨[], rfl, ⟨rfl, .inr ⟨w.heap.size, g, _, rfl, Nat.le_refl _, heap_alloc_new w.drew _, Nat.zero_le _, hg2', ?_, rfl⟩⟩, fun i h => absurd h (by simp)⟩, (Below.refl _ _).drew.alloc (Nat.le_refl _) _⟩
    simp [size_zeroCells, rpTy]; omega

theorem isSl_shape {α : Type} {r : Rp α} {F : Nat → Prop} {w : World} {v : Value} {l : List α} (h : IsSl r F w v l) : ∃ a c, v = .slice a l.length c := by
  obtain ⟨a, c, _, _, _, h, _⟩ := h; exact ⟨a, c, h⟩

set_option maxRecDepth 100000 in
set_option maxHeartbeats 1000000 in
theorem concat_any2 {F : Nat → Prop} {w : World} {B : Nat} {a1 a2 : Option Addr} {c1 c2 : Nat} {l1 l2 : List Ty} {tt : TypeId} (hB : Blk w B #[.slice a1 l1.length c1, .slice a2 l2.length c2] tt)
    {G1 G2 : Nat → Prop} (h1 : IsSl2 rpTy G1 F w (.slice a1 l1.length c1) l1) (h2 : IsSl2 rpTy G2 F w (.slice a2 l2.length c2) l2) (hl : l1.length + l2.length ≤ 100000) :
    Calls Try.prog 98 #[.slice (some ⟨B, 0, none⟩) 2 2] w (OutSl2 F (l1 ++ l2) w) := by
  obtain ⟨i0, hi0, hz0, hz1, hz2⟩ := info_parts infoK
  have H1 := Lib.hid (h1.weaken (G' := fun q => q < w.heap.size) (F' := fun q => F q ∧ q < w.heap.size) (by decide) (fun k hk _ => hk) fun k hk hF => ⟨hF, hk⟩); clear h1
  have H2 := Lib.hid (h2.weaken (G' := fun q => q < w.heap.size) (F' := fun q => F q ∧ q < w.heap.size) (by decide) (fun k hk _ => hk) fun k hk hF => ⟨hF, hk⟩); clear h2
  have b0 : w.cell? ⟨B, 0, none⟩ = some (.slice a1 l1.length c1) := hB.cell rfl
  have b1 : w.cell? ⟨B, 1, none⟩ = some (.slice a2 l2.length c2) := hB.cell rfl
  go_enter Try.func98, Try.ntmps98
  go_wp2_with fail
  go_loop [3, 5, 11] (fun x y i => ∃ k : Nat, k ≤ 2 ∧ i = .int .i64 k ∧ x = .int .i64 ((if k = 0 then 0 else if k = 1 then l1.length else l1.length + l2.length : Nat) : Int)) (fun _ _ i => 2 - (intOf i).toNat)
  case atStart => exact ⟨0, by omega, rfl, rfl⟩
  case round =>
    obtain ⟨k, hk, rfl, rfl⟩ := hrel
    obtain rfl | rfl | rfl : k = 0 ∨ k = 1 ∨ k = 2 := by omega
    · have hs : (0 : Int) + (l1.length : Int) ≤ 100000 := by omega
      go_wp2_with fail
      go_round
      case rel => exact ⟨1, by omega, rfl, by simp⟩
      case measure => simp [intOf]
    · have hs : (l1.length : Int) + (l2.length : Int) ≤ 100000 := by omega
      go_wp2_with fail
      go_round
      case rel => exact ⟨2, by omega, rfl, by simp⟩
      case measure => simp [intOf]
    · go_wp2_with fail
      refine (grow_any (l1.length + l2.length) _ w (by omega) (by omega)).mono ?_
      rintro e w1 ⟨v, rfl, hacc, hb1⟩
      have Hacc := Lib.hid hacc; clear hacc
      have hKp : Keep (fun _ => True) w w1 := (Keep.refl _ _).below hb1
      go_wp2_with fail
      go_loopw [6, 8, 27] (fun x _ i wr => ∃ (k : Nat) (v : Value), x = v ∧ k ≤ 2 ∧ i = .int .i64 k ∧ Below w.heap.size w wr ∧ Acc rpTy 40 w.heap.size (fun q => F q ∧ q < w.heap.size) wr v (if k = 0 then [] else if k = 1 then l1 else l1 ++ l2)) (fun _ _ i _ => 2 - (intOf i).toNat)
      case atStart => exact ⟨0, v, rfl, by omega, rfl, hb1, Hacc.out _⟩
      case round =>
        obtain ⟨k, y, hy, hk, rfl, hb, hacc⟩ := hrel
        subst hy
        have d0 : wr.cell? ⟨B, 0, none⟩ = some (.slice a1 l1.length c1) := (hb.cell (p := ⟨B, 0, none⟩) hB.lt).trans b0
        have d1 : wr.cell? ⟨B, 1, none⟩ = some (.slice a2 l2.length c2) := (hb.cell (p := ⟨B, 1, none⟩) hB.lt).trans b1
        have hsz := hb.size
        have hKr : Keep (fun q => F q ∧ q < w.heap.size) w wr := fun q o v hq hv => (hb.cell (p := ⟨q, o, none⟩) hq.2).trans hv
        have hFa : ∀ {v : Value} {l : List Ty}, Acc rpTy 40 w.heap.size (fun q => F q ∧ q < w.heap.size) wr v l → ∀ q, (F q ∧ q < w.heap.size) → ((F q ∧ q < w.heap.size) ∧ v.ownBlock ≠ some q) :=
          fun h q hq => ⟨hq, fun e => by have := (h.base_le q e).1; omega⟩
        have G1 := Lib.hid ((H1.out.bel hb))
        have G2 := Lib.hid ((H2.out.bel hb))
        obtain rfl | rfl | rfl : k = 0 ∨ k = 1 ∨ k = 2 := by omega
        · have Ha := Lib.hid hacc; clear hacc
          go_wp2_with (at_builtin; refine wpList_push_sl rpTy (by decide) rfl _ _ _ rfl w.heap.size 40 i0 _ 32 Try.underlying33 hi0 hz0 hz1 hz2 rfl (by decide) (fun q => F q ∧ q < w.heap.size) u6 [] rfl Ha.out _ l1 rfl (G1.out.weaken (by decide) (fun _ _ h => h) fun q _ hq => hFa Ha.out q hq) (by simp; omega) hsz ?_; intro v' w2 hacc2 hgrow hat)
          have Hacc2 := Lib.hid hacc2; clear hacc2
          go_roundw
          case rel => exact ⟨1, _, rfl, by omega, rfl, hb.grown hgrow hsz (fun q hq => (Ha.out.base_le q hq).1), by simpa using Hacc2.out⟩
          case measure => simp [intOf]
        · have Ha := Lib.hid hacc; clear hacc
          go_wp2_with (at_builtin; refine wpList_push_sl rpTy (by decide) rfl _ _ _ rfl w.heap.size 40 i0 _ 32 Try.underlying33 hi0 hz0 hz1 hz2 rfl (by decide) (fun q => F q ∧ q < w.heap.size) u6 l1 rfl (by simpa using Ha.out) _ l2 rfl (G2.out.weaken (by decide) (fun _ _ h => h) fun q _ hq => hFa Ha.out q hq) (by omega) hsz ?_; intro v' w2 hacc2 hgrow hat)
          have Hacc2 := Lib.hid hacc2; clear hacc2
          go_roundw
          case rel => exact ⟨2, _, rfl, by omega, rfl, hb.grown hgrow hsz (fun q hq => (Ha.out.base_le q hq).1), by simpa using Hacc2.out⟩
          case measure => simp [intOf]
        · have Ha := Lib.hid hacc; clear hacc
          go_wp2_with fail
          go_ret
          have h0 : Acc rpTy 40 w.heap.size (fun q => F q ∧ q < w.heap.size) wr u6 (l1 ++ l2) := by simpa using Ha.out
          obtain ⟨a, c, hv⟩ := h0.len_shape
          refine ⟨a, c, ?_, ?_, hb⟩
          · rw [← hv]; rfl
          · rw [← hv]; exact h0.sl2.weaken (by decide) (fun _ _ h => h) (fun _ _ h => h.1)
theorem concat_any {F : Nat → Prop} {w : World} {B : Nat} {a1 a2 : Option Addr} {c1 c2 : Nat} {l1 l2 : List Ty} {tt : TypeId} (hB : Blk w B #[.slice a1 l1.length c1, .slice a2 l2.length c2] tt)
    (h1 : IsSl rpTy F w (.slice a1 l1.length c1) l1) (h2 : IsSl rpTy F w (.slice a2 l2.length c2) l2) (hl : l1.length + l2.length ≤ 100000) :
    Calls Try.prog 98 #[.slice (some ⟨B, 0, none⟩) 2 2] w (OutSl F (l1 ++ l2) w) :=
  (concat_any2 hB (.of h1) (.of h2) hl).mono fun _ _ ⟨a, c, h, hs, hb⟩ => ⟨a, c, h, hs.sl (by decide) (fun _ _ h => .inr h) (fun _ _ h => .inl h), hb⟩
end Go.Proofs.Ytejpgifofkiofaa
