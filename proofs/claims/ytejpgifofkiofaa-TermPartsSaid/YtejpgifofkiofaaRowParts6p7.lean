/-
  slices.Grow from nil and slices.Concat of two slices of types. kind.Of, kind.Arrow, kind.Rest: types that are made.
-/
import Derived.Test.YtejpgifofkiofaaRowParts6p3
import Derived.Test.YtejpgifofkiofaaRowParts6p5
import Derived.Test.YtejpgifofkiofaaRowParts6p6
set_option linter.unusedVariables false
set_option linter.unusedSimpArgs false
namespace Go.Proofs.Ytejpgifofkiofaa
open Go.RowKit

def OutSl (F : Nat → Prop) (l : List Ty) (w : World) (e : Ending) (w' : World) : Prop :=
  ∃ a c, e = .returned (.slice a l.length c) ∧ IsSl rpTy (fun k => F k ∨ w.heap.size ≤ k) w' (.slice a l.length c) l ∧ Below w.heap.size w w'

def OutSl2 (F : Nat → Prop) (l : List Ty) (w : World) (e : Ending) (w' : World) : Prop :=
  ∃ a c, e = .returned (.slice a l.length c) ∧ IsSl2 rpTy (fun k => w.heap.size ≤ k) F w' (.slice a l.length c) l ∧ Below w.heap.size w w'

def GrowPost (w : World) (e : Ending) (w' : World) : Prop := ∃ v, e = .returned v ∧ (∀ F, Acc rpTy 40 w.heap.size F w' v []) ∧ Below w.heap.size w w'

set_option maxRecDepth 100000 in
set_option maxHeartbeats 400000 in
theorem grow_any (n : Nat) (m : Int) (w : World) (hnm : m = n) (hn : n ≤ 1000000) :
    Calls Try.prog 122 #[.slice none 0 0, .int .i64 m] w (GrowPost w) := by
  subst hnm
  obtain ⟨i0, hi0, hz0, hz1, hz2⟩ := info_parts infoK
  by_cases h0 : n = 0
  · subst h0
    go_enter Try.func122, Try.ntmps122
    go_wp2_with fail
    go_ret
    exact ⟨_, rfl, fun F => Acc.nil _ _ _ _ _, Below.refl _ _⟩
  · have hr : ∀ ty, (Builtin.append_ #[33, 3] ty #[.slice none 0 0, .int .i64 (n : Int)]).run Try.prog w = _ := fun ty =>
      Lib.run_append_grow_zeros w 33 3 ty 40 i0 (.agg #[.slice none 0 0, .int .i64 0]) .i64 .i64 Try.underlying33 Try.underlying3 hi0 hz0 none 0 0 [] (run_firstCells_none _ _ _ _ _) n (by omega) (by rw [hz1]; decide) (by omega) (by omega) (by rw [hz2]; omega) (by rw [hz2]; exact growslice_fits (by omega) (by omega))
    have hr' : ∃ g, n ≤ g ∧ g ≤ maxLen ∧ ∀ ty, (Builtin.append_ #[33, 3] ty #[.slice none 0 0, .int .i64 (n : Int)]).run Try.prog w = .ok (.slice (some ⟨w.heap.size, 0, none⟩) n g) (w.drew.alloc (.cells (Builtin.zeroCells (#[.slice none 0 0, .int .i64 0]) n ++ Builtin.zeroCells (#[.slice none 0 0, .int .i64 0]) (g - n)) 40)) := by
      refine ⟨grownCap w n 0 40, grownCap_ge _ _ _ _, grownCap_le_maxLen _ _ _ _ (by unfold maxLen; omega), fun ty => ?_⟩
      have := hr ty
      simpa [Value.cells] using this
    obtain ⟨g, hg1, hg2, hg⟩ := hr'
    have hg2' := hg2
    clear hg2
    clear hr
    have hn0 : 0 < (n : Int) := by omega
    have Hg := Lib.hid hg; clear hg
    go_enter Try.func122, Try.ntmps122
    go_wp2_with (at_builtin; refine wpList_append_eq rfl _ _ _ _ _ rfl (Hg.out _) ?_)
    go_ret
    refine ⟨_, rfl, fun F => ⟨[], rfl, ⟨rfl, .inr ⟨w.heap.size, g, _, rfl, Nat.le_refl _, heap_alloc_new w.drew _, Nat.zero_le _, hg2', ?_, rfl⟩⟩, fun i h => absurd h (by simp)⟩, (Below.refl _ _).drew.alloc (Nat.le_refl _) _⟩
    simp [size_zeroCells, rpTy]; omega

theorem isSl_shape {α : Type} {r : Rp α} {F : Nat → Prop} {w : World} {v : Value} {l : List α} (h : IsSl r F w v l) : ∃ a c, v = .slice a l.length c := by
  obtain ⟨a, c, _, _, _, h, _⟩ := h; exact ⟨a, c, h⟩

set_option maxRecDepth 100000 in
set_option maxHeartbeats 1000000 in
theorem concat_any2 {F : Nat → Prop} {w : World} {B : Nat} {a1 a2 : Option Addr} {c1 c2 : Nat} {l1 l2 : List Ty} {tt : TypeId} (hB : Blk w B #[.slice a1 l1.length c1, .slice a2 l2.length c2] tt)
    {G1 G2 : Nat → Prop} (h1 : IsSl2 rpTy G1 F w (.slice a1 l1.length c1) l1) (h2 : IsSl2 rpTy G2 F w (.slice a2 l2.length c2) l2) (hl : l1.length + l2.length ≤ 100000) :
    Calls Try.prog 98 #[.slice (some ⟨B, 0, none⟩) 2 2] w (OutSl2 F (l1 ++ l2) w) := by
  obtain ⟨i0, hi0, hz0, hz1, hz2⟩ := info_parts infoK
  have H1 := Lib.hid (h1.weaken (G' := fun q => q < w.heap.size) (F' := fun q => F q ∧ q < w.heap.size) (by decide) (fun k hk _ => hk) fun k hk hF => ⟨hF, hk⟩); clear h1
  have H2 := Lib.hid (h2.weaken (G' := fun q => q < w.heap.size) (F' := fun q => F q ∧ q < w.heap.size) (by decide) (fun k hk _ => hk) fun k hk hF => ⟨hF, hk⟩); clear h2
  have b0 : w.cell? ⟨B, 0, none⟩ = some (.slice a1 l1.length c1) := hB.cell rfl
  have b1 : w.cell? ⟨B, 1, none⟩ = some (.slice a2 l2.length c2) := hB.cell rfl
  go_enter Try.func98, Try.ntmps98
  go_wp2_with fail
  go_loop [3, 5, 11] (fun x y i => ∃ k : Nat, k ≤ 2 ∧ i = .int .i64 k ∧ x = .int .i64 ((if k = 0 then 0 else if k = 1 then l1.length else l1.length + l2.length : Nat) : Int)) (fun _ _ i => 2 - (intOf i).toNat)
  case atStart => exact ⟨0, by omega, rfl, rfl⟩
  case round =>
    obtain ⟨k, hk, rfl, rfl⟩ := hrel
    obtain rfl | rfl | rfl : k = 0 ∨ k = 1 ∨ k = 2 := by omega
    · have hs : (0 : Int) + (l1.length : Int) ≤ 100000 := by omega
      go_wp2_with fail
      go_round
      case rel => exact ⟨1, by omega, rfl, by simp⟩
      case measure => simp [intOf]
    · have hs : (l1.length : Int) + (l2.length : Int) ≤ 100000 := by omega
      go_wp2_with fail
      go_round
      case rel => exact ⟨2, by omega, rfl, by simp⟩
      case measure => simp [intOf]
    · go_wp2_with fail
      refine (grow_any (l1.length + l2.length) _ w (by omega) (by omega)).mono ?_
      rintro e w1 ⟨v, rfl, hacc, hb1⟩
      have Hacc := Lib.hid hacc; clear hacc
      have hKp : Keep (fun _ => True) w w1 := (Keep.refl _ _).below hb1
      go_wp2_with fail
      go_loopw [6, 8, 27] (fun x _ i wr => ∃ (k : Nat) (v : Value), x = v ∧ k ≤ 2 ∧ i = .int .i64 k ∧ Below w.heap.size w wr ∧ Acc rpTy 40 w.heap.size (fun q => F q ∧ q < w.heap.size) wr v (if k = 0 then [] else if k = 1 then l1 else l1 ++ l2)) (fun _ _ i _ => 2 - (intOf i).toNat)
      case atStart => exact ⟨0, v, rfl, by omega, rfl, hb1, Hacc.out _⟩
      case round =>
        obtain ⟨k, y, hy, hk, rfl, hb, hacc⟩ := hrel
        subst hy
        have d0 : wr.cell? ⟨B, 0, none⟩ = some (.slice a1 l1.length c1) := (hb.cell (p := ⟨B, 0, none⟩) hB.lt).trans b0
        have d1 : wr.cell? ⟨B, 1, none⟩ = some (.slice a2 l2.length c2) := (hb.cell (p := ⟨B, 1, none⟩) hB.lt).trans b1
        have hsz := hb.size
        have hKr : Keep (fun q => F q ∧ q < w.heap.size) w wr := fun q o v hq hv => (hb.cell (p := ⟨q, o, none⟩) hq.2).trans hv
        have hFa : ∀ {v : Value} {l : List Ty}, Acc rpTy 40 w.heap.size (fun q => F q ∧ q < w.heap.size) wr v l → ∀ q, (F q ∧ q < w.heap.size) → ((F q ∧ q < w.heap.size) ∧ v.ownBlock ≠ some q) :=
          fun h q hq => ⟨hq, fun e => by have := (h.base_le q e).1; omega⟩
        have G1 := Lib.hid ((H1.out.bel hb))
        have G2 := Lib.hid ((H2.out.bel hb))
        obtain rfl | rfl | rfl : k = 0 ∨ k = 1 ∨ k = 2 := by omega
        · have Ha := Lib.hid hacc; clear hacc
          go_wp2_with (at_builtin; refine wpList_push_sl rpTy (by decide) rfl _ _ _ rfl w.heap.size 40 i0 _ 32 Try.underlying33 hi0 hz0 hz1 hz2 rfl (by decide) (fun q => F q ∧ q < w.heap.size) u6 [] rfl Ha.out _ l1 rfl (G1.out.weaken (by decide) (fun _ _ h => h) fun q _ hq => hFa Ha.out q hq) (by simp; omega) hsz ?_; intro v' w2 hacc2 hgrow hat)
          have Hacc2 := Lib.hid hacc2; clear hacc2
          go_roundw
          case rel => exact ⟨1, _, rfl, by omega, rfl, hb.grown hgrow hsz (fun q hq => (Ha.out.base_le q hq).1), by simpa using Hacc2.out⟩
          case measure => simp [intOf]
        · have Ha := Lib.hid hacc; clear hacc
          go_wp2_with (at_builtin; refine wpList_push_sl rpTy (by decide) rfl _ _ _ rfl w.heap.size 40 i0 _ 32 Try.underlying33 hi0 hz0 hz1 hz2 rfl (by decide) (fun q => F q ∧ q < w.heap.size) u6 l1 rfl (by simpa using Ha.out) _ l2 rfl (G2.out.weaken (by decide) (fun _ _ h => h) fun q _ hq => hFa Ha.out q hq) (by omega) hsz ?_; intro v' w2 hacc2 hgrow hat)
          have Hacc2 := Lib.hid hacc2; clear hacc2
          go_roundw
          case rel => exact ⟨2, _, rfl, by omega, rfl, hb.grown hgrow hsz (fun q hq => (Ha.out.base_le q hq).1), by simpa using Hacc2.out⟩
          case measure => simp [intOf]
        · have Ha := Lib.hid hacc; clear hacc
          go_wp2_with fail
          go_ret
          have h0 : Acc rpTy 40 w.heap.size (fun q => F q ∧ q < w.heap.size) wr u6 (l1 ++ l2) := by simpa using Ha.out
          obtain ⟨a, c, hv⟩ := h0.len_shape
          refine ⟨a, c, ?_, ?_, hb⟩
          · rw [← hv]; rfl
          · rw [← hv]; exact h0.sl2.weaken (by decide) (fun _ _ h => h) (fun _ _ h => h.1)
theorem concat_any {F : Nat → Prop} {w : World} {B : Nat} {a1 a2 : Option Addr} {c1 c2 : Nat} {l1 l2 : List Ty} {tt : TypeId} (hB : Blk w B #[.slice a1 l1.length c1, .slice a2 l2.length c2] tt)
    (h1 : IsSl rpTy F w (.slice a1 l1.length c1) l1) (h2 : IsSl rpTy F w (.slice a2 l2.length c2) l2) (hl : l1.length + l2.length ≤ 100000) :
    Calls Try.prog 98 #[.slice (some ⟨B, 0, none⟩) 2 2] w (OutSl F (l1 ++ l2) w) :=
  (concat_any2 hB (.of h1) (.of h2) hl).mono fun _ _ ⟨a, c, h, hs, hb⟩ => ⟨a, c, h, hs.sl (by decide) (fun _ _ h => .inr h) (fun _ _ h => .inl h), hb⟩
end Go.Proofs.Ytejpgifofkiofaa

namespace Go.Proofs.Ytejpgifofkiofaa
open Go.RowKit

theorem size_mk_le {l : List Ty} {b : Int} {n : Nat} (h : Ty.sizes l + 1 ≤ n) : (Ty.mk l b).size ≤ n := by rw [Ty.size_eq]; exact h

set_option maxHeartbeats 400000 in
theorem of_k {F : Nat → Prop} {w : World} {v : Value} {l : List Ty} (b : Int) (h : IsSl rpTy F w v l) (hl : Ty.sizes l + 1 ≤ 100000) :
    Calls Try.prog 45 #[.int .i64 b, v] w (FreshTy (.mk l b) w) := by
  have Ht := Lib.hid (isTy_mk h b)
  obtain ⟨a, c, rfl⟩ := isSl_shape h
  clear h
  go_enter Try.func45, Try.ntmps45
  go_wp2_with fail
  refine (copied_k Ht.out _ (size_mk_le hl) ((Keep.refl _ _).alloc _)).mono ?_
  rintro e w1 ⟨s', b', rfl, hr1, hb1⟩
  obtain ⟨a', c', rfl, rfl⟩ := hr1.shape
  have hx := (Blk.new w #[.slice none 0 0, .int .i64 0] 40 rfl).below hb1
  have r0 : w1.cell? ⟨w.heap.size, 0, none⟩ = some (.slice none 0 0) := hx.cell rfl
  have r1 : w1.cell? ⟨w.heap.size, 1, none⟩ = some (.int .i64 0) := hx.cell rfl
  have f0 := hx.free 0
  have f1 := hx.free 1
  go_wp2_with fail
  refine bodyPost_ret (v := .agg #[.slice a' l.length c', .int .i64 b]) (by simp [results, Try.results45, go_sem, r0, r1, Ty.args, Ty.base]) rfl ?_
  have hn : ¬ (w.heap.size + 1 ≤ w.heap.size) := by omega
  refine ⟨_, _, rfl, ((hr1.weaken fun q _ hq => ?_).keep (((Keep.refl _ _).setCell _ _ ?_).setCell _ _ ?_)).weaken (F := fun q => w.heap.size + 1 ≤ q) fun q _ hq => Nat.le_of_succ_le hq, (((((Below.refl _ _).alloc (Nat.le_refl _) _).trans (hb1.mono (by simp))).setCell (by simp) _).setCell (by simp) _)⟩
  · simpa using hq
  · simp
  · simp

set_option maxRecDepth 100000 in
set_option maxHeartbeats 1000000 in
theorem arrow_k {F : Nat → Prop} {w : World} {s b v : Value} {t : Ty} {l : List Ty} (ht : IsTy F w s b t) (h : IsSl rpTy F w v l) (hl : Ty.sizes l + t.size ≤ 100000) :
    Calls Try.prog 46 #[.agg #[s, b], v] w (FreshTy (.mk (l ++ t.args) t.base) w) := by
  obtain ⟨_, hsl⟩ := ht.inv
  obtain ⟨a2, c2, rfl, rfl⟩ := ht.shape
  obtain ⟨a1, c1, rfl⟩ := isSl_shape h
  clear ht
  have H1 := Lib.hid h; clear h
  have H2 := Lib.hid hsl; clear hsl
  have hlen : l.length + t.args.length ≤ 100000 := by
    have := Ty.le_sizes l; have := Ty.le_sizes t.args; cases t; simp [Ty.size, Ty.args] at *; omega
  have Hsz : Hid ((Ty.mk (l ++ t.args) t.base).size ≤ 100000) := by
    show _ ≤ _
    cases t; simp [Ty.size, Ty.args, Ty.sizes_append] at *; omega
  obtain ⟨l2, hl2⟩ : ∃ l2, t.args = l2 := ⟨_, rfl⟩
  obtain ⟨b2, hb2⟩ : ∃ b2, t.base = b2 := ⟨_, rfl⟩
  rw [hl2] at H2 hlen Hsz ⊢
  rw [hb2] at Hsz ⊢
  clear hl2 hb2 hl
  obtain ⟨l3, hl3⟩ : ∃ l3, l ++ l2 = l3 := ⟨_, rfl⟩
  rw [hl3] at Hsz ⊢
  have Hl3 := Lib.hid hl3; clear hl3
  go_enter Try.func46, Try.ntmps46
  go_wp2_with fail
  obtain ⟨wa, hwa⟩ : ∃ wa, (w.alloc (.cells #[.slice a2 l2.length c2, .int .i64 b2] 40)).alloc (.cells #[.slice none 0 0, .int .i64 0] 40) = wa := ⟨_, rfl⟩
  have ba : Below w.heap.size w wa := by rw [← hwa]; exact ((Below.refl _ _).alloc (Nat.le_refl _) _).alloc (by simp) _
  have xa : Blk wa w.heap.size #[.slice a2 l2.length c2, .int .i64 b2] 40 := by rw [← hwa]; exact (Blk.new _ _ _ rfl).alloc _
  have ra : Blk wa (w.heap.size + 1) #[.slice none 0 0, .int .i64 0] 40 := by rw [← hwa]; exact Blk.new _ _ _ (by simp)
  have Ka : Hid (Keep F w wa) := ((Keep.refl _ _).below ba)
  rw [hwa]
  clear hwa
  have hsz := ra.lt
  refine wp_region_noPanic (wp_region_need (S := fun w' => w'.cell? ⟨w.heap.size, 0, none⟩ = some (.slice a2 l2.length c2) ∧ w'.cell? ⟨w.heap.size, 1, none⟩ = some (.int .i64 b2)) (by kernel_rfl) ?_)
  have hS : (wa.drew).cell? ⟨w.heap.size, 0, none⟩ = some (.slice a2 l2.length c2) ∧ (wa.drew).cell? ⟨w.heap.size, 1, none⟩ = some (.int .i64 b2) := ⟨xa.drew.cell rfl, xa.drew.cell rfl⟩
  refine wpN_take (i := 0) (v := ?v1) rfl (by kernel_rfl) (fun _ _ _ h => h) hS (Or.inl ⟨by rfl, ?hy1⟩) ?hr1
  case hy1 => (intro wS hSw; (try dsimp only at hSw); go_simp; (try with_reducible rfl))
  try simp only [Act.put, List.setIfInBounds_toArray, List.set_cons_zero, List.set_cons_succ]
  refine wpN_take (i := 1) (v := ?v2) rfl (by kernel_rfl) (fun _ _ _ h => h) hS (Or.inl ⟨by rfl, ?hy2⟩) ?hr2
  case hy2 => (intro wS hSw; (try dsimp only at hSw); go_simp; (try with_reducible rfl))
  try simp only [Act.put, List.setIfInBounds_toArray, List.set_cons_zero, List.set_cons_succ]
  refine wpN_take (i := 2) (v := ?v3) rfl (by kernel_rfl) (fun _ _ _ h => h) hS (Or.inl ⟨by rfl, ?hy3⟩) ?hr3
  case hy3 => (intro wS hSw; (try dsimp only at hSw); go_simp; (try with_reducible rfl))
  try simp only [Act.put, List.setIfInBounds_toArray, List.set_cons_zero, List.set_cons_succ]
  refine wpN_take (i := 5) (v := ?v4) rfl (by kernel_rfl) (fun _ _ _ h => h) hS (Or.inl ⟨by rfl, ?hy4⟩) ?hr4
  case hy4 => (intro wS hSw; (try dsimp only at hSw); go_simp; (try with_reducible rfl))
  try simp only [Act.put, List.setIfInBounds_toArray, List.set_cons_zero, List.set_cons_succ]
  refine wpN_take (i := 6) (v := ?v5) rfl (by kernel_rfl) (fun _ _ _ h => h) hS (Or.inl ⟨by rfl, ?hy5⟩) ?hr5
  case hy5 => (intro wS hSw; (try dsimp only at hSw); go_simp; (try with_reducible rfl))
  try simp only [Act.put, List.setIfInBounds_toArray, List.set_cons_zero, List.set_cons_succ]
  refine wpN_step (i := 3) (by kernel_rfl) rfl (fun K hK => ?_)
  go_simp
  have bb : Below w.heap.size w (wa.alloc (.cells #[.slice a1 l.length c1, .slice a2 l2.length c2] 33)).drew := (ba.alloc (by omega) _).drew
  have xb : Blk (wa.alloc (.cells #[.slice a1 l.length c1, .slice a2 l2.length c2] 33)).drew w.heap.size #[.slice a2 l2.length c2, .int .i64 b2] 40 := (xa.alloc _).drew
  have rb : Blk (wa.alloc (.cells #[.slice a1 l.length c1, .slice a2 l2.length c2] 33)).drew (w.heap.size + 1) #[.slice none 0 0, .int .i64 0] 40 := (ra.alloc _).drew
  have vb : Blk (wa.alloc (.cells #[.slice a1 l.length c1, .slice a2 l2.length c2] 33)).drew wa.heap.size #[.slice a1 l.length c1, .slice a2 l2.length c2] 33 := (Blk.new _ _ _ rfl).drew
  have Kb : Hid (Keep F w (wa.alloc (.cells #[.slice a1 l.length c1, .slice a2 l2.length c2] 33)).drew) := (Ka.out.alloc _).drew
  have hS : ((wa.alloc (.cells #[.slice a1 l.length c1, .slice a2 l2.length c2] 33)).drew).cell? ⟨w.heap.size, 0, none⟩ = some (.slice a2 l2.length c2) ∧ ((wa.alloc (.cells #[.slice a1 l.length c1, .slice a2 l2.length c2] 33)).drew).cell? ⟨w.heap.size, 1, none⟩ = some (.int .i64 b2) := ⟨xb.cell rfl, xb.cell rfl⟩
  refine hK.out _ _ (fun _ => hS) ?_
  clear hK K
  try simp only [Act.put, List.setIfInBounds_toArray, List.set_cons_zero, List.set_cons_succ]
  refine wpN_step (i := 4) (by kernel_rfl) rfl (fun K hK => ?_)
  go_simp
  have hcc := concat_any vb (H1.out.keep Kb.out) (H2.out.keep Kb.out) hlen
  rw [Hl3.out] at hcc
  refine hcc.mono ?_
  clear hcc
  rintro e w1 ⟨a3, c3, rfl, hs3, hb1⟩
  have H3 := Lib.hid hs3; clear hs3
  have b1 := bb.trans (hb1.mono bb.size)
  have x1 := xb.below hb1
  have r1' := rb.below hb1
  have hS : (w1).cell? ⟨w.heap.size, 0, none⟩ = some (.slice a2 l2.length c2) ∧ (w1).cell? ⟨w.heap.size, 1, none⟩ = some (.int .i64 b2) := ⟨x1.cell rfl, x1.cell rfl⟩
  refine hK.out _ _ (fun _ => hS) ?_
  clear hK K
  try simp only [Act.put, List.setIfInBounds_toArray, List.set_cons_zero, List.set_cons_succ]
  refine wpN_take (i := 7) (v := ?v6) rfl (by kernel_rfl) (fun _ _ _ h => h) hS (Or.inl ⟨by rfl, ?hy6⟩) ?hr6
  case hy6 => (intro wS hSw; (try dsimp only at hSw); go_simp; (try with_reducible rfl))
  try simp only [Act.put, List.setIfInBounds_toArray, List.set_cons_zero, List.set_cons_succ]
  refine wpN_step (i := 8) (by kernel_rfl) rfl (fun K hK => ?_)
  go_simp
  refine (copied_k (isTy_mk H3.out b2) _ Hsz.out (Keep.refl _ _)).mono ?_
  rintro e w2 ⟨s', b', rfl, hr2, hb2⟩
  obtain ⟨a', c', rfl, rfl⟩ := hr2.shape
  have Hr2 := Lib.hid hr2; clear hr2
  have x2 := x1.below hb2
  have hx := r1'.below hb2
  have hS : (w2).cell? ⟨w.heap.size, 0, none⟩ = some (.slice a2 l2.length c2) ∧ (w2).cell? ⟨w.heap.size, 1, none⟩ = some (.int .i64 b2) := ⟨x2.cell rfl, x2.cell rfl⟩
  have r0 : w2.cell? ⟨w.heap.size + 1, 0, none⟩ = some (.slice none 0 0) := hx.cell rfl
  have r1 : w2.cell? ⟨w.heap.size + 1, 1, none⟩ = some (.int .i64 0) := hx.cell rfl
  have f0 := hx.free 0
  have f1 := hx.free 1
  refine hK.out _ _ (fun _ => hS) ?_
  clear hK K
  try simp only [Act.put, List.setIfInBounds_toArray, List.set_cons_zero, List.set_cons_succ]
  refine wpN_step (i := 9) (by kernel_rfl) rfl (fun K hK => ?_)
  go_simp
  refine hK.out _ _ (fun h => absurd h (by decide)) ?_
  clear hK K
  try simp only [Act.put, List.setIfInBounds_toArray, List.set_cons_zero, List.set_cons_succ]
  refine wpN_done (by kernel_rfl) ?_
  refine NoPanic.normal ?_
  go_wp2_with fail
  refine bodyPost_ret (v := .agg #[.slice a' l3.length c', .int .i64 b2]) (by simp [results, Try.results46, go_sem, r0, r1, Ty.args, Ty.base]) rfl ?_
  have hle := b1.size
  have hlt : w.heap.size + 1 < w1.heap.size := r1'.lt
  refine ⟨_, _, rfl, (((Hr2.out.keep ((Keep.refl _ _).setCell ⟨w.heap.size + 1, 0, none⟩ _ ?_)).keep ((Keep.refl _ _).setCell ⟨w.heap.size + 1, 1, none⟩ _ ?_)).weaken fun q _ hq => Nat.le_trans hle hq), (((b1.trans (hb2.mono hle)).setCell (by simp) _).setCell (by simp) _)⟩
  · simp; omega
  · simp; omega
end Go.Proofs.Ytejpgifofkiofaa

