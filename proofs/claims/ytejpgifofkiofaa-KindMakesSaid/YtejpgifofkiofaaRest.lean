/-
  kind.Rest and the document's Rest.
-/
import Derived.Test.YtejpgifofkiofaaRefArrow
namespace Go.Proofs.Ytejpgifofkiofaa
open Go.RowKit

theorem IsSl.drop {α : Type} {r : Rp α} {F : Nat → Prop} {w : World} {a : Option Addr} {n c : Nat} {l : List α} (h : IsSl r F w (.slice a n c) l) (k : Nat) (hk : k ≤ n) :
    IsSl r F w (.slice (if c = k then a else a.map fun x => x.add (k * r.n)) (n - k) (c - k)) (l.drop k) := by
  obtain ⟨a', c', bl, off, X, hv, hl, ha, h1, h2⟩ := h
  simp only [Value.slice.injEq] at hv
  obtain ⟨rfl, rfl, rfl⟩ := hv
  have hk' : (l.drop k).length = l.length - k := by simp
  refine ⟨_, c - k, bl, off + k * r.n, fun i => X (k + i), by rw [hk'], by omega, fun h => ⟨?_, (ha (by omega)).2⟩, fun i j u hi hu => ?_, fun i hi => ?_⟩
  · rw [if_neg (by omega), (ha (by omega)).1]
    simp only [Option.map_some, Option.some.injEq, Addr.add]
    split
    · simp_all
    · rfl
  · have := h1 (k + i) j u (by omega) hu
    rw [← this]
    congr 2
    rw [Nat.add_mul]; omega
  · have := h2 (k + i) (by omega)
    simpa using this

theorem IsSl.le {α : Type} {r : Rp α} {F : Nat → Prop} {w : World} {a : Option Addr} {n c : Nat} {l : List α} (h : IsSl r F w (.slice a n c) l) : n ≤ c := by
  obtain ⟨a', c', bl, off, X, hv, hl, _⟩ := h
  simp only [Value.slice.injEq] at hv
  omega

/-- kind.Rest -/
def RestPost (l : List Ty) (b n : Int) (w : World) (e : Ending) (w' : World) : Prop :=
  Below w.heap.size w w' ∧ ((0 ≤ n ∧ n ≤ l.length ∧ ∃ a c, e = .returned (.tuple #[.agg #[.slice a (l.drop n.toNat).length c, .int .i64 b], .int .i64 0]) ∧ IsTy (fun _ => True) w' (.slice a (l.drop n.toNat).length c) (.int .i64 b) (.mk (l.drop n.toNat) b)) ∨
    ((n < 0 ∨ (l.length : Int) < n) ∧ e = .returned (.tuple #[.agg #[.slice none 0 0, .int .i64 0], .int .i64 1])))

set_option maxRecDepth 100000 in
set_option maxHeartbeats 1000000 in
theorem rest_k {F : Nat → Prop} {w : World} {s b : Value} {t : Ty} (ht : IsTy F w s b t) (n : Int) (hsz : t.size ≤ 100000) :
    Calls Try.prog 47 #[.agg #[s, b], .int .i64 n] w (RestPost t.args t.base n w) := by
  obtain ⟨_, hsl⟩ := ht.inv
  obtain ⟨a, c, rfl, rfl⟩ := ht.shape
  have hlc := hsl.le
  have Hs := Lib.hid hsl; clear hsl ht
  have Hsz := Lib.hid hsz; clear hsz
  obtain ⟨l2, hl2⟩ : ∃ l2, t.args = l2 := ⟨_, rfl⟩
  obtain ⟨b2, hb2⟩ : ∃ b2, t.base = b2 := ⟨_, rfl⟩
  have Hl2 := Lib.hid hl2
  have Hb2 := Lib.hid hb2
  rw [hl2] at Hs hlc ⊢
  rw [hb2]
  clear hl2 hb2
  by_cases hn : 0 ≤ n ∧ n ≤ l2.length
  · have h1 : ¬ n < 0 := by omega
    have h2 : ¬ n > (l2.length : Int) := by omega
    go_enter Try.func47, Try.ntmps47
    go_wp2_with fail
    obtain ⟨wa, hwa⟩ : ∃ wa, (w.alloc (.cells #[.slice a l2.length c, .int .i64 b2] 40)).alloc (.cells #[.slice none 0 0, .int .i64 0] 40) = wa := ⟨_, rfl⟩
    have ba : Below w.heap.size w wa := by rw [← hwa]; exact ((Below.refl _ _).alloc (Nat.le_refl _) _).alloc (by simp) _
    have xa : Blk wa w.heap.size #[.slice a l2.length c, .int .i64 b2] 40 := by rw [← hwa]; exact (Blk.new _ _ _ rfl).alloc _
    have ra : Blk wa (w.heap.size + 1) #[.slice none 0 0, .int .i64 0] 40 := by rw [← hwa]; exact Blk.new _ _ _ (by simp)
    rw [hwa]
    clear hwa
    refine wp_region_noPanic (wp_region_need (S := fun w' => w'.cell? ⟨w.heap.size, 0, none⟩ = some (.slice a l2.length c) ∧ w'.cell? ⟨w.heap.size, 1, none⟩ = some (.int .i64 b2)) (by kernel_rfl) ?_)
    have hS : (wa.drew).cell? ⟨w.heap.size, 0, none⟩ = some (.slice a l2.length c) ∧ (wa.drew).cell? ⟨w.heap.size, 1, none⟩ = some (.int .i64 b2) := ⟨xa.drew.cell rfl, xa.drew.cell rfl⟩
    refine wpN_take (i := 0) (v := ?v1) rfl (by kernel_rfl) (fun _ _ _ h => h) hS (Or.inl ⟨by rfl, ?hy1⟩) ?hr1
    case hy1 => (intro wS hSw; (try dsimp only at hSw); go_simp; (try with_reducible rfl))
    try simp only [Act.put, List.setIfInBounds_toArray, List.set_cons_zero, List.set_cons_succ]
    refine wpN_take (i := 1) (v := ?v2) rfl (by kernel_rfl) (fun _ _ _ h => h) hS (Or.inl ⟨by rfl, ?hy2⟩) ?hr2
    case hy2 => (intro wS hSw; (try dsimp only at hSw); go_simp; (try with_reducible rfl))
    try simp only [Act.put, List.setIfInBounds_toArray, List.set_cons_zero, List.set_cons_succ]
    refine wpN_take (i := 2) (v := ?v3) rfl (by kernel_rfl) (fun _ _ _ h => h) hS (Or.inl ⟨by rfl, ?hy3⟩) ?hr3
    case hy3 => (intro wS hSw; (try dsimp only at hSw); go_simp; (try with_reducible rfl))
    try simp only [Act.put, List.setIfInBounds_toArray, List.set_cons_zero, List.set_cons_succ]
    refine wpN_take (i := 3) (v := ?v4) rfl (by kernel_rfl) (fun _ _ _ h => h) hS (Or.inl ⟨by rfl, ?hy4⟩) ?hr4
    case hy4 => (intro wS hSw; (try dsimp only at hSw); go_simp; (try with_reducible rfl))
    try simp only [Act.put, List.setIfInBounds_toArray, List.set_cons_zero, List.set_cons_succ]
    refine wpN_take (i := 4) (v := ?v5) rfl (by kernel_rfl) (fun _ _ _ h => h) hS (Or.inl ⟨by rfl, ?hy5⟩) ?hr5
    case hy5 => (intro wS hSw; (try dsimp only at hSw); go_simp; (try with_reducible rfl))
    try simp only [Act.put, List.setIfInBounds_toArray, List.set_cons_zero, List.set_cons_succ]
    refine wpN_take (i := 5) (v := ?v6) rfl (by kernel_rfl) (fun _ _ _ h => h) hS (Or.inl ⟨by rfl, ?hy6⟩) ?hr6
    case hy6 => (intro wS hSw; (try dsimp only at hSw); go_simp; (try with_reducible rfl))
    try simp only [Act.put, List.setIfInBounds_toArray, List.set_cons_zero, List.set_cons_succ]
    refine wpN_take (i := 6) (v := ?v7) rfl (by kernel_rfl) (fun _ _ _ h => h) hS (Or.inl ⟨by rfl, ?hy7⟩) ?hr7
    case hy7 => (intro wS hSw; (try dsimp only at hSw); go_simp; (try with_reducible rfl))
    try simp only [Act.put, List.setIfInBounds_toArray, List.set_cons_zero, List.set_cons_succ]
    refine wpN_step (i := 7) (by kernel_rfl) rfl (fun K hK => ?_)
    go_simp
    have hd : IsSl rpTy F wa.drew (.slice (if c = n.toNat then a else Option.map (fun x => x.add (n.toNat * 2)) a) (l2.length - n.toNat) (c - n.toNat)) (l2.drop n.toNat) := (Hs.out.keep ((Keep.refl _ _).below ba.drew)).drop n.toNat (by omega)
    generalize (if c = n.toNat then a else Option.map (fun x => x.add (n.toNat * 2)) a) = av at hd ⊢
    have hdl : (l2.drop n.toNat).length = l2.length - n.toNat := by simp
    have hsz2 : (Ty.mk (l2.drop n.toNat) b2).size ≤ 100000 := by
      have h := Hsz.out
      have : t.size = Ty.sizes t.args + 1 := by cases t; simp [Ty.size, Ty.args]
      rw [Hl2.out] at this
      rw [Ty.size_eq]
      have h3 : Ty.sizes l2 = Ty.sizes (l2.take n.toNat) + Ty.sizes (l2.drop n.toNat) := by rw [← Ty.sizes_append, List.take_append_drop]
      omega
    refine (copied_k (isTy_mk hd b2) _ hsz2 (Keep.refl _ _)).mono ?_
    rintro e w1 ⟨s', b', rfl, hr1, hb1⟩
    obtain ⟨a', c', rfl, rfl⟩ := hr1.shape
    simp only [Ty.args, Ty.base] at hr1 ⊢
    rw [hdl] at hr1 ⊢
    have Hr1 := Lib.hid hr1; clear hr1
    have x1 := xa.drew.below hb1
    have hx := ra.drew.below hb1
    have hra := ra.lt
    have Hd := Lib.hid hdl
    clear hd hdl hsz2
    have hS : (w1).cell? ⟨w.heap.size, 0, none⟩ = some (.slice a l2.length c) ∧ (w1).cell? ⟨w.heap.size, 1, none⟩ = some (.int .i64 b2) := ⟨x1.cell rfl, x1.cell rfl⟩
    have r0 : w1.cell? ⟨w.heap.size + 1, 0, none⟩ = some (.slice none 0 0) := hx.cell rfl
    have r1 : w1.cell? ⟨w.heap.size + 1, 1, none⟩ = some (.int .i64 0) := hx.cell rfl
    have f0 := hx.free 0
    have f1 := hx.free 1
    refine hK.out _ _ (fun _ => hS) ?_
    clear hK K
    try simp only [Act.put, List.setIfInBounds_toArray, List.set_cons_zero, List.set_cons_succ]
    refine wpN_step (i := 8) (by kernel_rfl) rfl (fun K hK => ?_)
    go_simp
    refine hK.out _ _ (fun h => absurd h (by decide)) ?_
    clear hK K
    try simp only [Act.put, List.setIfInBounds_toArray, List.set_cons_zero, List.set_cons_succ]
    refine wpN_step (i := 9) (by kernel_rfl) rfl (fun K hK => ?_)
    go_simp
    refine hK.out _ _ (fun h => absurd h (by decide)) ?_
    clear hK K
    try simp only [Act.put, List.setIfInBounds_toArray, List.set_cons_zero, List.set_cons_succ]
    refine wpN_done (by kernel_rfl) ?_
    refine NoPanic.normal ?_
    go_wp2_with fail
    refine bodyPost_ret (v := .tuple #[.agg #[.slice a' (l2.length - n.toNat) c', .int .i64 b2], .int .i64 0]) (by simp [results, Try.results47, go_sem, r0, r1]) rfl ?_
    have hle : w.heap.size ≤ wa.drew.heap.size := ba.size
    refine ⟨((ba.drew.trans (hb1.mono hle)).setCell (by simp) _).setCell (by simp) _, .inl ⟨hn.1, hn.2, a', c', by rw [Hd.out], ?_⟩⟩
    rw [Hd.out]
    refine ((Hr1.out.keep ((Keep.refl _ _).setCell ⟨w.heap.size + 1, 0, none⟩ _ ?_)).keep ((Keep.refl _ _).setCell ⟨w.heap.size + 1, 1, none⟩ _ ?_)).weaken fun q _ hq => trivial
    · simp; omega
    · simp; omega
  · by_cases h1 : n < 0
    · skip
      go_enter Try.func47, Try.ntmps47
      go_wp2_with fail
      have hx := Blk.new (w.alloc (.cells #[.slice a l2.length c, .int .i64 b2] 40)) #[.slice none 0 0, .int .i64 0] 40 rfl
      have hb : Below w.heap.size w ((w.alloc (.cells #[.slice a l2.length c, .int .i64 b2] 40)).alloc (.cells #[.slice none 0 0, .int .i64 0] 40)) := ((Below.refl _ _).alloc (Nat.le_refl _) _).alloc (by simp) _
      refine bodyPost_ret (v := .tuple #[.agg #[.slice none 0 0, .int .i64 0], .int .i64 1]) (by simp [results, Try.results47, go_sem]) rfl ?_
      exact ⟨by trivial, .inr ⟨by omega, rfl⟩⟩
    · have h2 : n > (l2.length : Int) := by omega
      go_enter Try.func47, Try.ntmps47
      go_wp2_with fail
      have hx := Blk.new (w.alloc (.cells #[.slice a l2.length c, .int .i64 b2] 40)) #[.slice none 0 0, .int .i64 0] 40 rfl
      have hb : Below w.heap.size w ((w.alloc (.cells #[.slice a l2.length c, .int .i64 b2] 40)).alloc (.cells #[.slice none 0 0, .int .i64 0] 40)) := ((Below.refl _ _).alloc (Nat.le_refl _) _).alloc (by simp) _
      refine bodyPost_ret (v := .tuple #[.agg #[.slice none 0 0, .int .i64 0], .int .i64 1]) (by simp [results, Try.results47, go_sem]) rfl ?_
      exact ⟨by trivial, .inr ⟨by omega, rfl⟩⟩

set_option maxRecDepth 100000 in
set_option maxHeartbeats 1000000 in
theorem rest_r {F : Nat → Prop} {w : World} {s b : Value} {t : Ty} (ht : IsTy F w s b t) (n : Int) (hn : 0 ≤ n ∧ n ≤ t.args.length) (hsz : t.size ≤ 100000) :
    Calls Try.prog 48 #[.agg #[s, b], .int .i64 n] w (AnyTy F (.mk (t.args.drop n.toNat) t.base) w) := by
  obtain ⟨_, hsl⟩ := ht.inv
  obtain ⟨a, c, rfl, rfl⟩ := ht.shape
  have hlc := hsl.le
  have Hs := Lib.hid hsl; clear hsl ht
  have hlen : t.args.length ≤ 100000 := by
    have := Ty.le_sizes t.args; cases t; simp [Ty.size, Ty.args] at *; omega
  have Hlen := Lib.hid hlen; clear hlen hsz
  obtain ⟨l2, hl2⟩ : ∃ l2, t.args = l2 := ⟨_, rfl⟩
  obtain ⟨b2, hb2⟩ : ∃ b2, t.base = b2 := ⟨_, rfl⟩
  rw [hl2] at Hs hlc Hlen hn ⊢
  rw [hb2]
  clear hl2 hb2
  have h1 : ¬ n < 0 := by omega
  have h2 : ¬ n > (l2.length : Int) := by omega
  go_enter Try.func48, Try.ntmps48
  go_wp2_with fail
  obtain ⟨wa, hwa⟩ : ∃ wa, (w.alloc (.cells #[.slice a l2.length c, .int .i64 b2] 26)).alloc (.cells #[.slice none 0 0, .int .i64 0] 26) = wa := ⟨_, rfl⟩
  have ba : Below w.heap.size w wa := by rw [← hwa]; exact ((Below.refl _ _).alloc (Nat.le_refl _) _).alloc (by simp) _
  have xa : Blk wa w.heap.size #[.slice a l2.length c, .int .i64 b2] 26 := by rw [← hwa]; exact (Blk.new _ _ _ rfl).alloc _
  have ra : Blk wa (w.heap.size + 1) #[.slice none 0 0, .int .i64 0] 26 := by rw [← hwa]; exact Blk.new _ _ _ (by simp)
  rw [hwa]
  clear hwa
  refine wp_region_noPanic (wp_region_need (S := fun w' => w'.cell? ⟨w.heap.size, 0, none⟩ = some (.slice a l2.length c) ∧ w'.cell? ⟨w.heap.size, 1, none⟩ = some (.int .i64 b2)) (by kernel_rfl) ?_)
  have hS : (wa.drew).cell? ⟨w.heap.size, 0, none⟩ = some (.slice a l2.length c) ∧ (wa.drew).cell? ⟨w.heap.size, 1, none⟩ = some (.int .i64 b2) := ⟨xa.drew.cell rfl, xa.drew.cell rfl⟩
  refine wpN_take (i := 0) (v := ?v8) rfl (by kernel_rfl) (fun _ _ _ h => h) hS (Or.inl ⟨by rfl, ?hy8⟩) ?hr8
  case hy8 => (intro wS hSw; (try dsimp only at hSw); go_simp; (try with_reducible rfl))
  try simp only [Act.put, List.setIfInBounds_toArray, List.set_cons_zero, List.set_cons_succ]
  refine wpN_take (i := 1) (v := ?v9) rfl (by kernel_rfl) (fun _ _ _ h => h) hS (Or.inl ⟨by rfl, ?hy9⟩) ?hr9
  case hy9 => (intro wS hSw; (try dsimp only at hSw); go_simp; (try with_reducible rfl))
  try simp only [Act.put, List.setIfInBounds_toArray, List.set_cons_zero, List.set_cons_succ]
  refine wpN_take (i := 2) (v := ?v10) rfl (by kernel_rfl) (fun _ _ _ h => h) hS (Or.inl ⟨by rfl, ?hy10⟩) ?hr10
  case hy10 => (intro wS hSw; (try dsimp only at hSw); go_simp; (try with_reducible rfl))
  try simp only [Act.put, List.setIfInBounds_toArray, List.set_cons_zero, List.set_cons_succ]
  refine wpN_take (i := 3) (v := ?v11) rfl (by kernel_rfl) (fun _ _ _ h => h) hS (Or.inl ⟨by rfl, ?hy11⟩) ?hr11
  case hy11 => (intro wS hSw; (try dsimp only at hSw); go_simp; (try with_reducible rfl))
  try simp only [Act.put, List.setIfInBounds_toArray, List.set_cons_zero, List.set_cons_succ]
  refine wpN_take (i := 4) (v := ?v12) rfl (by kernel_rfl) (fun _ _ _ h => h) hS (Or.inl ⟨by rfl, ?hy12⟩) ?hr12
  case hy12 => (intro wS hSw; (try dsimp only at hSw); go_simp; (try with_reducible rfl))
  try simp only [Act.put, List.setIfInBounds_toArray, List.set_cons_zero, List.set_cons_succ]
  refine wpN_take (i := 5) (v := ?v13) rfl (by kernel_rfl) (fun _ _ _ h => h) hS (Or.inl ⟨by rfl, ?hy13⟩) ?hr13
  case hy13 => (intro wS hSw; (try dsimp only at hSw); go_simp; (try with_reducible rfl))
  try simp only [Act.put, List.setIfInBounds_toArray, List.set_cons_zero, List.set_cons_succ]
  refine wpN_take (i := 6) (v := ?v14) rfl (by kernel_rfl) (fun _ _ _ h => h) hS (Or.inl ⟨by rfl, ?hy14⟩) ?hr14
  case hy14 => (intro wS hSw; (try dsimp only at hSw); go_simp; (try with_reducible rfl))
  try simp only [Act.put, List.setIfInBounds_toArray, List.set_cons_zero, List.set_cons_succ]
  refine wpN_step (i := 7) (by kernel_rfl) rfl (fun K hK => ?_)
  go_simp
  have hd : IsSl rpTy (fun q => F q ∧ q < w.heap.size) wa.drew (.slice (if c = n.toNat then a else Option.map (fun x => x.add (n.toNat * 2)) a) (l2.length - n.toNat) (c - n.toNat)) (l2.drop n.toNat) := ((Hs.out.weaken (F' := fun q => F q ∧ q < w.heap.size) (by decide) fun q hq hf => ⟨hf, hq⟩).keep ((Keep.refl _ _).below ba.drew)).drop n.toNat (by omega)
  generalize (if c = n.toNat then a else Option.map (fun x => x.add (n.toNat * 2)) a) = av at hd ⊢
  have hdl : (l2.drop n.toNat).length = l2.length - n.toNat := by simp
  refine (arrow_r (t := .mk [] b2) (isTy_mk (isSl_nil rpTy (fun q => F q ∧ q < w.heap.size) wa.drew) b2) hd (by have := Hlen.out; simp [Ty.args]; omega)).mono ?_
  rintro e w1 ⟨a', c', rfl, hr1, hb1⟩
  simp only [Ty.args, Ty.base, List.append_nil] at hr1 ⊢
  rw [hdl] at hr1 ⊢
  have Hr1 := Lib.hid hr1; clear hr1
  have x1 := xa.drew.below hb1
  have hx := ra.drew.below hb1
  have hra := ra.lt
  have Hd := Lib.hid hdl
  clear hd hdl
  have hS : (w1).cell? ⟨w.heap.size, 0, none⟩ = some (.slice a l2.length c) ∧ (w1).cell? ⟨w.heap.size, 1, none⟩ = some (.int .i64 b2) := ⟨x1.cell rfl, x1.cell rfl⟩
  have r0 : w1.cell? ⟨w.heap.size + 1, 0, none⟩ = some (.slice none 0 0) := hx.cell rfl
  have r1 : w1.cell? ⟨w.heap.size + 1, 1, none⟩ = some (.int .i64 0) := hx.cell rfl
  have f0 := hx.free 0
  have f1 := hx.free 1
  refine hK.out _ _ (fun _ => hS) ?_
  clear hK K
  try simp only [Act.put, List.setIfInBounds_toArray, List.set_cons_zero, List.set_cons_succ]
  refine wpN_step (i := 8) (by kernel_rfl) rfl (fun K hK => ?_)
  go_simp
  refine hK.out _ _ (fun h => absurd h (by decide)) ?_
  clear hK K
  try simp only [Act.put, List.setIfInBounds_toArray, List.set_cons_zero, List.set_cons_succ]
  refine wpN_done (by kernel_rfl) ?_
  refine NoPanic.normal ?_
  go_wp2_with fail
  refine bodyPost_ret (v := .agg #[.slice a' (l2.length - n.toNat) c', .int .i64 b2]) (by simp [results, Try.results48, go_sem, r0, r1]) rfl ?_
  have hle : w.heap.size ≤ wa.drew.heap.size := ba.size
  refine ⟨a', c', by simp only [Ty.args, Ty.base, Hd.out], ?_, ((ba.drew.trans (hb1.mono hle)).setCell (by simp) _).setCell (by simp) _⟩
  simp only [Ty.args, Ty.base, Hd.out]
  have hr := ra.drew.lt
  refine ((Hr1.out.keep ((Keep.refl _ _).setCell ⟨w.heap.size + 1, 0, none⟩ _ ?_)).keep ((Keep.refl _ _).setCell ⟨w.heap.size + 1, 1, none⟩ _ ?_)).weaken fun q _ hq => hq.elim (fun h => .inl h.1) (fun h => .inr (Nat.le_trans hle h))
  · show ¬ ((F (w.heap.size + 1) ∧ w.heap.size + 1 < w.heap.size) ∨ wa.drew.heap.size ≤ w.heap.size + 1)
    omega
  · show ¬ ((F (w.heap.size + 1) ∧ w.heap.size + 1 < w.heap.size) ∨ wa.drew.heap.size ≤ w.heap.size + 1)
    omega
end Go.Proofs.Ytejpgifofkiofaa
