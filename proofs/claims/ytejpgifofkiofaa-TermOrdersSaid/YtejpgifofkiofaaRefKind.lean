/-
  The reference's size, order and depth of a type, whether its bases are low, whether two types are the same: what each hands back.
-/
import Derived.Test.YtejpgifofkiofaaFew
import Derived.Test.YtejpgifofkiofaaNeed
namespace Go.Proofs.Ytejpgifofkiofaa
open Go.RowKit

def RetI (n : Int) (w : World) (e : Ending) (w' : World) : Prop := e = .returned (.int .i64 n) ∧ Below w.heap.size w w'
def RetB (p : Prop) (w : World) (e : Ending) (w' : World) : Prop := ∃ b : Bool, (b = true ↔ p) ∧ e = .returned (.bool b) ∧ Below w.heap.size w w'

theorem no_of {p : Prop} (h : false = true ↔ p) : ¬ p := fun hp => by simpa using h.2 hp
theorem yes_of {p : Prop} (h : true = true ↔ p) : p := h.1 rfl

namespace Ty
mutual
/-- how high a type's functions are -/
def order : Ty → Nat
  | .mk a _ => orders a
def orders : List Ty → Nat
  | [] => 0
  | t :: l => max (order t + 1) (orders l)
end
theorem orders_append (l r : List Ty) : orders (l ++ r) = max (orders l) (orders r) := by
  induction l with
  | nil => simp [orders]
  | cons t l ih => simp [orders, ih]
theorem orders_take (l : List Ty) (i : Nat) (h : i < l.length) : orders (l.take (i + 1)) = max (orders (l.take i)) (order l[i] + 1) := by
  rw [List.take_succ_eq_append_getElem h, orders_append]; simp [orders]
theorem orders_take_le (l : List Ty) (i : Nat) : orders (l.take i) ≤ orders l := by
  conv => rhs; rw [← List.take_append_drop i l]
  rw [orders_append]; omega
theorem order_le_depth (t : Ty) : t.order < t.depth := by
  induction t using Ty.ind with
  | h args base ih =>
    simp only [order, depth]
    have : ∀ l : List Ty, (∀ t ∈ l, t.order < t.depth) → orders l ≤ depths l := by
      intro l
      induction l with
      | nil => intro _; simp [orders]
      | cons t l ih2 => intro h; have := ih2 (fun t ht => h t (by simp [ht])); have := h t (by simp); simp [orders, depths]; omega
    have := this args ih; omega
theorem depth_le_size (t : Ty) : t.depth ≤ t.size := by
  induction t using Ty.ind with
  | h args base ih =>
    simp only [size, depth]
    have : ∀ l : List Ty, (∀ t ∈ l, t.depth ≤ t.size) → depths l ≤ sizes l := by
      intro l
      induction l with
      | nil => intro _; simp [depths]
      | cons t l ih2 => intro h; have := ih2 (fun t ht => h t (by simp [ht])); have := h t (by simp); simp [sizes, depths]; omega
    have := this args ih; omega
theorem size_eq (l : List Ty) (b : Int) : (mk l b).size = sizes l + 1 := by simp [size]
theorem depth_eq (l : List Ty) (b : Int) : (mk l b).depth = depths l + 1 := by simp [depth]
theorem order_eq (l : List Ty) (b : Int) : (mk l b).order = orders l := by simp [order]

/-- are all bases such? -/
inductive Low (bases : Int) : Ty → Prop where
  | mk (l : List Ty) (b : Int) (h0 : 0 ≤ b) (h1 : b < bases) (h : ∀ t ∈ l, Low bases t) : Low bases (.mk l b)
theorem low_iff {bases : Int} {l : List Ty} {b : Int} : Low bases (.mk l b) ↔ 0 ≤ b ∧ b < bases ∧ ∀ t ∈ l, Low bases t :=
  ⟨fun h => by cases h with | mk _ _ h0 h1 h => exact ⟨h0, h1, h⟩, fun ⟨h0, h1, h⟩ => .mk _ _ h0 h1 h⟩
theorem forall_take_succ {p : Ty → Prop} {l : List Ty} {k : Nat} (hk : k < l.length) (h : ∀ t ∈ l.take k, p t) (h' : p l[k]) : ∀ t ∈ l.take (k + 1), p t := by
  intro t ht
  rw [List.take_succ_eq_append_getElem hk] at ht
  rcases List.mem_append.1 ht with ht | ht
  · exact h t ht
  · simp at ht; subst ht; exact h'
end Ty

set_option maxHeartbeats 400000 in
theorem size_r {F : Nat → Prop} {w0 : World} {s b : Value} {t : Ty} (ht : IsTy F w0 s b t) : ∀ w : World, t.size ≤ 1000000 → Keep F w0 w →
    Calls Try.prog 35 #[.agg #[s, b]] w (RetI t.size w) := by
  induction ht with
  | mk a n c b args bl off A N C B hn hm ha h1 h2 h3 ih =>
  intro w hsz hw
  clear h3 hm
  subst hn
  have hlen : args.length ≤ 1000000 := by have := Ty.length_lt (l := args) (b := b); omega
  have Hsz : Hid (∀ i (h : i < args.length), args[i].size ≤ 1000000 ∧ Ty.sizes (args.take i) + args[i].size ≤ 1000000) := fun i h => by
    have := Ty.sizes_take args i h; have := Ty.sizes_take_le args (i + 1); rw [Ty.size_eq] at hsz; omega
  have Hend : Hid ((Ty.mk args b).size = Ty.sizes args + 1) := Ty.size_eq _ _
  have Hih := Lib.hid ih; clear ih hsz
  go_enter Try.func35, Try.ntmps35
  go_wp2_with fail
  go_loopw [3, 4] (fun x i wr => ∃ k : Nat, i = .int .i64 k ∧ x = .int .i64 ((Ty.sizes (args.take k) : Int) + 1) ∧ k ≤ args.length ∧ Below w.heap.size w wr ∧ Blk wr w.heap.size #[.slice a args.length c, .int .i64 b] 26) (fun _ i _ => args.length - (intOf i).toNat)
  case atStart => exact ⟨0, rfl, rfl, by omega, (Below.refl _ _).alloc (Nat.le_refl _) _, Blk.new _ _ _ rfl⟩
  case round =>
    obtain ⟨k, rfl, rfl, hk, hb, hbox⟩ := hrel
    have c0 : wr.cell? ⟨w.heap.size, 0, none⟩ = some (.slice a args.length c) := hbox.cell rfl
    have hlt0 := hbox.lt
    by_cases hlt : k < args.length
    · obtain ⟨rfl, hF⟩ := ha (by omega)
      have e1 : wr.cell? ⟨bl, off + k * 2, none⟩ = some (.slice (A k) (N k) (C k)) := (hw.below hb) _ _ _ hF (h1 k hlt)
      have e2 : wr.cell? ⟨bl, off + k * 2 + 1, none⟩ = some (.int .i64 (B k)) := (hw.below hb) _ _ _ hF (h2 k hlt)
      have hs : Ty.sizes (args.take k) ≤ 1000000 ∧ args[k].size ≤ 1000000 := by have := Hsz.out k hlt; omega
      go_wp2_with fail
      refine (Hih.out k hlt _ (Hsz.out k hlt).1 (hw.below hb)).mono ?_
      rintro e w1 ⟨rfl, hb1⟩
      go_wp2_with fail
      go_roundw
      case rel => exact ⟨k + 1, by go_num, by rw [Ty.sizes_take _ _ hlt]; go_num, by omega, hb.trans (hb1.mono (by omega)), hbox.below hb1⟩
      case measure => simp [intOf]; omega
    · go_wp2_with fail
      go_ret
      refine ⟨?_, hb⟩
      rw [Hend.out, List.take_of_length_le (by omega)]; rfl

set_option maxHeartbeats 400000 in
theorem order_r {F : Nat → Prop} {w0 : World} {s b : Value} {t : Ty} (ht : IsTy F w0 s b t) : ∀ w : World, t.size ≤ 1000000 → Keep F w0 w →
    Calls Try.prog 37 #[.agg #[s, b]] w (RetI t.order w) := by
  induction ht with
  | mk a n c b args bl off A N C B hn hm ha h1 h2 h3 ih =>
  intro w hsz hw
  clear h3 hm
  subst hn
  have hlen : args.length ≤ 1000000 := by have := Ty.length_lt (l := args) (b := b); omega
  have Hsz : Hid (∀ i (h : i < args.length), args[i].size ≤ 1000000 ∧ args[i].depth ≤ 1000000 ∧ args[i].order ≤ 1000000) := fun i h => by
    have := Ty.size_get (b := b) i h; have := Ty.depth_le_size args[i]; have := Ty.order_le_depth args[i]; omega
  have Hall : Hid (Ty.depths args ≤ 1000000 ∧ Ty.orders args ≤ 1000000) := by
    have := Ty.depth_le_size (.mk args b); have := Ty.order_le_depth (.mk args b); rw [Ty.depth_eq, Ty.order_eq] at *; exact ⟨by omega, by omega⟩
  have Hend : Hid ((Ty.mk args b).order = Ty.orders args + 0) := by show _ = _; first | exact Ty.depth_eq _ _ | exact Ty.order_eq _ _
  have Hih := Lib.hid ih; clear ih hsz
  go_enter Try.func37, Try.ntmps37
  go_wp2_with fail
  go_loopw [3, 4, 5] (fun x i y wr => ∃ k : Nat, i = .int .i64 k ∧ x = .int .i64 ((Ty.orders (args.take k) : Int) + -1) ∧ k ≤ args.length ∧ Below w.heap.size w wr ∧ Blk wr w.heap.size #[.slice a args.length c, .int .i64 b] 26) (fun _ i _ _ => args.length - (intOf i).toNat)
  case atStart => exact ⟨0, rfl, rfl, by omega, (Below.refl _ _).alloc (Nat.le_refl _) _, Blk.new _ _ _ rfl⟩
  case round =>
    obtain ⟨k, rfl, rfl, hk, hb, hbox⟩ := hrel
    have c0 : wr.cell? ⟨w.heap.size, 0, none⟩ = some (.slice a args.length c) := hbox.cell rfl
    have hlt0 := hbox.lt
    have hs2 : Ty.orders (args.take k) ≤ 1000000 := by have := Hall.out; have := Ty.orders_take_le args k; omega
    by_cases hlt : k < args.length
    · obtain ⟨rfl, hF⟩ := ha (by omega)
      have e1 : wr.cell? ⟨bl, off + k * 2, none⟩ = some (.slice (A k) (N k) (C k)) := (hw.below hb) _ _ _ hF (h1 k hlt)
      have e2 : wr.cell? ⟨bl, off + k * 2 + 1, none⟩ = some (.int .i64 (B k)) := (hw.below hb) _ _ _ hF (h2 k hlt)
      have hs := (Hsz.out k hlt).2
      go_wp2_with fail
      refine (Hih.out k hlt _ (Hsz.out k hlt).1 (hw.below hb)).mono ?_
      rintro e w1 ⟨rfl, hb1⟩
      go_wp2_with fail
      all_goals
        go_roundw
        case rel => exact ⟨k + 1, by go_num, by rw [Ty.orders_take _ _ hlt]; first | go_num | (congr 1; omega), by omega, hb.trans (hb1.mono (by omega)), hbox.below hb1⟩
        case measure => simp [intOf]; omega
    · go_wp2_with fail
      go_ret
      refine ⟨?_, hb⟩
      rw [Hend.out, List.take_of_length_le (by omega)]; first | rfl | go_num
set_option maxHeartbeats 400000 in
theorem depth_r {F : Nat → Prop} {w0 : World} {s b : Value} {t : Ty} (ht : IsTy F w0 s b t) : ∀ w : World, t.size ≤ 1000000 → Keep F w0 w →
    Calls Try.prog 39 #[.agg #[s, b]] w (RetI t.depth w) := by
  induction ht with
  | mk a n c b args bl off A N C B hn hm ha h1 h2 h3 ih =>
  intro w hsz hw
  clear h3 hm
  subst hn
  have hlen : args.length ≤ 1000000 := by have := Ty.length_lt (l := args) (b := b); omega
  have Hsz : Hid (∀ i (h : i < args.length), args[i].size ≤ 1000000 ∧ args[i].depth ≤ 1000000 ∧ args[i].order ≤ 1000000) := fun i h => by
    have := Ty.size_get (b := b) i h; have := Ty.depth_le_size args[i]; have := Ty.order_le_depth args[i]; omega
  have Hall : Hid (Ty.depths args ≤ 1000000 ∧ Ty.orders args ≤ 1000000) := by
    have := Ty.depth_le_size (.mk args b); have := Ty.order_le_depth (.mk args b); rw [Ty.depth_eq, Ty.order_eq] at *; exact ⟨by omega, by omega⟩
  have Hend : Hid ((Ty.mk args b).depth = Ty.depths args + 1) := by show _ = _; first | exact Ty.depth_eq _ _ | exact Ty.order_eq _ _
  have Hih := Lib.hid ih; clear ih hsz
  go_enter Try.func39, Try.ntmps39
  go_wp2_with fail
  go_loopw [3, 4, 5] (fun x i y wr => ∃ k : Nat, i = .int .i64 k ∧ x = .int .i64 ((Ty.depths (args.take k) : Int) + 0) ∧ k ≤ args.length ∧ Below w.heap.size w wr ∧ Blk wr w.heap.size #[.slice a args.length c, .int .i64 b] 26) (fun _ i _ _ => args.length - (intOf i).toNat)
  case atStart => exact ⟨0, rfl, rfl, by omega, (Below.refl _ _).alloc (Nat.le_refl _) _, Blk.new _ _ _ rfl⟩
  case round =>
    obtain ⟨k, rfl, rfl, hk, hb, hbox⟩ := hrel
    have c0 : wr.cell? ⟨w.heap.size, 0, none⟩ = some (.slice a args.length c) := hbox.cell rfl
    have hlt0 := hbox.lt
    have hs2 : Ty.depths (args.take k) ≤ 1000000 := by have := Hall.out; have := Ty.depths_take_le args k; omega
    by_cases hlt : k < args.length
    · obtain ⟨rfl, hF⟩ := ha (by omega)
      have e1 : wr.cell? ⟨bl, off + k * 2, none⟩ = some (.slice (A k) (N k) (C k)) := (hw.below hb) _ _ _ hF (h1 k hlt)
      have e2 : wr.cell? ⟨bl, off + k * 2 + 1, none⟩ = some (.int .i64 (B k)) := (hw.below hb) _ _ _ hF (h2 k hlt)
      have hs := (Hsz.out k hlt).2
      go_wp2_with fail
      refine (Hih.out k hlt _ (Hsz.out k hlt).1 (hw.below hb)).mono ?_
      rintro e w1 ⟨rfl, hb1⟩
      go_wp2_with fail
      all_goals
        go_roundw
        case rel => exact ⟨k + 1, by go_num, by rw [Ty.depths_take _ _ hlt]; first | go_num | (congr 1; omega), by omega, hb.trans (hb1.mono (by omega)), hbox.below hb1⟩
        case measure => simp [intOf]; omega
    · go_wp2_with fail
      go_ret
      refine ⟨?_, hb⟩
      rw [Hend.out, List.take_of_length_le (by omega)]; first | rfl | go_num

theorem isTy_len {F : Nat → Prop} {w : World} {s b : Value} {t : Ty} (h : IsTy F w s b t) : t.args.length ≤ maxLen := by
  cases h; simp [Ty.args]; omega

set_option maxHeartbeats 400000 in
theorem Few_any {F : Nat → Prop} {w : World} {s b : Value} {t : Ty} (ht : IsTy F w s b t) (most depth : Int) (hm0 : 1 ≤ most) (hm1 : most ≤ 1000) (hd1 : depth ≤ 1000) (hd0 : -1000 ≤ depth) :
    Calls Try.prog 15 #[.agg #[s, b], .int .i64 most, .int .i64 depth] w (RetB ((t.size : Int) ≤ most ∧ (t.depth : Int) ≤ depth) w) := by
  cases ht with
  | mk a n c b args bl off A N C B hn hm ha h1 h2 h3 =>
  have Ht : Hid (IsTy F w (.slice a n c) (.int .i64 b) (.mk args b)) := IsTy.mk a n c b args bl off A N C B hn hm ha h1 h2 h3
  clear hn hm ha h1 h2 h3
  go_enter Try.func15, Try.ntmps15
  go_wp2_with fail
  refine (few_any Ht.out most depth _ hm0 hm1 hd1 hd0 ((Keep.refl _ _).alloc _)).mono ?_
  rintro e w1 ⟨r, hf, rfl, hb1⟩
  go_wp2_with fail
  go_ret
  refine ⟨decide (r ≤ most), ?_, rfl, ((Below.refl _ _).alloc (Nat.le_refl _) _).trans (hb1.mono (by simp))⟩
  unfold fewOk at hf
  rw [decide_eq_true_iff]
  constructor
  · intro h; omega
  · intro h; omega

set_option maxHeartbeats 400000 in
theorem low_r {F : Nat → Prop} {w0 : World} {s b : Value} {t : Ty} (ht : IsTy F w0 s b t) : ∀ (bases : Int) (w : World), t.size ≤ 1000000 → Keep F w0 w →
    Calls Try.prog 95 #[.agg #[s, b], .int .i64 bases] w (RetB (Ty.Low bases t) w) := by
  induction ht with
  | mk a n c b args bl off A N C B hn hm ha h1 h2 h3 ih =>
  intro bases w hsz hw
  clear h3 hm
  subst hn
  have hlen : args.length ≤ 1000000 := by have := Ty.length_lt (l := args) (b := b); omega
  have Hsz : Hid (∀ i (h : i < args.length), args[i].size ≤ 1000000) := fun i h => by
    have := Ty.size_get (b := b) i h; omega
  have Hlow : Hid (Ty.Low bases (.mk args b) ↔ 0 ≤ b ∧ b < bases ∧ ∀ t ∈ args, Ty.Low bases t) := Ty.low_iff
  have Hih := Lib.hid ih; clear ih hsz
  by_cases hb0 : b < 0
  · skip
    go_enter Try.func95, Try.ntmps95
    go_wp2_with fail
    go_ret
    refine ⟨false, ?_, rfl, (Below.refl _ _).alloc (Nat.le_refl _) _⟩
    rw [Hlow.out]; simp; omega
  by_cases hb1 : bases ≤ b
  · skip
    go_enter Try.func95, Try.ntmps95
    go_wp2_with fail
    go_ret
    refine ⟨false, ?_, rfl, (Below.refl _ _).alloc (Nat.le_refl _) _⟩
    rw [Hlow.out]; simp; omega
  go_enter Try.func95, Try.ntmps95
  go_wp2_with fail
  go_loopw [5] (fun i wr => ∃ k : Nat, i = .int .i64 k ∧ k ≤ args.length ∧ (∀ t ∈ args.take k, Ty.Low bases t) ∧ Below w.heap.size w wr ∧ Blk wr w.heap.size #[.slice a args.length c, .int .i64 b] 26) (fun i _ => args.length - (intOf i).toNat)
  case atStart => exact ⟨0, rfl, by omega, by simp, (Below.refl _ _).alloc (Nat.le_refl _) _, Blk.new _ _ _ rfl⟩
  case round =>
    obtain ⟨k, rfl, hk, hall, hb, hbox⟩ := hrel
    have Hall := Lib.hid hall; clear hall
    have c0 : wr.cell? ⟨w.heap.size, 0, none⟩ = some (.slice a args.length c) := hbox.cell rfl
    have hlt0 := hbox.lt
    by_cases hlt : k < args.length
    · obtain ⟨rfl, hF⟩ := ha (by omega)
      have e1 : wr.cell? ⟨bl, off + k * 2, none⟩ = some (.slice (A k) (N k) (C k)) := (hw.below hb) _ _ _ hF (h1 k hlt)
      have e2 : wr.cell? ⟨bl, off + k * 2 + 1, none⟩ = some (.int .i64 (B k)) := (hw.below hb) _ _ _ hF (h2 k hlt)
      go_wp2_with fail
      refine (Hih.out k hlt _ _ (Hsz.out k hlt) (hw.below hb)).mono ?_
      rintro e w1 ⟨r, hr, rfl, hb2⟩
      cases r
      · have Hr := Lib.hid (no_of hr); clear hr
        go_wp2_with fail
        go_ret
        refine ⟨false, ?_, rfl, hb.trans (hb2.mono (by omega))⟩
        rw [Hlow.out]; simp
        intro _ _
        exact ⟨args[k], List.getElem_mem hlt, Hr.out⟩
      · have Hr := Lib.hid (yes_of hr); clear hr
        go_wp2_with fail
        go_roundw
        case rel => exact ⟨k + 1, by go_num, by omega, Ty.forall_take_succ hlt Hall.out Hr.out, hb.trans (hb2.mono (by omega)), hbox.below hb2⟩
        case measure => simp [intOf]; omega
    · go_wp2_with fail
      go_ret
      refine ⟨true, ?_, rfl, hb⟩
      rw [Hlow.out]; simp
      have h := Hall.out
      rw [List.take_of_length_le (by omega)] at h
      exact ⟨by omega, by omega, h⟩

set_option maxHeartbeats 400000 in
theorem right_r {F : Nat → Prop} {w : World} {s b : Value} {t : Ty} (ht : IsTy F w s b t) (bases : Int) :
    Calls Try.prog 33 #[.agg #[s, b], .int .i64 bases] w (RetB (t.size ≤ 1000 ∧ t.depth ≤ 60 ∧ Ty.Low bases t) w) := by
  cases ht with
  | mk a n c b args bl off A N C B hn hm ha h1 h2 h3 =>
  have Ht : Hid (IsTy F w (.slice a n c) (.int .i64 b) (.mk args b)) := IsTy.mk a n c b args bl off A N C B hn hm ha h1 h2 h3
  clear hn hm ha h1 h2 h3
  go_enter Try.func33, Try.ntmps33
  go_wp2_with fail
  refine (Few_any (Ht.out.keep ((Keep.refl _ _).alloc _)) 1000 60 (by omega) (by omega) (by omega) (by omega)).mono ?_
  rintro e w1 ⟨r, hr, rfl, hb1⟩
  have hB : Below w.heap.size w w1 := ((Below.refl _ _).alloc (Nat.le_refl _) _).trans (hb1.mono (by simp))
  cases r
  · have Hr := Lib.hid (no_of hr); clear hr
    go_wp2_with fail
    go_ret
    refine ⟨false, ?_, rfl, hB⟩
    simp
    intro h1 h2
    exact absurd ⟨by omega, by omega⟩ Hr.out
  · have Hr := Lib.hid (yes_of hr); clear hr
    have c0 := ((Blk.new w #[.slice a n c, .int .i64 b] 26 rfl).below hb1)
    have c1 : w1.cell? ⟨w.heap.size, 0, none⟩ = some (.slice a n c) := c0.cell rfl
    have c2 : w1.cell? ⟨w.heap.size, 1, none⟩ = some (.int .i64 b) := c0.cell rfl
    go_wp2_with fail
    refine (low_r Ht.out bases _ (by have := Hr.out; omega) (((Keep.refl _ _).alloc _).below hb1)).mono ?_
    rintro e w2 ⟨r, hr2, rfl, hb2⟩
    go_wp2_with fail
    go_ret
    have := Hr.out
    exact ⟨r, by rw [hr2]; exact ⟨fun h => ⟨by omega, by omega, h⟩, fun h => h.2.2⟩, rfl, hB.trans (hb2.mono hB.size)⟩
end Go.Proofs.Ytejpgifofkiofaa
