/-
  A region that draws its order: a load may be taken first where every other operation that can come up ahead of it keeps its cell; of what comes behind a store nothing is asked. The reference's size, order and depth of a type, whether its bases are low, whether two types are the same: what each hands back. Whether two types are the same, as the reference asks it. kind.Each: all types within, each ahead of its arguments: what the iterator hands to a loop's body.
-/
import Derived.OrdersHeld
import Derived.Deep.RegionHeld
import Derived.Deep.RegionHeld3
import Derived.Test.YtejpgifofkiofaaRowEachp1
import Derived.RangeFuncNested
import Derived.RangeFuncBound
import Derived.RangeFuncCalls
import Derived.RangeFuncLeaves
import Derived.Shelf.Abstract
import Derived.Shelf.RegionOpen
import Derived.OwnWalkIn
import Derived.TacticsInMore
import Derived.LoopNIn
import Derived.LoopIn
set_option linter.unusedVariables false
set_option linter.unusedSimpArgs false
namespace Go.Proofs.Ytejpgifofkiofaa

section
variable {P : Program} {ops : Array Oper} {Q : Exit → Act → World → Prop} {md : Region.Mode} {S : World → Prop}

def asksS (ops : Array Oper) (j : Nat) : Bool := match ops[j]? with
  | none => true
  | some o => match o.op with
    | .store .. => false
    | .assign _ => false
    | _ => true

def wpN (P : Program) (md : Region.Mode) (ops : Array Oper) (Q : Exit → Act → World → Prop) (S : World → Prop) : Nat → Array Bool → Act → World → Prop
  | 0, listed, a, w => Region.ready md ops listed = [] ∧ Q .normal a w
  | n + 1, listed, a, w =>
    (Region.ready md ops listed = [] → Q .normal a w) ∧
    ∀ i ∈ Region.ready md ops listed, wpOp P ops Q i (fun a' w' => (asksS ops i = true → S w → S w') ∧ wpN P md ops Q S n (listed.setIfInBounds i true) a' w') a w

theorem wpN_any : ∀ (n : Nat) (listed : Array Bool) (a : Act) (w : World), wpN P md ops Q S n listed a w → wpAny P md ops Q n listed a w
  | 0, _, _, _, h => h
  | n + 1, _, _, _, h => ⟨h.1, fun i hi => wpOp_mono (fun a' w' hh => wpN_any n _ a' w' hh.2) (h.2 i hi)⟩

def lateOk (md : Region.Mode) (ops : Array Oper) (listed : Array Bool) (i : Nat) : Bool :=
  (List.range ops.size).all fun j => asksS ops j || j == i || listed.getD j true || match ops[j]? with
    | some oj => oj.after.any (fun e => Region.binds md e && e.on == i)
    | none => true

theorem lateOk_spec {i : Nat} {listed : Array Bool} (h : lateOk md ops listed i = true) (j : Nat) (oj : Oper) (hj : ops[j]? = some oj) (hne : j ≠ i) (hun : listed.getD j true = false)
    (hno : ∀ e ∈ oj.after, Region.binds md e = true → e.on ≠ i) : asksS ops j = true := by
  simp only [lateOk, List.all_eq_true, List.mem_range] at h
  have h1 := h j (Array.getElem?_eq_some_iff.1 hj).1
  simp only [hj, Bool.or_eq_true, beq_iff_eq, hne, hun, or_false, Bool.false_eq_true] at h1
  rcases h1 with h1 | h1
  · exact h1
  · obtain ⟨e, he, hb⟩ := Array.any_eq_true'.1 h1
    simp only [Bool.and_eq_true, beq_iff_eq] at hb
    exact absurd hb.2 (hno e he hb.1)

theorem wpN_first {i : Nat} {oi : Oper} {v : Value} (hi : ops[i]? = some oi) (hsel : ∀ (j : Nat) (o : Oper) cs b, ops[j]? = some o → o.op ≠ .select cs b)
    (hQ : ∀ c a w, Q (.panic c) (a.put oi.dst v) w → Q (.panic c) a w) (hai : asksS ops i = true) :
    ∀ (n : Nat) (listed : Array Bool) (a : Act) (w : World),
      (∀ j oj, ops[j]? = some oj → j ≠ i → listed.getD j true = false → (∀ e ∈ oj.after, Region.binds md e = true → e.on ≠ i) → oi.apart ops oj = true ∧ asksS ops j = true) →
      i ∈ Region.ready md ops listed → YieldsIf P ops S oi v a → S w →
      wpN P md ops Q S n (listed.setIfInBounds i true) (a.put oi.dst v) w → wpN P md ops Q S (n + 1) listed a w := by
  intro n
  induction n with
  | zero =>
    intro listed a w _ hr hy hS H
    refine ⟨fun h0 => (by rw [h0] at hr; cases hr), fun j hj => ?_⟩
    by_cases hji : j = i
    · subst hji; exact hy.wpOp hi hS ⟨fun _ h => h, H⟩
    · have h0 := ready_mono hj hji
      rw [H.1] at h0; cases h0
  | succ n ih =>
    intro listed a w hfree hr hy hS H
    refine ⟨fun h0 => (by rw [h0] at hr; cases hr), fun j hj => ?_⟩
    by_cases hji : j = i
    · subst hji; exact hy.wpOp hi hS ⟨fun _ h => h, H⟩
    · have hrest := H.2 j (ready_mono hj hji)
      obtain ⟨hjun, oj, hoj, hall⟩ := mem_ready.1 hj
      have hiun := (mem_ready.1 hr).1
      have hnot : ∀ e ∈ oj.after, Region.binds md e = true → e.on ≠ i := fun e he hb heq => by
        have hl := hall e he hb
        rw [heq] at hl
        rcases Nat.lt_or_ge i listed.size with hlt | hge
        · simp [hlt] at hiun hl; rw [hiun] at hl; cases hl
        · simp [Array.getElem?_eq_none hge] at hl
      obtain ⟨hap, haj⟩ := hfree j oj hoj hji hjun hnot
      have hput := wpOp_putIf hoj hap (fun cs b => hsel i oi cs b hi) (fun cs b => hsel j oj cs b hoj) hQ hy hrest
      refine wpOp_mono (fun a' w' hh => ?_) hput
      obtain ⟨hy', hSw, hw⟩ := hh
      refine ⟨hSw, ih (listed.setIfInBounds j true) a' w' ?_ (ready_mono hr (Ne.symm hji)) hy' (hSw haj hS) ?_⟩
      · intro k ok hk hki hun hno
        refine hfree k ok hk hki ?_ hno
        by_cases hjk : j = k
        · subst hjk; exact hjun
        · rw [getD_set_ne true hjk] at hun; exact hun
      · rw [Array.setIfInBounds_comm _ _ hji]; exact hw

theorem wpN_take {i : Nat} {oi : Oper} {v : Value} {n : Nat} {listed : Array Bool} {a : Act} {w : World} (hi : ops[i]? = some oi)
    (hs : (Region.noSelect ops && Region.free md ops listed i && (Region.ready md ops listed).contains i && asksS ops i && lateOk md ops listed i) = true)
    (hQ : ∀ c a w, Q (.panic c) (a.put oi.dst v) w → Q (.panic c) a w) (hS : S w) (hy : YieldsIf P ops S oi v a)
    (h : wpN P md ops Q S n (listed.setIfInBounds i true) (a.put oi.dst v) w) : wpN P md ops Q S (n + 1) listed a w := by
  simp only [Bool.and_eq_true] at hs
  obtain ⟨⟨⟨⟨h1, h2⟩, h3⟩, h4⟩, h5⟩ := hs
  exact wpN_first hi (Region.noSelect_spec h1) hQ h4 n listed a w (fun j oj hj hne hun hno => ⟨Region.free_spec hi h2 j oj hj hne hun hno, lateOk_spec h5 j oj hj hne hun hno⟩) (by simpa using h3) hy hS h

theorem wpN_pureF {i : Nat} {oi : Oper} {v : Value} (hi : ops[i]? = some oi) (hsel : ∀ (j : Nat) (o : Oper) cs b, ops[j]? = some o → o.op ≠ .select cs b)
    (hQ : ∀ c a w, Q (.panic c) (a.put oi.dst v) w → Q (.panic c) a w) :
    ∀ (n : Nat) (listed : Array Bool) (a : Act) (w : World),
      (∀ j oj, ops[j]? = some oj → j ≠ i → listed.getD j true = false → (∀ e ∈ oj.after, Region.binds md e = true → e.on ≠ i) → oi.apart ops oj = true) →
      i ∈ Region.ready md ops listed → YieldsIf P ops (fun _ => True) oi v a →
      wpN P md ops Q S n (listed.setIfInBounds i true) (a.put oi.dst v) w → wpN P md ops Q S (n + 1) listed a w := by
  intro n
  induction n with
  | zero =>
    intro listed a w _ hr hy H
    refine ⟨fun h0 => (by rw [h0] at hr; cases hr), fun j hj => ?_⟩
    by_cases hji : j = i
    · subst hji; exact hy.wpOp hi trivial ⟨fun _ h => h, H⟩
    · have h0 := ready_mono hj hji
      rw [H.1] at h0; cases h0
  | succ n ih =>
    intro listed a w hfree hr hy H
    refine ⟨fun h0 => (by rw [h0] at hr; cases hr), fun j hj => ?_⟩
    by_cases hji : j = i
    · subst hji; exact hy.wpOp hi trivial ⟨fun _ h => h, H⟩
    · have hrest := H.2 j (ready_mono hj hji)
      obtain ⟨hjun, oj, hoj, hall⟩ := mem_ready.1 hj
      have hiun := (mem_ready.1 hr).1
      have hnot : ∀ e ∈ oj.after, Region.binds md e = true → e.on ≠ i := fun e he hb heq => by
        have hl := hall e he hb
        rw [heq] at hl
        rcases Nat.lt_or_ge i listed.size with hlt | hge
        · simp [hlt] at hiun hl; rw [hiun] at hl; cases hl
        · simp [Array.getElem?_eq_none hge] at hl
      have hap := hfree j oj hoj hji hjun hnot
      have hput := wpOp_putIf hoj hap (fun cs b => hsel i oi cs b hi) (fun cs b => hsel j oj cs b hoj) hQ hy hrest
      refine wpOp_mono (fun a' w' hh => ?_) hput
      obtain ⟨hy', hSw, hw⟩ := hh
      refine ⟨hSw, ih (listed.setIfInBounds j true) a' w' ?_ (ready_mono hr (Ne.symm hji)) hy' ?_⟩
      · intro k ok hk hki hun hno
        refine hfree k ok hk hki ?_ hno
        by_cases hjk : j = k
        · subst hjk; exact hjun
        · rw [getD_set_ne true hjk] at hun; exact hun
      · rw [Array.setIfInBounds_comm _ _ hji]; exact hw
theorem wpN_pure {i : Nat} {oi : Oper} {v : Value} {n : Nat} {listed : Array Bool} {a : Act} {w : World} (hi : ops[i]? = some oi)
    (hs : (Region.noSelect ops && Region.free md ops listed i && (Region.ready md ops listed).contains i) = true)
    (hQ : ∀ c a w, Q (.panic c) (a.put oi.dst v) w → Q (.panic c) a w) (hy : YieldsIf P ops (fun _ => True) oi v a)
    (h : wpN P md ops Q S n (listed.setIfInBounds i true) (a.put oi.dst v) w) : wpN P md ops Q S (n + 1) listed a w := by
  simp only [Bool.and_eq_true] at hs
  obtain ⟨⟨h1, h2⟩, h3⟩ := hs
  exact wpN_pureF hi (Region.noSelect_spec h1) hQ n listed a w (fun j oj hj hne hun hno => Region.free_spec hi h2 j oj hj hne hun hno) (by simpa using h3) hy h

theorem wpN_step {i : Nat} {oi : Oper} {n : Nat} {listed : Array Bool} {a : Act} {w : World} (hr : Region.ready md ops listed = [i]) (hi : ops[i]? = some oi)
    (h : ∀ K : Act → World → Prop, Shut (∀ a w, (asksS ops i = true → S w) → wpN P md ops Q S n (listed.setIfInBounds i true) a w → K a w) → if Region.wanted oi (yielded ops a.tmps) = true then Oper.wp P oi a w K Q else K (a.put oi.dst undef) w) :
    wpN P md ops Q S (n + 1) listed a w := by
  refine ⟨fun h0 => (by rw [hr] at h0; cases h0), fun j hj => ?_⟩
  rw [hr] at hj
  have : j = i := by simpa using hj
  subst this
  exact wpOp_step hi (fun K hK => h K (fun a w h1 h2 => hK a w ⟨fun ha _ => h1 ha, h2⟩))

theorem wpN_done {n : Nat} {listed : Array Bool} {a : Act} {w : World} (hr : Region.ready md ops listed = []) (h : Q .normal a w) : wpN P md ops Q S n listed a w := by
  cases n with
  | zero => exact ⟨hr, h⟩
  | succ n => exact ⟨fun _ => h, fun i hi => by rw [hr] at hi; cases hi⟩

theorem wp_region_need {id : Nat} {a : Act} {w : World} (hm : P.follows .mixedOrders = true) (h : wpN P .any ops Q S ops.size (Array.replicate ops.size false) a w.drew) : (Code.region id ops true).wp P Q a w :=
  wp_region_any hm (wpN_any _ _ _ _ h)
end
end Go.Proofs.Ytejpgifofkiofaa

namespace Go.Proofs.Ytejpgifofkiofaa
open Go.RowKit

def RetI (n : Int) (w : World) (e : Ending) (w' : World) : Prop := e = .returned (.int .i64 n) ∧ Below w.heap.size w w'
def RetB (p : Prop) (w : World) (e : Ending) (w' : World) : Prop := ∃ b : Bool, (b = true ↔ p) ∧ e = .returned (.bool b) ∧ Below w.heap.size w w'

theorem no_of {p : Prop} (h : false = true ↔ p) : ¬ p := fun hp => by simpa using h.2 hp
theorem yes_of {p : Prop} (h : true = true ↔ p) : p := h.1 rfl

namespace Ty
mutual
def order : Ty → Nat
  | .mk a _ => orders a
def orders : List Ty → Nat
  | [] => 0
  | t :: l => max (order t + 1) (orders l)
end
theorem orders_append (l r : List Ty) : orders (l ++ r) = max (orders l) (orders r) := by
  induction l with
  | nil => simp [orders]
  | cons t l ih => simp [orders, ih]
theorem orders_take (l : List Ty) (i : Nat) (h : i < l.length) : orders (l.take (i + 1)) = max (orders (l.take i)) (order l[i] + 1) := by
  rw [List.take_succ_eq_append_getElem h, orders_append]; simp [orders]
theorem orders_take_le (l : List Ty) (i : Nat) : orders (l.take i) ≤ orders l := by
  conv => rhs; rw [← List.take_append_drop i l]
  rw [orders_append]; omega
theorem order_le_depth (t : Ty) : t.order < t.depth := by
  induction t using Ty.ind with
  | h args base ih =>
    simp only [order, depth]
    have : ∀ l : List Ty, (∀ t ∈ l, t.order < t.depth) → orders l ≤ depths l := by
      intro l
      induction l with
      | nil => intro _; simp [orders]
      | cons t l ih2 => intro h; have := ih2 (fun t ht => h t (by simp [ht])); have := h t (by simp); simp [orders, depths]; omega
    have := this args ih; omega
theorem depth_le_size (t : Ty) : t.depth ≤ t.size := by
  induction t using Ty.ind with
  | h args base ih =>
    simp only [size, depth]
    have : ∀ l : List Ty, (∀ t ∈ l, t.depth ≤ t.size) → depths l ≤ sizes l := by
      intro l
      induction l with
      | nil => intro _; simp [depths]
      | cons t l ih2 => intro h; have := ih2 (fun t ht => h t (by simp [ht])); have := h t (by simp); simp [sizes, depths]; omega
    have := this args ih; omega
theorem size_eq (l : List Ty) (b : Int) : (mk l b).size = sizes l + 1 := by simp [size]
theorem depth_eq (l : List Ty) (b : Int) : (mk l b).depth = depths l + 1 := by simp [depth]
theorem order_eq (l : List Ty) (b : Int) : (mk l b).order = orders l := by simp [order]

inductive Low (bases : Int) : Ty → Prop where
  | mk (l : List Ty) (b : Int) (h0 : 0 ≤ b) (h1 : b < bases) (h : ∀ t ∈ l, Low bases t) : Low bases (.mk l b)
theorem low_iff {bases : Int} {l : List Ty} {b : Int} : Low bases (.mk l b) ↔ 0 ≤ b ∧ b < bases ∧ ∀ t ∈ l, Low bases t :=
  ⟨fun h => by cases h with | mk _ _ h0 h1 h => exact ⟨h0, h1, h⟩, fun ⟨h0, h1, h⟩ => .mk _ _ h0 h1 h⟩
theorem forall_take_succ {p : Ty → Prop} {l : List Ty} {k : Nat} (hk : k < l.length) (h : ∀ t ∈ l.take k, p t) (h' : p l[k]) : ∀ t ∈ l.take (k + 1), p t := by
  intro t ht
  rw [List.take_succ_eq_append_getElem hk] at ht
  rcases List.mem_append.1 ht with ht | ht
  · exact h t ht
  · simp at ht; subst ht; exact h'
end Ty

set_option maxHeartbeats 400000 in
theorem size_r {F : Nat → Prop} {w0 : World} {s b : Value} {t : Ty} (ht : IsTy F w0 s b t) : ∀ w : World, t.size ≤ 1000000 → Keep F w0 w →
    Calls Try.prog 35 #[.agg #[s, b]] w (RetI t.size w) := by
  induction ht with
  | mk a n c b args bl off A N C B hn hm ha h1 h2 h3 ih =>
  intro w hsz hw
  clear h3 hm
  subst hn
  have hlen : args.length ≤ 1000000 := by have := Ty.length_lt (l := args) (b := b); omega
  have Hsz : Hid (∀ i (h : i < args.length), args[i].size ≤ 1000000 ∧ Ty.sizes (args.take i) + args[i].size ≤ 1000000) := fun i h => by
    have := Ty.sizes_take args i h; have := Ty.sizes_take_le args (i + 1); rw [Ty.size_eq] at hsz; omega
  have Hend : Hid ((Ty.mk args b).size = Ty.sizes args + 1) := Ty.size_eq _ _
  have Hih := Lib.hid ih; clear ih hsz
  go_enter Try.func35, Try.ntmps35
  go_wp2_with fail
  go_loopw [3, 4] (fun x i wr => ∃ k : Nat, i = .int .i64 k ∧ x = .int .i64 ((Ty.sizes (args.take k) : Int) + 1) ∧ k ≤ args.length ∧ Below w.heap.size w wr ∧ Blk wr w.heap.size #[.slice a args.length c, .int .i64 b] 26) (fun _ i _ => args.length - (intOf i).toNat)
  case atStart => exact ⟨0, rfl, rfl, by omega, (Below.refl _ _).alloc (Nat.le_refl _) _, Blk.new _ _ _ rfl⟩
  case round =>
    obtain ⟨k, rfl, rfl, hk, hb, hbox⟩ := hrel
    have c0 : wr.cell? ⟨w.heap.size, 0, none⟩ = some (.slice a args.length c) := hbox.cell rfl
    have hlt0 := hbox.lt
    by_cases hlt : k < args.length
    · obtain ⟨rfl, hF⟩ := ha (by omega)
      have e1 : wr.cell? ⟨bl, off + k * 2, none⟩ = some (.slice (A k) (N k) (C k)) := (hw.below hb) _ _ _ hF (h1 k hlt)
      have e2 : wr.cell? ⟨bl, off + k * 2 + 1, none⟩ = some (.int .i64 (B k)) := (hw.below hb) _ _ _ hF (h2 k hlt)
      have hs : Ty.sizes (args.take k) ≤ 1000000 ∧ args[k].size ≤ 1000000 := by have := Hsz.out k hlt; omega
      go_wp2_with fail
      refine (Hih.out k hlt _ (Hsz.out k hlt).1 (hw.below hb)).mono ?_
      rintro e w1 ⟨rfl, hb1⟩
      go_wp2_with fail
      go_roundw
      case rel => exact ⟨k + 1, by go_num, by rw [Ty.sizes_take _ _ hlt]; go_num, by omega, hb.trans (hb1.mono (by omega)), hbox.below hb1⟩
      case measure => simp [intOf]; omega
    · go_wp2_with fail
      go_ret
      refine ⟨?_, hb⟩
      rw [Hend.out, List.take_of_length_le (by omega)]; rfl

set_option maxHeartbeats 400000 in
theorem order_r {F : Nat → Prop} {w0 : World} {s b : Value} {t : Ty} (ht : IsTy F w0 s b t) : ∀ w : World, t.size ≤ 1000000 → Keep F w0 w →
    Calls Try.prog 37 #[.agg #[s, b]] w (RetI t.order w) := by
  induction ht with
  | mk a n c b args bl off A N C B hn hm ha h1 h2 h3 ih =>
  intro w hsz hw
  clear h3 hm
  subst hn
  have hlen : args.length ≤ 1000000 := by have := Ty.length_lt (l := args) (b := b); omega
  have Hsz : Hid (∀ i (h : i < args.length), args[i].size ≤ 1000000 ∧ args[i].depth ≤ 1000000 ∧ args[i].order ≤ 1000000) := fun i h => by
    have := Ty.size_get (b := b) i h; have := Ty.depth_le_size args[i]; have := Ty.order_le_depth args[i]; omega
  have Hall : Hid (Ty.depths args ≤ 1000000 ∧ Ty.orders args ≤ 1000000) := by
    have := Ty.depth_le_size (.mk args b); have := Ty.order_le_depth (.mk args b); rw [Ty.depth_eq, Ty.order_eq] at *; exact ⟨by omega, by omega⟩
  have Hend : Hid ((Ty.mk args b).order = Ty.orders args + 0) := by show _ = _; first | exact Ty.depth_eq _ _ | exact Ty.order_eq _ _
  have Hih := Lib.hid ih; clear ih hsz
  go_enter Try.func37, Try.ntmps37
  go_wp2_with fail
  go_loopw [3, 4, 5] (fun x i y wr => ∃ k : Nat, i = .int .i64 k ∧ x = .int .i64 ((Ty.orders (args.take k) : Int) + -1) ∧ k ≤ args.length ∧ Below w.heap.size w wr ∧ Blk wr w.heap.size #[.slice a args.length c, .int .i64 b] 26) (fun _ i _ _ => args.length - (intOf i).toNat)
  case atStart => exact ⟨0, rfl, rfl, by omega, (Below.refl _ _).alloc (Nat.le_refl _) _, Blk.new _ _ _ rfl⟩
  case round =>
    obtain ⟨k, rfl, rfl, hk, hb, hbox⟩ := hrel
    have c0 : wr.cell? ⟨w.heap.size, 0, none⟩ = some (.slice a args.length c) := hbox.cell rfl
    have hlt0 := hbox.lt
    have hs2 : Ty.orders (args.take k) ≤ 1000000 := by have := Hall.out; have := Ty.orders_take_le args k; omega
    by_cases hlt : k < args.length
    · obtain ⟨rfl, hF⟩ := ha (by omega)
      have e1 : wr.cell? ⟨bl, off + k * 2, none⟩ = some (.slice (A k) (N k) (C k)) := (hw.below hb) _ _ _ hF (h1 k hlt)
      have e2 : wr.cell? ⟨bl, off + k * 2 + 1, none⟩ = some (.int .i64 (B k)) := (hw.below hb) _ _ _ hF (h2 k hlt)
      have hs := (Hsz.out k hlt).2
      go_wp2_with fail
      refine (Hih.out k hlt _ (Hsz.out k hlt).1 (hw.below hb)).mono ?_
      rintro e w1 ⟨rfl, hb1⟩
      go_wp2_with fail
      all_goals
        go_roundw
        case rel => exact ⟨k + 1, by go_num, by rw [Ty.orders_take _ _ hlt]; first | go_num | (congr 1; omega), by omega, hb.trans (hb1.mono (by omega)), hbox.below hb1⟩
        case measure => simp [intOf]; omega
    · go_wp2_with fail
      go_ret
      refine ⟨?_, hb⟩
      rw [Hend.out, List.take_of_length_le (by omega)]; first | rfl | go_num
set_option maxHeartbeats 400000 in
theorem depth_r {F : Nat → Prop} {w0 : World} {s b : Value} {t : Ty} (ht : IsTy F w0 s b t) : ∀ w : World, t.size ≤ 1000000 → Keep F w0 w →
    Calls Try.prog 39 #[.agg #[s, b]] w (RetI t.depth w) := by
  induction ht with
  | mk a n c b args bl off A N C B hn hm ha h1 h2 h3 ih =>
  intro w hsz hw
  clear h3 hm
  subst hn
  have hlen : args.length ≤ 1000000 := by have := Ty.length_lt (l := args) (b := b); omega
  have Hsz : Hid (∀ i (h : i < args.length), args[i].size ≤ 1000000 ∧ args[i].depth ≤ 1000000 ∧ args[i].order ≤ 1000000) := fun i h => by
    have := Ty.size_get (b := b) i h; have := Ty.depth_le_size args[i]; have := Ty.order_le_depth args[i]; omega
  have Hall : Hid (Ty.depths args ≤ 1000000 ∧ Ty.orders args ≤ 1000000) := by
    have := Ty.depth_le_size (.mk args b); have := Ty.order_le_depth (.mk args b); rw [Ty.depth_eq, Ty.order_eq] at *; exact ⟨by omega, by omega⟩
  have Hend : Hid ((Ty.mk args b).depth = Ty.depths args + 1) := by show _ = _; first | exact Ty.depth_eq _ _ | exact Ty.order_eq _ _
  have Hih := Lib.hid ih; clear ih hsz
  go_enter Try.func39, Try.ntmps39
  go_wp2_with fail
  go_loopw [3, 4, 5] (fun x i y wr => ∃ k : Nat, i = .int .i64 k ∧ x = .int .i64 ((Ty.depths (args.take k) : Int) + 0) ∧ k ≤ args.length ∧ Below w.heap.size w wr ∧ Blk wr w.heap.size #[.slice a args.length c, .int .i64 b] 26) (fun _ i _ _ => args.length - (intOf i).toNat)
  case atStart => exact ⟨0, rfl, rfl, by omega, (Below.refl _ _).alloc (Nat.le_refl _) _, Blk.new _ _ _ rfl⟩
  case round =>
    obtain ⟨k, rfl, rfl, hk, hb, hbox⟩ := hrel
    have c0 : wr.cell? ⟨w.heap.size, 0, none⟩ = some (.slice a args.length c) := hbox.cell rfl
    have hlt0 := hbox.lt
    have hs2 : Ty.depths (args.take k) ≤ 1000000 := by have := Hall.out; have := Ty.depths_take_le args k; omega
    by_cases hlt : k < args.length
    · obtain ⟨rfl, hF⟩ := ha (by omega)
      have e1 : wr.cell? ⟨bl, off + k * 2, none⟩ = some (.slice (A k) (N k) (C k)) := (hw.below hb) _ _ _ hF (h1 k hlt)
      have e2 : wr.cell? ⟨bl, off + k * 2 + 1, none⟩ = some (.int .i64 (B k)) := (hw.below hb) _ _ _ hF (h2 k hlt)
      have hs := (Hsz.out k hlt).2
      go_wp2_with fail
      refine (Hih.out k hlt _ (Hsz.out k hlt).1 (hw.below hb)).mono ?_
      rintro e w1 ⟨rfl, hb1⟩
      go_wp2_with fail
      all_goals
        go_roundw
        case rel => exact ⟨k + 1, by go_num, by rw [Ty.depths_take _ _ hlt]; first | go_num | (congr 1; omega), by omega, hb.trans (hb1.mono (by omega)), hbox.below hb1⟩
        case measure => simp [intOf]; omega
    · go_wp2_with fail
      go_ret
      refine ⟨?_, hb⟩
      rw [Hend.out, List.take_of_length_le (by omega)]; first | rfl | go_num

theorem isTy_len {F : Nat → Prop} {w : World} {s b : Value} {t : Ty} (h : IsTy F w s b t) : t.args.length ≤ maxLen := by
  cases h; simp [Ty.args]; omega

set_option maxHeartbeats 400000 in
theorem Few_any {F : Nat → Prop} {w : World} {s b : Value} {t : Ty} (ht : IsTy F w s b t) (most depth : Int) (hm0 : 1 ≤ most) (hm1 : most ≤ 1000) (hd1 : depth ≤ 1000) (hd0 : -1000 ≤ depth) :
    Calls Try.prog 15 #[.agg #[s, b], .int .i64 most, .int .i64 depth] w (RetB ((t.size : Int) ≤ most ∧ (t.depth : Int) ≤ depth) w) := by
  cases ht with
  | mk a n c b args bl off A N C B hn hm ha h1 h2 h3 =>
  have Ht : Hid (IsTy F w (.slice a n c) (.int .i64 b) (.mk args b)) := IsTy.mk a n c b args bl off A N C B hn hm ha h1 h2 h3
  clear hn hm ha h1 h2 h3
  go_enter Try.func15, Try.ntmps15
  go_wp2_with fail
  refine (few_any Ht.out most depth _ hm0 hm1 hd1 hd0 ((Keep.refl _ _).alloc _)).mono ?_
  rintro e w1 ⟨r, hf, rfl, hb1⟩
  go_wp2_with fail
  go_ret
  refine ⟨decide (r ≤ most), ?_, rfl, ((Below.refl _ _).alloc (Nat.le_refl _) _).trans (hb1.mono (by simp))⟩
  unfold fewOk at hf
  rw [decide_eq_true_iff]
  constructor
  · intro h; omega
  · intro h; omega

set_option maxHeartbeats 400000 in
theorem low_r {F : Nat → Prop} {w0 : World} {s b : Value} {t : Ty} (ht : IsTy F w0 s b t) : ∀ (bases : Int) (w : World), t.size ≤ 1000000 → Keep F w0 w →
    Calls Try.prog 95 #[.agg #[s, b], .int .i64 bases] w (RetB (Ty.Low bases t) w) := by
  induction ht with
  | mk a n c b args bl off A N C B hn hm ha h1 h2 h3 ih =>
  intro bases w hsz hw
  clear h3 hm
  subst hn
  have hlen : args.length ≤ 1000000 := by have := Ty.length_lt (l := args) (b := b); omega
  have Hsz : Hid (∀ i (h : i < args.length), args[i].size ≤ 1000000) := fun i h => by
    have := Ty.size_get (b := b) i h; omega
  have Hlow : Hid (Ty.Low bases (.mk args b) ↔ 0 ≤ b ∧ b < bases ∧ ∀ t ∈ args, Ty.Low bases t) := Ty.low_iff
  have Hih := Lib.hid ih; clear ih hsz
  by_cases hb0 : b < 0
  · skip
    go_enter Try.func95, Try.ntmps95
    go_wp2_with fail
    go_ret
    refine ⟨false, ?_, rfl, (Below.refl _ _).alloc (Nat.le_refl _) _⟩
    rw [Hlow.out]; simp; omega
  by_cases hb1 : bases ≤ b
  · skip
    go_enter Try.func95, Try.ntmps95
    go_wp2_with fail
    go_ret
    refine ⟨false, ?_, rfl, (Below.refl _ _).alloc (Nat.le_refl _) _⟩
    rw [Hlow.out]; simp; omega
  go_enter Try.func95, Try.ntmps95
  go_wp2_with fail
  go_loopw [5] (fun i wr => ∃ k : Nat, i = .int .i64 k ∧ k ≤ args.length ∧ (∀ t ∈ args.take k, Ty.Low bases t) ∧ Below w.heap.size w wr ∧ Blk wr w.heap.size #[.slice a args.length c, .int .i64 b] 26) (fun i _ => args.length - (intOf i).toNat)
  case atStart => exact ⟨0, rfl, by omega, by simp, (Below.refl _ _).alloc (Nat.le_refl _) _, Blk.new _ _ _ rfl⟩
  case round =>
    obtain ⟨k, rfl, hk, hall, hb, hbox⟩ := hrel
    have Hall := Lib.hid hall; clear hall
    have c0 : wr.cell? ⟨w.heap.size, 0, none⟩ = some (.slice a args.length c) := hbox.cell rfl
    have hlt0 := hbox.lt
    by_cases hlt : k < args.length
    · obtain ⟨rfl, hF⟩ := ha (by omega)
      have e1 : wr.cell? ⟨bl, off + k * 2, none⟩ = some (.slice (A k) (N k) (C k)) := (hw.below hb) _ _ _ hF (h1 k hlt)
      have e2 : wr.cell? ⟨bl, off + k * 2 + 1, none⟩ = some (.int .i64 (B k)) := (hw.below hb) _ _ _ hF (h2 k hlt)
      go_wp2_with fail
      refine (Hih.out k hlt _ _ (Hsz.out k hlt) (hw.below hb)).mono ?_
      rintro e w1 ⟨r, hr, rfl, hb2⟩
      cases r
      · have Hr := Lib.hid (no_of hr); clear hr
        go_wp2_with fail
        go_ret
        refine ⟨false, ?_, rfl, hb.trans (hb2.mono (by omega))⟩
        rw [Hlow.out]; simp
        intro _ _
        exact ⟨args[k], List.getElem_mem hlt, Hr.out⟩
      · have Hr := Lib.hid (yes_of hr); clear hr
        go_wp2_with fail
        go_roundw
        case rel => exact ⟨k + 1, by go_num, by omega, Ty.forall_take_succ hlt Hall.out Hr.out, hb.trans (hb2.mono (by omega)), hbox.below hb2⟩
        case measure => simp [intOf]; omega
    · go_wp2_with fail
      go_ret
      refine ⟨true, ?_, rfl, hb⟩
      rw [Hlow.out]; simp
      have h := Hall.out
      rw [List.take_of_length_le (by omega)] at h
      exact ⟨by omega, by omega, h⟩

set_option maxHeartbeats 400000 in
theorem right_r {F : Nat → Prop} {w : World} {s b : Value} {t : Ty} (ht : IsTy F w s b t) (bases : Int) :
    Calls Try.prog 33 #[.agg #[s, b], .int .i64 bases] w (RetB (t.size ≤ 1000 ∧ t.depth ≤ 60 ∧ Ty.Low bases t) w) := by
  cases ht with
  | mk a n c b args bl off A N C B hn hm ha h1 h2 h3 =>
  have Ht : Hid (IsTy F w (.slice a n c) (.int .i64 b) (.mk args b)) := IsTy.mk a n c b args bl off A N C B hn hm ha h1 h2 h3
  clear hn hm ha h1 h2 h3
  go_enter Try.func33, Try.ntmps33
  go_wp2_with fail
  refine (Few_any (Ht.out.keep ((Keep.refl _ _).alloc _)) 1000 60 (by omega) (by omega) (by omega) (by omega)).mono ?_
  rintro e w1 ⟨r, hr, rfl, hb1⟩
  have hB : Below w.heap.size w w1 := ((Below.refl _ _).alloc (Nat.le_refl _) _).trans (hb1.mono (by simp))
  cases r
  · have Hr := Lib.hid (no_of hr); clear hr
    go_wp2_with fail
    go_ret
    refine ⟨false, ?_, rfl, hB⟩
    simp
    intro h1 h2
    exact absurd ⟨by omega, by omega⟩ Hr.out
  · have Hr := Lib.hid (yes_of hr); clear hr
    have c0 := ((Blk.new w #[.slice a n c, .int .i64 b] 26 rfl).below hb1)
    have c1 : w1.cell? ⟨w.heap.size, 0, none⟩ = some (.slice a n c) := c0.cell rfl
    have c2 : w1.cell? ⟨w.heap.size, 1, none⟩ = some (.int .i64 b) := c0.cell rfl
    go_wp2_with fail
    refine (low_r Ht.out bases _ (by have := Hr.out; omega) (((Keep.refl _ _).alloc _).below hb1)).mono ?_
    rintro e w2 ⟨r, hr2, rfl, hb2⟩
    go_wp2_with fail
    go_ret
    have := Hr.out
    exact ⟨r, by rw [hr2]; exact ⟨fun h => ⟨by omega, by omega, h⟩, fun h => h.2.2⟩, rfl, hB.trans (hb2.mono hB.size)⟩
end Go.Proofs.Ytejpgifofkiofaa

namespace Go.Proofs.Ytejpgifofkiofaa
open Go.RowKit

theorem take_eq_succ {α : Type} {l r : List α} {k : Nat} (hl : k < l.length) (hr : k < r.length) (h : l.take k = r.take k) (h' : l[k] = r[k]) : l.take (k + 1) = r.take (k + 1) := by
  rw [List.take_succ_eq_append_getElem hl, List.take_succ_eq_append_getElem hr, h, h']

set_option maxHeartbeats 1000000 in
theorem same_r {F : Nat → Prop} {w0 : World} {s b : Value} {t : Ty} (ht : IsTy F w0 s b t) : ∀ {F' : Nat → Prop} {w0' : World} {s' b' : Value} {u : Ty} (_ : IsTy F' w0' s' b' u) (w : World), Keep F w0 w → Keep F' w0' w →
    Calls Try.prog 40 #[.agg #[s, b], .agg #[s', b']] w (RetB (t = u) w) := by
  induction ht with
  | mk a n c b args bl off A N C B hn hm ha h1 h2 h3 ih =>
  intro F' w0' s' b' u hu w hw hw'
  cases hu with
  | mk a' n' c' b' args' bl' off' A' N' C' B' hn' hm' ha' h1' h2' h3' =>
  clear h3
  subst hn
  subst hn'
  unfold maxLen at hm hm'
  have Hih := Lib.hid ih; clear ih
  have Hu := Lib.hid h3'; clear h3'
  by_cases hbb : b = b'
  rotate_left
  · have hg : (b == b') = false := by simpa using hbb
    have hg' : (b != b') = true := by simpa using hbb
    go_enter Try.func40, Try.ntmps40
    go_wp2_with fail
    go_ret
    exact ⟨false, by simp [hbb], rfl, ((Below.refl _ _).alloc (Nat.le_refl _) _).alloc (by simp) _⟩
  subst hbb
  by_cases hll : args.length = args'.length
  rotate_left
  · have hg : ((args.length : Int) == (args'.length : Int)) = false := by simpa using by omega
    have hg' : ((args.length : Int) != (args'.length : Int)) = true := by simpa using by omega
    go_enter Try.func40, Try.ntmps40
    go_wp2_with fail
    go_ret
    refine ⟨false, ?_, rfl, ((Below.refl _ _).alloc (Nat.le_refl _) _).alloc (by simp) _⟩
    simp; intro h; rw [h] at hll; exact hll rfl
  have Hll := Lib.hid hll
  have hg : ((args.length : Int) == (args'.length : Int)) = true := by simpa using by omega
  have hg' : ((args.length : Int) != (args'.length : Int)) = false := by simpa using by omega
  clear hll
  go_enter Try.func40, Try.ntmps40
  go_wp2_with fail
  go_loopw [5] (fun i wr => ∃ k : Nat, i = .int .i64 k ∧ k ≤ args.length ∧ Hid (args.take k = args'.take k) ∧ Below w.heap.size w wr ∧ Blk wr w.heap.size #[.slice a args.length c, .int .i64 b] 26 ∧ Blk wr (w.heap.size + 1) #[.slice a' args'.length c', .int .i64 b] 26) (fun i _ => args.length - (intOf i).toNat)
  case atStart => exact ⟨0, rfl, by omega, rfl, ((Below.refl _ _).alloc (Nat.le_refl _) _).alloc (by simp) _, (Blk.new _ _ _ rfl).alloc _, Blk.new _ _ _ (by simp)⟩
  case round =>
    obtain ⟨k, rfl, hk, hall, hb, hbox, hbox'⟩ := hrel
    have c0 : wr.cell? ⟨w.heap.size, 0, none⟩ = some (.slice a args.length c) := hbox.cell rfl
    have c0' : wr.cell? ⟨w.heap.size + 1, 0, none⟩ = some (.slice a' args'.length c') := hbox'.cell rfl
    have hlt0 := hbox'.lt
    by_cases hlt : k < args.length
    · have hlt' : k < args'.length := by rw [← Hll.out]; exact hlt
      obtain ⟨rfl, hF⟩ := ha (by omega)
      obtain ⟨rfl, hF'⟩ := ha' (by omega)
      have e1 : wr.cell? ⟨bl, off + k * 2, none⟩ = some (.slice (A k) (N k) (C k)) := (hw.below hb) _ _ _ hF (h1 k hlt)
      have e2 : wr.cell? ⟨bl, off + k * 2 + 1, none⟩ = some (.int .i64 (B k)) := (hw.below hb) _ _ _ hF (h2 k hlt)
      have e1' : wr.cell? ⟨bl', off' + k * 2, none⟩ = some (.slice (A' k) (N' k) (C' k)) := (hw'.below hb) _ _ _ hF' (h1' k hlt')
      have e2' : wr.cell? ⟨bl', off' + k * 2 + 1, none⟩ = some (.int .i64 (B' k)) := (hw'.below hb) _ _ _ hF' (h2' k hlt')
      have i0 : (0 : Int) ≤ (k : Int) := Int.natCast_nonneg _
      have i1 : (k : Int) < (args.length : Int) := by omega
      have i2 : (k : Int) < (args'.length : Int) := by omega
      go_wp2_with fail
      refine wp_region_noPanic (wp_region_need (S := fun w' => w'.cell? ⟨w.heap.size, 0, none⟩ = some (.slice (some ⟨bl, off, none⟩) args.length c) ∧ w'.cell? ⟨w.heap.size + 1, 0, none⟩ = some (.slice (some ⟨bl', off', none⟩) args'.length c') ∧ w'.cell? ⟨bl, off + k * 2, none⟩ = some (.slice (A k) (N k) (C k)) ∧ w'.cell? ⟨bl, off + k * 2 + 1, none⟩ = some (.int .i64 (B k)) ∧ w'.cell? ⟨bl', off' + k * 2, none⟩ = some (.slice (A' k) (N' k) (C' k)) ∧ w'.cell? ⟨bl', off' + k * 2 + 1, none⟩ = some (.int .i64 (B' k))) (by kernel_rfl) ?_)
      have hS : (wr.drew).cell? ⟨w.heap.size, 0, none⟩ = some (.slice (some ⟨bl, off, none⟩) args.length c) ∧ (wr.drew).cell? ⟨w.heap.size + 1, 0, none⟩ = some (.slice (some ⟨bl', off', none⟩) args'.length c') ∧ (wr.drew).cell? ⟨bl, off + k * 2, none⟩ = some (.slice (A k) (N k) (C k)) ∧ (wr.drew).cell? ⟨bl, off + k * 2 + 1, none⟩ = some (.int .i64 (B k)) ∧ (wr.drew).cell? ⟨bl', off' + k * 2, none⟩ = some (.slice (A' k) (N' k) (C' k)) ∧ (wr.drew).cell? ⟨bl', off' + k * 2 + 1, none⟩ = some (.int .i64 (B' k)) := ⟨c0, c0', e1, e2, e1', e2'⟩
      refine wpN_take (i := 0) (v := ?v1) rfl (by kernel_rfl) (fun _ _ _ h => h) hS (Or.inl ⟨by rfl, ?hy1⟩) ?hr1
      case hy1 => (intro wS hSw; (try dsimp only at hSw); go_simp; (try with_reducible rfl))
      try simp only [Act.put, List.setIfInBounds_toArray, List.set_cons_zero, List.set_cons_succ]
      refine wpN_take (i := 1) (v := ?v2) rfl (by kernel_rfl) (fun _ _ _ h => h) hS (Or.inl ⟨by rfl, ?hy2⟩) ?hr2
      case hy2 => (intro wS hSw; (try dsimp only at hSw); go_simp; (try with_reducible rfl))
      try simp only [Act.put, List.setIfInBounds_toArray, List.set_cons_zero, List.set_cons_succ]
      refine wpN_take (i := 2) (v := ?v3) rfl (by kernel_rfl) (fun _ _ _ h => h) hS (Or.inl ⟨by rfl, ?hy3⟩) ?hr3
      case hy3 => (intro wS hSw; (try dsimp only at hSw); go_simp; (try with_reducible rfl))
      try simp only [Act.put, List.setIfInBounds_toArray, List.set_cons_zero, List.set_cons_succ]
      refine wpN_take (i := 3) (v := ?v4) rfl (by kernel_rfl) (fun _ _ _ h => h) hS (Or.inl ⟨by rfl, ?hy4⟩) ?hr4
      case hy4 => (intro wS hSw; (try dsimp only at hSw); go_simp; (try with_reducible rfl))
      try simp only [Act.put, List.setIfInBounds_toArray, List.set_cons_zero, List.set_cons_succ]
      refine wpN_take (i := 4) (v := ?v5) rfl (by kernel_rfl) (fun _ _ _ h => h) hS (Or.inl ⟨by rfl, ?hy5⟩) ?hr5
      case hy5 => (intro wS hSw; (try dsimp only at hSw); go_simp; (try with_reducible rfl))
      try simp only [Act.put, List.setIfInBounds_toArray, List.set_cons_zero, List.set_cons_succ]
      refine wpN_take (i := 5) (v := ?v6) rfl (by kernel_rfl) (fun _ _ _ h => h) hS (Or.inl ⟨by rfl, ?hy6⟩) ?hr6
      case hy6 => (intro wS hSw; (try dsimp only at hSw); go_simp; (try with_reducible rfl))
      try simp only [Act.put, List.setIfInBounds_toArray, List.set_cons_zero, List.set_cons_succ]
      refine wpN_take (i := 6) (v := ?v7) rfl (by kernel_rfl) (fun _ _ _ h => h) hS (Or.inl ⟨by rfl, ?hy7⟩) ?hr7
      case hy7 => (intro wS hSw; (try dsimp only at hSw); go_simp; (try with_reducible rfl))
      try simp only [Act.put, List.setIfInBounds_toArray, List.set_cons_zero, List.set_cons_succ]
      refine wpN_take (i := 7) (v := ?v8) rfl (by kernel_rfl) (fun _ _ _ h => h) hS (Or.inl ⟨by rfl, ?hy8⟩) ?hr8
      case hy8 => (intro wS hSw; (try dsimp only at hSw); go_simp; (try with_reducible rfl))
      try simp only [Act.put, List.setIfInBounds_toArray, List.set_cons_zero, List.set_cons_succ]
      refine wpN_take (i := 8) (v := ?v9) rfl (by kernel_rfl) (fun _ _ _ h => h) hS (Or.inl ⟨by rfl, ?hy9⟩) ?hr9
      case hy9 => (intro wS hSw; (try dsimp only at hSw); go_simp; (try with_reducible rfl))
      try simp only [Act.put, List.setIfInBounds_toArray, List.set_cons_zero, List.set_cons_succ]
      refine wpN_take (i := 9) (v := ?v10) rfl (by kernel_rfl) (fun _ _ _ h => h) hS (Or.inl ⟨by rfl, ?hy10⟩) ?hr10
      case hy10 => (intro wS hSw; (try dsimp only at hSw); go_simp; (try with_reducible rfl))
      try simp only [Act.put, List.setIfInBounds_toArray, List.set_cons_zero, List.set_cons_succ]
      refine wpN_step (i := 10) (by kernel_rfl) rfl (fun K hK => ?_)
      go_simp
      refine (Hih.out k hlt (Hu.out k hlt') _ (hw.below hb).drew (hw'.below hb).drew).mono ?_
      rintro e w1 ⟨r, hr, rfl, hb1⟩
      have hB : Below w.heap.size w w1 := hb.drew.trans (hb1.mono (by simp; omega))
      have hKp : Keep (fun _ => True) wr w1 := ((Keep.refl _ _).drew).below hb1
      have hS : (w1).cell? ⟨w.heap.size, 0, none⟩ = some (.slice (some ⟨bl, off, none⟩) args.length c) ∧ (w1).cell? ⟨w.heap.size + 1, 0, none⟩ = some (.slice (some ⟨bl', off', none⟩) args'.length c') ∧ (w1).cell? ⟨bl, off + k * 2, none⟩ = some (.slice (A k) (N k) (C k)) ∧ (w1).cell? ⟨bl, off + k * 2 + 1, none⟩ = some (.int .i64 (B k)) ∧ (w1).cell? ⟨bl', off' + k * 2, none⟩ = some (.slice (A' k) (N' k) (C' k)) ∧ (w1).cell? ⟨bl', off' + k * 2 + 1, none⟩ = some (.int .i64 (B' k)) := ⟨hKp _ _ _ trivial c0, hKp _ _ _ trivial c0', hKp _ _ _ trivial e1, hKp _ _ _ trivial e2, hKp _ _ _ trivial e1', hKp _ _ _ trivial e2'⟩
      have hx := Blk.below (w := wr.drew) hbox hb1
      have hx' := Blk.below (w := wr.drew) hbox' hb1
      cases r
      · have Hr := Lib.hid (no_of hr); clear hr
        refine hK.out _ _ (fun _ => hS) ?_
        clear hK K
        try simp only [Act.put, List.setIfInBounds_toArray, List.set_cons_zero, List.set_cons_succ]
        refine wpN_take (i := 11) (v := ?v11) rfl (by kernel_rfl) (fun _ _ _ h => h) hS (Or.inl ⟨by rfl, ?hy11⟩) ?hr11
        case hy11 => (intro wS hSw; (try dsimp only at hSw); go_simp; (try with_reducible rfl))
        try simp only [Act.put, List.setIfInBounds_toArray, List.set_cons_zero, List.set_cons_succ]
        refine wpN_done (by kernel_rfl) ?_
        refine NoPanic.normal ?_
        go_wp2_with fail
        go_ret
        refine ⟨false, ?_, rfl, hB⟩
        simp
        intro h
        subst h
        exact Hr.out rfl
      · have Hr := Lib.hid (yes_of hr); clear hr
        refine hK.out _ _ (fun _ => hS) ?_
        clear hK K
        try simp only [Act.put, List.setIfInBounds_toArray, List.set_cons_zero, List.set_cons_succ]
        refine wpN_take (i := 11) (v := ?v12) rfl (by kernel_rfl) (fun _ _ _ h => h) hS (Or.inl ⟨by rfl, ?hy12⟩) ?hr12
        case hy12 => (intro wS hSw; (try dsimp only at hSw); go_simp; (try with_reducible rfl))
        try simp only [Act.put, List.setIfInBounds_toArray, List.set_cons_zero, List.set_cons_succ]
        refine wpN_done (by kernel_rfl) ?_
        refine NoPanic.normal ?_
        go_wp2_with fail
        go_roundw
        case rel => exact ⟨k + 1, by go_num, by omega, take_eq_succ hlt hlt' hall.out Hr.out, hB, hx, hx'⟩
        case measure => simp [intOf]; omega
    · go_wp2_with fail
      go_ret
      refine ⟨true, ?_, rfl, hb⟩
      have h := hall.out
      rw [List.take_of_length_le (by omega), List.take_of_length_le (by rw [← Hll.out]; omega)] at h
      simp [h]
end Go.Proofs.Ytejpgifofkiofaa

namespace Go.Proofs.Ytejpgifofkiofaa
open Go.RowKit Go.Shelf
attribute [local go_sem] Oper.semAt_some

theorem room_none {F : Fence} (hd : F.depth = none) (k : Nat) : F.room k := fun d h => by rw [hd] at h; cases h
theorem round_any {F : Fence} (hd : F.depth = none) {m m' : Nat} {P : Program} {l : Nat} {f : FuncId} {tmps : Array Value} {assign body : Code} {w : World} {R : Ending → World → Prop}
    (h : RoundIn F m P l f tmps assign body w R) : RoundIn F m' P l f tmps assign body w R := ⟨h.1, fun c cs _ => h.2 c cs (room_none hd _)⟩
theorem yield_any {F : Fence} (hd : F.depth = none) {m : Nat} (m' : Nat) {P : Program} {l : Nat} {args : Array Value} {W : World} {R : Ending → World → Prop} (h : YieldAt F m P l args W R) : YieldAt F m' P l args W R := by
  obtain ⟨fn, tmps, assign, body, hy, hR⟩ := h
  exact ⟨fn, tmps, assign, body, hy, round_any hd hR⟩

structure KeepC (G : Nat → TypeId → Prop) (A B : World) : Prop where
  size : A.heap.size ≤ B.heap.size
  cells : ∀ k cs t fr, G k t → A.heap[k]? = some (.cells cs t fr) → B.heap[k]? = some (.cells cs t fr)
namespace KeepC
variable {G : Nat → TypeId → Prop} {A B C : World}
theorem refl (G : Nat → TypeId → Prop) (A : World) : KeepC G A A := ⟨Nat.le_refl _, fun _ _ _ _ _ h => h⟩
theorem trans (h : KeepC G A B) (h' : KeepC G B C) : KeepC G A C := ⟨Nat.le_trans h.size h'.size, fun k cs t fr hk hc => h'.cells k cs t fr hk (h.cells k cs t fr hk hc)⟩
theorem below (h : KeepC G A B) (hb : Below B.heap.size B C) : KeepC G A C := h.trans ⟨hb.size, fun k _ _ _ _ hc => (hb.block k (Array.getElem?_eq_some_iff.1 hc).1).trans hc⟩
theorem alloc (h : KeepC G A B) (o : Obj) : KeepC G A (B.alloc o) := h.below ((Below.refl _ _).alloc (Nat.le_refl _) _)
theorem setCell (h : KeepC G A B) (p : Addr) (u : Value) (hp : ∀ t, ¬ G p.block t) : KeepC G A (B.setCell p u) :=
  h.trans ⟨by simp, fun k cs t fr hk hc => (Below.heap_setCell _ _ _ _ (fun e => hp _ (e ▸ hk))).trans hc⟩
theorem putObj (G : Nat → TypeId → Prop) (W : World) (l : Nat) (o o' : Obj) (hl : W.heap[l]? = some o) (ho : o.isCells = false) : KeepC G W (W.putObj l o') :=
  ⟨by simp, fun k cs t fr _ hc => by
    have hne : k ≠ l := fun e => by subst e; rw [hl] at hc; cases hc; simp [Obj.isCells] at ho
    exact (World.putObj_heap_other hne).trans hc⟩
theorem keep {F : Nat → Prop} (h : KeepC G A B) (hF : ∀ k t, F k → k < A.heap.size → G k t) : Keep F A B := fun k o v hk hv => by
  have hlt := Keep.lt hv
  simp only [World.cell?] at hv ⊢
  cases hc : A.heap[k]? with
  | none => rw [hc] at hv; simp at hv
  | some x =>
    cases x with
    | cells cs t fr => rw [h.cells k cs t fr (hF k t hk hlt) hc]; rw [hc] at hv; exact hv
    | _ => rw [hc] at hv; simp at hv
theorem keep' {F : Nat → Prop} {w0 : World} (h : KeepC G A B) (hw : Keep F w0 A) (hF : ∀ k t, F k → k < w0.heap.size → G k t) : Keep F w0 B := fun k o v hk hv =>
  (h.keep (F := fun q => F q ∧ q < w0.heap.size) fun q t hq _ => hF q t hq.1 hq.2) k o v ⟨hk, Keep.lt hv⟩ (hw k o v hk hv)
theorem blk (h : KeepC G A B) {n : Nat} {cs : Array Value} {t : TypeId} (hb : Blk A n cs t) (hn : G n t) : Blk B n cs t := h.cells n cs t (0, 0) hn hb
end KeepC

namespace Ty
mutual
def pre : Ty → Nat → List (Nat × Ty)
  | .mk l b, d => (d, .mk l b) :: pres l (d + 1)
def pres : List Ty → Nat → List (Nat × Ty)
  | [], _ => []
  | t :: l, d => pre t d ++ pres l d
end
theorem pres_append (l r : List Ty) (d : Nat) : pres (l ++ r) d = pres l d ++ pres r d := by
  induction l with
  | nil => simp [pres]
  | cons t l ih => simp [pres, ih]
theorem pres_take (l : List Ty) (i d : Nat) (h : i < l.length) : pres (l.take (i + 1)) d = pres (l.take i) d ++ pre l[i] d := by
  rw [List.take_succ_eq_append_getElem h, pres_append]; simp [pres]
theorem pres_take_le (l : List Ty) (i d : Nat) : pres (l.take i) d <+: pres l d := by
  conv => rhs; rw [← List.take_append_drop i l]
  rw [pres_append]; exact List.prefix_append _ _
theorem pre_length (t : Ty) : ∀ d, (pre t d).length = t.size := by
  induction t using Ty.ind with
  | h args base ih =>
    intro d
    have : ∀ l : List Ty, (∀ t ∈ l, ∀ d, (pre t d).length = t.size) → ∀ d, (pres l d).length = sizes l := by
      intro l
      induction l with
      | nil => intro _ d; simp [pres, sizes]
      | cons t l ih2 => intro h d; simp [pres, sizes, h t (by simp) d, ih2 (fun t ht => h t (by simp [ht])) d]
    simp [pre, size, this args ih (d + 1)]
theorem pres_length (l : List Ty) (d : Nat) : (pres l d).length = sizes l := by
  induction l with
  | nil => simp [pres, sizes]
  | cons t l ih => simp [pres, sizes, pre_length, ih]
end Ty

structure Hit (F : Nat → Prop) (w : World) where
  d : Nat
  a : Option Addr
  n : Nat
  c : Nat
  b : Int
  t : Ty
  ok : IsTy F w (.slice a n c) (.int .i64 b) t
  sz : t.size ≤ 1000000
def Hit.key {F : Nat → Prop} {w : World} (x : Hit F w) : Nat × Ty := (x.d, x.t)
def Hit.enc {F : Nat → Prop} {w : World} (x : Hit F w) : Array Value := #[.int .i64 x.d, .agg #[.slice x.a x.n x.c, .int .i64 x.b]]

def DownPost {F : Nat → Prop} {w0 : World} (G : Nat → TypeId → Prop) (J Jx : List (Hit F w0) → World → Prop) (pre : List (Hit F w0)) (l : List (Nat × Ty)) (W : World) (e : Ending) (W' : World) : Prop :=
  (e = .returned (.bool true) ∧ KeepC G W W' ∧ ∃ xs, xs.map Hit.key = l ∧ J (pre ++ xs) W') ∨ (e = .returned (.bool false) ∧ ∃ xs, xs.map Hit.key <+: l ∧ Jx (pre ++ xs) W')

set_option maxRecDepth 100000 in
set_option maxHeartbeats 1000000 in
theorem down_k {F : Nat → Prop} {w0 : World} (G : Nat → TypeId → Prop) (hGF : ∀ k t, F k → k < w0.heap.size → G k t) (l N : Nat) (hN0 : N ≤ 1000000) (J Jx : List (Hit F w0) → World → Prop) (hJ : ∀ p W o, J p W → J p (W.alloc o))
    (hY : ∀ m pre x W, J pre W → pre.length < N → YieldAt Fence.wide m Try.prog l (Hit.enc x) W fun e W' =>
      (e = .returned (.bool true) ∧ J (pre ++ [x]) W' ∧ KeepC G W W') ∨ (e = .returned (.bool false) ∧ Jx (pre ++ [x]) W'))
    {s b : Value} {t : Ty} (ht : IsTy F w0 s b t) : ∀ (n d : Nat) (di : Int) (pre : List (Hit F w0)) (W : World), di = d → (∀ k t, W.heap.size ≤ k → t ≠ 3 → G k t) → Keep F w0 W → J pre W → pre.length + t.size ≤ N → d + t.depth ≤ 1000000 →
      CallsIn Fence.wide n Try.prog 114 #[.agg #[s, b], .int .i64 di, .func (.yield l) #[] #[]] W (DownPost G J Jx pre (t.pre d) W) := by
  induction ht with
  | mk a n c b args bl off A N' C B hn hm ha h1 h2 h3 ih =>
  intro nn d di pre W hdi hG hw hJ0 hN hd
  subst hdi
  have ht : IsTy F w0 (.slice a n c) (.int .i64 b) (.mk args b) := IsTy.mk a n c b args bl off A N' C B hn hm ha h1 h2 h3
  clear h3 hm
  subst hn
  have Hsz0 : Hid ((Ty.mk args b).size ≤ 1000000) := by show _ ≤ _; omega
  have hdd : ∀ k : Nat, (Fence.wide.depth.isSome = true → 1 ≤ k) := fun k h => by cases h
  have hlen : args.length ≤ 1000000 := by have := Ty.length_lt (l := args) (b := b); omega
  obtain ⟨fn, tmps, assign, body, hy, hR⟩ := hY (nn - 1) pre ⟨d, _, _, _, _, _, ht, Hsz0.out⟩ (W.alloc (.cells #[.slice a args.length c, .int .i64 b] 40)) (hJ _ _ _ hJ0) (by have := Ty.size_pos (.mk args b); omega)
  dsimp only [Hit.enc] at hy
  refine callsIn_of_wp Try.func114 rfl trivial ?_ rfl
  simp only [Try.ntmps114, List.size_toArray, List.length_cons, List.length_nil, Nat.reduceAdd, Nat.reduceSub, Array.replicate_succ, Array.replicate_zero, List.push_toArray, List.append_toArray, List.nil_append, List.cons_append]
  gi_wp2_with fail
  refine ⟨hdd _, hR.mono ?_⟩
  rintro e W1 (⟨rfl, hJ1, hk1⟩ | ⟨rfl, hx1⟩)
  rotate_left
  · gi_wp2_with fail
    go_ret
    exact .inr ⟨rfl, [⟨d, _, _, _, _, _, ht, Hsz0.out⟩], ⟨Ty.pres args (d + 1), by simp [Hit.key, Ty.pre]⟩, hx1⟩
  have hk0 : KeepC G W W1 := ((KeepC.refl G W).alloc _).trans hk1
  have hbox : Blk W1 W.heap.size #[.slice a args.length c, .int .i64 b] 40 := hk1.blk (Blk.new _ _ _ rfl) (hG _ _ (Nat.le_refl _) (by decide))
  have c0 : W1.cell? ⟨W.heap.size, 0, none⟩ = some (.slice a args.length c) := hbox.cell rfl
  have Hih := Lib.hid ih; clear ih
  have hG' := Lib.hid hG; clear hG
  have hN' := Lib.hid hN; clear hN
  have hd' := Lib.hid hd; clear hd
  have Ht := Lib.hid ht
  have hJ1' := Lib.hid hJ1
  clear hR hy hY
  gi_wp2_with fail
  gi_loopw [8, 17] (fun _ i wr => ∃ (k : Nat) (xs : List (Hit F w0)), i = .int .i64 k ∧ k ≤ args.length ∧ Hid (xs.map Hit.key = Ty.pres (args.take k) (d + 1)) ∧ J (pre ++ [⟨d, _, _, _, _, _, Ht.out, Hsz0.out⟩] ++ xs) wr ∧ KeepC G W wr) (fun _ i _ => args.length - (intOf i).toNat)
  case atStart => exact ⟨0, [], rfl, by omega, by simp [Hid, Ty.pres], by simpa using hJ1, hk0⟩
  case round =>
    obtain ⟨k, xs, rfl, hk, hxs, hJr, hkr⟩ := hrel
    have Hkr := Lib.hid hkr
    have HJr := Lib.hid hJr; clear hJr
    have hsz := hkr.size
    by_cases hlt : k < args.length
    · obtain ⟨rfl, hF⟩ := ha (by omega)
      have hKp : Keep F w0 wr := hkr.keep' hw hGF
      have e1 : wr.cell? ⟨bl, off + k * 2, none⟩ = some (.slice (A k) (N' k) (C k)) := hKp _ _ _ hF (h1 k hlt)
      have e2 : wr.cell? ⟨bl, off + k * 2 + 1, none⟩ = some (.int .i64 (B k)) := hKp _ _ _ hF (h2 k hlt)
      have hdb : (d : Int) ≤ 1000000 := by have := hd'.out; omega
      have hs1 := Lib.hid (Ty.sizes_take args k hlt)
      have hs2 := Lib.hid (Ty.sizes_take_le args (k + 1))
      have hl : Hid (xs.length = Ty.sizes (args.take k)) := by
        show _ = _
        have := congrArg List.length hxs.out
        rw [List.length_map] at this
        rw [this, Ty.pres_length]
      gi_wp2_with fail
      refine ⟨trivial, hdd _, (Hih.out k hlt (nn - 1) (d + 1) ((d : Int) + 1) _ _ (by omega) (fun q t hq ht => hG'.out q t (by simp at hq; omega) ht) (hKp.alloc _) (hJ _ _ _ HJr.out) ?_ ?_).mono ?_⟩
      · have := hN'.out; have := hl.out; have := hs1.out; have := hs2.out; simp [Ty.size_eq] at *; omega
      · have := hd'.out; have := Ty.depth_get (b := b) k hlt; omega
      rintro e W2 (⟨rfl, hk2, ys, hys, hJ2⟩ | ⟨rfl, ys, hys, hx2⟩)
      · have HJ2 := Lib.hid hJ2; clear hJ2
        have Hys := Lib.hid hys; clear hys
        gi_wp2_with fail
        go_roundw
        case rel => exact ⟨k + 1, xs ++ ys, by go_num, by omega, by show _ = _; rw [List.map_append, hxs.out, Hys.out, Ty.pres_take _ _ _ hlt], by rw [← List.append_assoc]; exact HJ2.out, (Hkr.out.alloc _).trans hk2⟩
        case measure => simp [intOf]; omega
      · have Hys := Lib.hid hys; clear hys
        have Hx2 := Lib.hid hx2; clear hx2
        gi_wp2_with fail
        go_ret
        refine .inr ⟨rfl, ⟨d, _, _, _, _, _, Ht.out, Hsz0.out⟩ :: (xs ++ ys), ?_, by simpa using Hx2.out⟩
        obtain ⟨r, hr⟩ := Hys.out
        have hp := Ty.pres_take args k (d + 1) hlt
        rw [← hr] at hp
        obtain ⟨q, hq⟩ := Ty.pres_take_le args (k + 1) (d + 1)
        refine ⟨r ++ q, ?_⟩
        simp only [Ty.pre, List.map_cons, List.map_append, Hit.key, List.cons_append]
        rw [← hq, hp, ← hxs.out]
        simp [Hit.key, Function.comp_def]
    · gi_wp2_with fail
      go_ret
      refine .inl ⟨rfl, Hkr.out, ⟨d, _, _, _, _, _, Ht.out, Hsz0.out⟩ :: xs, ?_, by simpa using HJr.out⟩
      have h := hxs.out
      rw [List.take_of_length_le (by omega)] at h
      simp [Ty.pre, Hit.key, ← h]

theorem each1_k {F : Nat → Prop} {w0 : World} (G : Nat → TypeId → Prop) (hGF : ∀ k t, F k → k < w0.heap.size → G k t) (l : Nat) (J Jx : List (Hit F w0) → World → Prop) (hJ : ∀ p W o, J p W → J p (W.alloc o))
    {s b : Value} {t : Ty} (ht : IsTy F w0 s b t) (hsz : t.size ≤ 500000) (n : Nat)
    (hY : ∀ pre x W, J pre W → pre.length < t.size → YieldAt Fence.wide (n - 1) Try.prog l (Hit.enc x) W fun e W' =>
      (e = .returned (.bool true) ∧ J (pre ++ [x]) W' ∧ KeepC G W W') ∨ (e = .returned (.bool false) ∧ Jx (pre ++ [x]) W'))
    (W : World) (hG : ∀ k t, W.heap.size ≤ k → t ≠ 3 → G k t) (hw : Keep F w0 W) (Bt : Nat) (c0 : W.cell? ⟨Bt, 0, none⟩ = some s) (c1 : W.cell? ⟨Bt, 1, none⟩ = some b) (h0 : J [] W) :
    CallsIn Fence.wide n Try.prog 113 #[.func (.yield l) #[] #[], .pointer (some ⟨Bt, 0, none⟩)] W fun e W' => (∃ v, e = .returned v) ∧
      ((∃ ys, List.map Hit.key ys = t.pre 1 ∧ J ys W') ∨ (∃ pre, List.map Hit.key pre <+: t.pre 1 ∧ Jx pre W')) := by
  have hdd : ∀ k : Nat, (Fence.wide.depth.isSome = true → 1 ≤ k) := fun k h => by cases h
  have hp := Lib.hid (down_k G hGF l t.size (by omega) J Jx hJ (fun m pre x W hj hl => yield_any rfl m (hY pre x W hj hl)) ht (n - 1) 1 1 [] W rfl hG hw h0 (by simp) (by have := Ty.depth_le_size t; omega))
  have hG' := Lib.hid hG; clear hG hY
  obtain ⟨a, c, rfl, rfl⟩ := ht.shape
  refine callsIn_of_wp Try.func113 rfl trivial ?_ rfl
  simp only [Try.ntmps113, List.size_toArray, List.length_cons, List.length_nil, Nat.reduceAdd, Nat.reduceSub, Array.replicate_succ, Array.replicate_zero, List.push_toArray, List.append_toArray, List.nil_append, List.cons_append]
  gi_wp2_with fail
  refine ⟨trivial, hdd _, hp.out.mono ?_⟩
  rintro e W1 (⟨rfl, hk, ys, hys, hJ1⟩ | ⟨rfl, ys, hys, hx⟩)
  · have A1 := Lib.hid hys; clear hys
    gi_wp2_with fail
    go_end0
    exact ⟨⟨_, rfl⟩, .inl ⟨ys, A1.out, by simpa using hJ1⟩⟩
  · have A1 := Lib.hid hys; clear hys
    gi_wp2_with fail
    go_end0
    exact ⟨⟨_, rfl⟩, .inr ⟨ys, A1.out, by simpa using hx⟩⟩

theorem each_stops {F : Nat → Prop} {w0 : World} (G : Nat → TypeId → Prop) (hGF : ∀ k t, F k → k < w0.heap.size → G k t) {s b : Value} {t : Ty} (ht : IsTy F w0 s b t) (hsz : t.size ≤ 500000) (n : Nat)
    (w : World) (hG : ∀ k t, w.heap.size ≤ k → t ≠ 3 → G k t) (hw : Keep F w0 w) (Bt : Nat) (hB : Blk w Bt #[s, b] 40) :
    SeqStopsK Fence.wide n Try.prog 113 #[.pointer (some ⟨Bt, 0, none⟩)] (Hit.enc (F := F) (w := w0)) (KeepC G) (fun ys => ys.map Hit.key = t.pre 1) (fun p => p.map Hit.key <+: t.pre 1) t.size w :=
  fun l J Jx W hW hJ _ hY h0 => by
    have hB' := hB.below hW
    exact each1_k G hGF l J Jx (fun p W' o hj => hJ p W' _ none hj (World.grownBy_alloc W' o none) (fun r e => by cases e)) ht hsz n hY W (fun k t hk ht => hG k t (Nat.le_trans hW.size hk) ht) (hw.below hW) Bt (hB'.cell rfl) (hB'.cell rfl) h0

theorem each_k (s b : Value) (n : Nat) (w : World) (hs : ∃ a m c, s = .slice a m c) (hb : ∃ i, b = .int .i64 i) :
    CallsIn Fence.wide n Try.prog 71 #[.agg #[s, b]] w fun e w' => e = .returned (.func (.func 113) #[] #[.pointer (some ⟨w.heap.size, 0, none⟩)]) ∧ w' = w.alloc (.cells #[s, b] 40) := by
  obtain ⟨a, m, c, rfl⟩ := hs
  obtain ⟨i, rfl⟩ := hb
  refine callsIn_of_wp Try.func71 rfl trivial ?_ rfl
  simp only [Try.ntmps71, List.size_toArray, List.length_cons, List.length_nil, Nat.reduceAdd, Nat.reduceSub, Array.replicate_succ, Array.replicate_zero, List.push_toArray, List.append_toArray, List.nil_append, List.cons_append]
  gi_wp2_with fail
  go_ret
  exact ⟨rfl, rfl⟩
end Go.Proofs.Ytejpgifofkiofaa

