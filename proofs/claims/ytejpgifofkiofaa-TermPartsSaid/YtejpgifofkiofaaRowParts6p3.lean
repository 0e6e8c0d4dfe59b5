/-
  A region that draws its order: a load may be taken first where every other operation that can come up ahead of it keeps its cell; of what comes behind a store nothing is asked. The reference's size, order and depth of a type, whether its bases are low, whether two types are the same: what each hands back. Whether two types are the same, as the reference asks it.
-/
import Derived.OrdersHeld
import Derived.Deep.RegionHeld
import Derived.Deep.RegionHeld3
import Derived.Test.YtejpgifofkiofaaRowParts6p2
set_option linter.unusedVariables false
set_option linter.unusedSimpArgs false
namespace Go.Proofs.Ytejpgifofkiofaa

section
variable {P : Program} {ops : Array Oper} {Q : Exit → Act → World → Prop} {md : Region.Mode} {S : World → Prop}

def asksS (ops : Array Oper) (j : Nat) : Bool := match ops[j]? with
  | none => true
  | some o => match o.op with
    | .store .. => false
    | .assign _ => false
    | _ => true

def wpN (P : Program) (md : Region.Mode) (ops : Array Oper) (Q : Exit → Act → World → Prop) (S : World → Prop) : Nat → Array Bool → Act → World → Prop
  | 0, listed, a, w => Region.ready md ops listed = [] ∧ Q .normal a w
  | n + 1, listed, a, w =>
    (Region.ready md ops listed = [] → Q .normal a w) ∧
    ∀ i ∈ Region.ready md ops listed, wpOp P ops Q i (fun a' w' => (asksS ops i = true → S w → S w') ∧ wpN P md ops Q S n (listed.setIfInBounds i true) a' w') a w

theorem wpN_any : ∀ (n : Nat) (listed : Array Bool) (a : Act) (w : World), wpN P md ops Q S n listed a w → wpAny P md ops Q n listed a w
  | 0, _, _, _, h => h
  | n + 1, _, _, _, h => ⟨h.1, fun i hi => wpOp_mono (fun a' w' hh => wpN_any n _ a' w' hh.2) (h.2 i hi)⟩

def lateOk (md : Region.Mode) (ops : Array Oper) (listed : Array Bool) (i : Nat) : Bool :=
  (List.range ops.size).all fun j => asksS ops j || j == i || listed.getD j true || match ops[j]? with
    | some oj => oj.after.any (fun e => Region.binds md e && e.on == i)
    | none => true

theorem lateOk_spec {i : Nat} {listed : Array Bool} (h : lateOk md ops listed i = true) (j : Nat) (oj : Oper) (hj : ops[j]? = some oj) (hne : j ≠ i) (hun : listed.getD j true = false)
    (hno : ∀ e ∈ oj.after, Region.binds md e = true → e.on ≠ i) : asksS ops j = true := by
  simp only [lateOk, List.all_eq_true, List.mem_range] at h
  have h1 := h j (Array.getElem?_eq_some_iff.1 hj).1
  simp only [hj, Bool.or_eq_true, beq_iff_eq, hne, hun, or_false, Bool.false_eq_true] at h1
  rcases h1 with h1 | h1
  · exact h1
  · obtain ⟨e, he, hb⟩ := Array.any_eq_true'.1 h1
    simp only [Bool.and_eq_true, beq_iff_eq] at hb
    exact absurd hb.2 (hno e he hb.1)

theorem wpN_first {i : Nat} {oi : Oper} {v : Value} (hi : ops[i]? = some oi) (hsel : ∀ (j : Nat) (o : Oper) cs b, ops[j]? = some o → o.op ≠ .select cs b)
    (hQ : ∀ c a w, Q (.panic c) (a.put oi.dst v) w → Q (.panic c) a w) (hai : asksS ops i = true) :
    ∀ (n : Nat) (listed : Array Bool) (a : Act) (w : World),
      (∀ j oj, ops[j]? = some oj → j ≠ i → listed.getD j true = false → (∀ e ∈ oj.after, Region.binds md e = true → e.on ≠ i) → oi.apart ops oj = true ∧ asksS ops j = true) →
      i ∈ Region.ready md ops listed → YieldsIf P ops S oi v a → S w →
      wpN P md ops Q S n (listed.setIfInBounds i true) (a.put oi.dst v) w → wpN P md ops Q S (n + 1) listed a w := by
  intro n
  induction n with
  | zero =>
    intro listed a w _ hr hy hS H
    refine ⟨fun h0 => (by rw [h0] at hr; cases hr), fun j hj => ?_⟩
    by_cases hji : j = i
    · subst hji; exact hy.wpOp hi hS ⟨fun _ h => h, H⟩
    · have h0 := ready_mono hj hji
      rw [H.1] at h0; cases h0
  | succ n ih =>
    intro listed a w hfree hr hy hS H
    refine ⟨fun h0 => (by rw [h0] at hr; cases hr), fun j hj => ?_⟩
    by_cases hji : j = i
    · subst hji; exact hy.wpOp hi hS ⟨fun _ h => h, H⟩
    · have hrest := H.2 j (ready_mono hj hji)
      obtain ⟨hjun, oj, hoj, hall⟩ := mem_ready.1 hj
      have hiun := (mem_ready.1 hr).1
      have hnot : ∀ e ∈ oj.after, Region.binds md e = true → e.on ≠ i := fun e he hb heq => by
        have hl := hall e he hb
        rw [heq] at hl
        rcases Nat.lt_or_ge i listed.size with hlt | hge
        · simp [hlt] at hiun hl; rw [hiun] at hl; cases hl
        · simp [Array.getElem?_eq_none hge] at hl
      obtain ⟨hap, haj⟩ := hfree j oj hoj hji hjun hnot
      have hput := wpOp_putIf hoj hap (fun cs b => hsel i oi cs b hi) (fun cs b => hsel j oj cs b hoj) hQ hy hrest
      refine wpOp_mono (fun a' w' hh => ?_) hput
      obtain ⟨hy', hSw, hw⟩ := hh
      refine ⟨hSw, ih (listed.setIfInBounds j true) a' w' ?_ (ready_mono hr (Ne.symm hji)) hy' (hSw haj hS) ?_⟩
      · intro k ok hk hki hun hno
        refine hfree k ok hk hki ?_ hno
        by_cases hjk : j = k
        · subst hjk; exact hjun
        · rw [getD_set_ne true hjk] at hun; exact hun
      · rw [Array.setIfInBounds_comm _ _ hji]; exact hw

theorem wpN_take {i : Nat} {oi : Oper} {v : Value} {n : Nat} {listed : Array Bool} {a : Act} {w : World} (hi : ops[i]? = some oi)
    (hs : (Region.noSelect ops && Region.free md ops listed i && (Region.ready md ops listed).contains i && asksS ops i && lateOk md ops listed i) = true)
    (hQ : ∀ c a w, Q (.panic c) (a.put oi.dst v) w → Q (.panic c) a w) (hS : S w) (hy : YieldsIf P ops S oi v a)
    (h : wpN P md ops Q S n (listed.setIfInBounds i true) (a.put oi.dst v) w) : wpN P md ops Q S (n + 1) listed a w := by
  simp only [Bool.and_eq_true] at hs
  obtain ⟨⟨⟨⟨h1, h2⟩, h3⟩, h4⟩, h5⟩ := hs
  exact wpN_first hi (Region.noSelect_spec h1) hQ h4 n listed a w (fun j oj hj hne hun hno => ⟨Region.free_spec hi h2 j oj hj hne hun hno, lateOk_spec h5 j oj hj hne hun hno⟩) (by simpa using h3) hy hS h

theorem wpN_pureF {i : Nat} {oi : Oper} {v : Value} (hi : ops[i]? = some oi) (hsel : ∀ (j : Nat) (o : Oper) cs b, ops[j]? = some o → o.op ≠ .select cs b)
    (hQ : ∀ c a w, Q (.panic c) (a.put oi.dst v) w → Q (.panic c) a w) :
    ∀ (n : Nat) (listed : Array Bool) (a : Act) (w : World),
      (∀ j oj, ops[j]? = some oj → j ≠ i → listed.getD j true = false → (∀ e ∈ oj.after, Region.binds md e = true → e.on ≠ i) → oi.apart ops oj = true) →
      i ∈ Region.ready md ops listed → YieldsIf P ops (fun _ => True) oi v a →
      wpN P md ops Q S n (listed.setIfInBounds i true) (a.put oi.dst v) w → wpN P md ops Q S (n + 1) listed a w := by
  intro n
  induction n with
  | zero =>
    intro listed a w _ hr hy H
    refine ⟨fun h0 => (by rw [h0] at hr; cases hr), fun j hj => ?_⟩
    by_cases hji : j = i
    · subst hji; exact hy.wpOp hi trivial ⟨fun _ h => h, H⟩
    · have h0 := ready_mono hj hji
      rw [H.1] at h0; cases h0
  | succ n ih =>
    intro listed a w hfree hr hy H
    refine ⟨fun h0 => (by rw [h0] at hr; cases hr), fun j hj => ?_⟩
    by_cases hji : j = i
    · subst hji; exact hy.wpOp hi trivial ⟨fun _ h => h, H⟩
    · have hrest := H.2 j (ready_mono hj hji)
      obtain ⟨hjun, oj, hoj, hall⟩ := mem_ready.1 hj
      have hiun := (mem_ready.1 hr).1
      have hnot : ∀ e ∈ oj.after, Region.binds md e = true → e.on ≠ i := fun e he hb heq => by
        have hl := hall e he hb
        rw [heq] at hl
        rcases Nat.lt_or_ge i listed.size with hlt | hge
        · simp [hlt] at hiun hl; rw [hiun] at hl; cases hl
        · simp [Array.getElem?_eq_none hge] at hl
      have hap := hfree j oj hoj hji hjun hnot
      have hput := wpOp_putIf hoj hap (fun cs b => hsel i oi cs b hi) (fun cs b => hsel j oj cs b hoj) hQ hy hrest
      refine wpOp_mono (fun a' w' hh => ?_) hput
      obtain ⟨hy', hSw, hw⟩ := hh
      refine ⟨hSw, ih (listed.setIfInBounds j true) a' w' ?_ (ready_mono hr (Ne.symm hji)) hy' ?_⟩
      · intro k ok hk hki hun hno
        refine hfree k ok hk hki ?_ hno
        by_cases hjk : j = k
        · subst hjk; exact hjun
        · rw [getD_set_ne true hjk] at hun; exact hun
      · rw [Array.setIfInBounds_comm _ _ hji]; exact hw
theorem wpN_pure {i : Nat} {oi : Oper} {v : Value} {n : Nat} {listed : Array Bool} {a : Act} {w : World} (hi : ops[i]? = some oi)
    (hs : (Region.noSelect ops && Region.free md ops listed i && (Region.ready md ops listed).contains i) = true)
    (hQ : ∀ c a w, Q (.panic c) (a.put oi.dst v) w → Q (.panic c) a w) (hy : YieldsIf P ops (fun _ => True) oi v a)
    (h : wpN P md ops Q S n (listed.setIfInBounds i true) (a.put oi.dst v) w) : wpN P md ops Q S (n + 1) listed a w := by
  simp only [Bool.and_eq_true] at hs
  obtain ⟨⟨h1, h2⟩, h3⟩ := hs
  exact wpN_pureF hi (Region.noSelect_spec h1) hQ n listed a w (fun j oj hj hne hun hno => Region.free_spec hi h2 j oj hj hne hun hno) (by simpa using h3) hy h

theorem wpN_step {i : Nat} {oi : Oper} {n : Nat} {listed : Array Bool} {a : Act} {w : World} (hr : Region.ready md ops listed = [i]) (hi : ops[i]? = some oi)
    (h : ∀ K : Act → World → Prop, Shut (∀ a w, (asksS ops i = true → S w) → wpN P md ops Q S n (listed.setIfInBounds i true) a w → K a w) → if Region.wanted oi (yielded ops a.tmps) = true then Oper.wp P oi a w K Q else K (a.put oi.dst undef) w) :
    wpN P md ops Q S (n + 1) listed a w := by
  refine ⟨fun h0 => (by rw [hr] at h0; cases h0), fun j hj => ?_⟩
  rw [hr] at hj
  have : j = i := by simpa using hj
  subst this
  exact wpOp_step hi (fun K hK => h K (fun a w h1 h2 => hK a w ⟨fun ha _ => h1 ha, h2⟩))

theorem wpN_done {n : Nat} {listed : Array Bool} {a : Act} {w : World} (hr : Region.ready md ops listed = []) (h : Q .normal a w) : wpN P md ops Q S n listed a w := by
  cases n with
  | zero => exact ⟨hr, h⟩
  | succ n => exact ⟨fun _ => h, fun i hi => by rw [hr] at hi; cases hi⟩

theorem wp_region_need {id : Nat} {a : Act} {w : World} (hm : P.follows .mixedOrders = true) (h : wpN P .any ops Q S ops.size (Array.replicate ops.size false) a w.drew) : (Code.region id ops true).wp P Q a w :=
  wp_region_any hm (wpN_any _ _ _ _ h)
end
end Go.Proofs.Ytejpgifofkiofaa

namespace Go.Proofs.Ytejpgifofkiofaa
open Go.RowKit

def RetI (n : Int) (w : World) (e : Ending) (w' : World) : Prop := e = .returned (.int .i64 n) ∧ Below w.heap.size w w'
def RetB (p : Prop) (w : World) (e : Ending) (w' : World) : Prop := ∃ b : Bool, (b = true ↔ p) ∧ e = .returned (.bool b) ∧ Below w.heap.size w w'

theorem no_of {p : Prop} (h : false = true ↔ p) : ¬ p := fun hp => by simpa using h.2 hp
theorem yes_of {p : Prop} (h : true = true ↔ p) : p := h.1 rfl

namespace Ty
mutual
def order : Ty → Nat
  | .mk a _ => orders a
def orders : List Ty → Nat
  | [] => 0
  | t :: l => max (order t + 1) (orders l)
end
theorem orders_append (l r : List Ty) : orders (l ++ r) = max (orders l) (orders r) := by
  induction l with
  | nil => simp [orders]
  | cons t l ih => simp [orders, ih]
theorem orders_take (l : List Ty) (i : Nat) (h : i < l.length) : orders (l.take (i + 1)) = max (orders (l.take i)) (order l[i] + 1) := by
  rw [List.take_succ_eq_append_getElem h, orders_append]; simp [orders]
theorem orders_take_le (l : List Ty) (i : Nat) : orders (l.take i) ≤ orders l := by
  conv => rhs; rw [← List.take_append_drop i l]
  rw [orders_append]; omega
theorem order_le_depth (t : Ty) : t.order < t.depth := by
  induction t using Ty.ind with
  | h args base ih =>
    simp only [order, depth]
    have : ∀ l : List Ty, (∀ t ∈ l, t.order < t.depth) → orders l ≤ depths l := by
      intro l
      induction l with
      | nil => intro _; simp [orders]
      | cons t l ih2 => intro h; have := ih2 (fun t ht => h t (by simp [ht])); have := h t (by simp); simp [orders, depths]; omega
    have := this args ih; omega
theorem depth_le_size (t : Ty) : t.depth ≤ t.size := by
  induction t using Ty.ind with
  | h args base ih =>
    simp only [size, depth]
    have : ∀ l : List Ty, (∀ t ∈ l, t.depth ≤ t.size) → depths l ≤ sizes l := by
      intro l
      induction l with
      | nil => intro _; simp [depths]
      | cons t l ih2 => intro h; have := ih2 (fun t ht => h t (by simp [ht])); have := h t (by simp); simp [sizes, depths]; omega
    have := this args ih; omega
theorem size_eq (l : List Ty) (b : Int) : (mk l b).size = sizes l + 1 := by simp [size]
theorem depth_eq (l : List Ty) (b : Int) : (mk l b).depth = depths l + 1 := by simp [depth]
theorem order_eq (l : List Ty) (b : Int) : (mk l b).order = orders l := by simp [order]

inductive Low (bases : Int) : Ty → Prop where
  | mk (l : List Ty) (b : Int) (h0 : 0 ≤ b) (h1 : b < bases) (h : ∀ t ∈ l, Low bases t) : Low bases (.mk l b)
theorem low_iff {bases : Int} {l : List Ty} {b : Int} : Low bases (.mk l b) ↔ 0 ≤ b ∧ b < bases ∧ ∀ t ∈ l, Low bases t :=
  ⟨fun h => by cases h with | mk _ _ h0 h1 h => exact ⟨h0, h1, h⟩, fun ⟨h0, h1, h⟩ => .mk _ _ h0 h1 h⟩
theorem forall_take_succ {p : Ty → Prop} {l : List Ty} {k : Nat} (hk : k < l.length) (h : ∀ t ∈ l.take k, p t) (h' : p l[k]) : ∀ t ∈ l.take (k + 1), p t := by
  intro t ht
  rw [List.take_succ_eq_append_getElem hk] at ht
  rcases List.mem_append.1 ht with ht | ht
  · exact h t ht
  · simp at ht; subst ht; exact h'
end Ty

set_option maxHeartbeats 400000 in
theorem size_r {F : Nat → Prop} {w0 : World} {s b : Value} {t : Ty} (ht : IsTy F w0 s b t) : ∀ w : World, t.size ≤ 1000000 → Keep F w0 w →
    Calls Try.prog 35 #[.agg #[s, b]] w (RetI t.size w) := by
  induction ht with
  | mk a n c b args bl off A N C B hn hm ha h1 h2 h3 ih =>
  intro w hsz hw
  clear h3 hm
  subst hn
  have hlen : args.length ≤ 1000000 := by have := Ty.length_lt (l := args) (b := b); omega
  have Hsz : Hid (∀ i (h : i < args.length), args[i].size ≤ 1000000 ∧ Ty.sizes (args.take i) + args[i].size ≤ 1000000) := fun i h => by
    have := Ty.sizes_take args i h; have := Ty.sizes_take_le args (i + 1); rw [Ty.size_eq] at hsz; omega
  have Hend : Hid ((Ty.mk args b).size = Ty.sizes args + 1) := Ty.size_eq _ _
  have Hih := Lib.hid ih; clear ih hsz
  go_enter Try.func35, Try.ntmps35
  go_wp2_with fail
  go_loopw [3, 4] (fun x i wr => ∃ k : Nat, i = .int .i64 k ∧ x = .int .i64 ((Ty.sizes (args.take k) : Int) + 1) ∧ k ≤ args.length ∧ Below w.heap.size w wr ∧ Blk wr w.heap.size #[.slice a args.length c, .int .i64 b] 26) (fun _ i _ => args.length - (intOf i).toNat)
  case atStart => exact ⟨0, rfl, rfl, by omega, (Below.refl _ _).alloc (Nat.le_refl _) _, Blk.new _ _ _ rfl⟩
  case round =>
    obtain ⟨k, rfl, rfl, hk, hb, hbox⟩ := hrel
    have c0 : wr.cell? ⟨w.heap.size, 0, none⟩ = some (.slice a args.length c) := hbox.cell rfl
    have hlt0 := hbox.lt
    by_cases hlt : k < args.length
    · obtain ⟨rfl, hF⟩ := ha (by omega)
      have e1 : wr.cell? ⟨bl, off + k * 2, none⟩ = some (.slice (A k) (N k) (C k)) := (hw.below hb) _ _ _ hF (h1 k hlt)
      have e2 : wr.cell? ⟨bl, off + k * 2 + 1, none⟩ = some (.int .i64 (B k)) := (hw.below hb) _ _ _ hF (h2 k hlt)
      have hs : Ty.sizes (args.take k) ≤ 1000000 ∧ args[k].size ≤ 1000000 := by have := Hsz.out k hlt; omega
      go_wp2_with fail
      refine (Hih.out k hlt _ (Hsz.out k hlt).1 (hw.below hb)).mono ?_
      rintro e w1 ⟨rfl, hb1⟩
      go_wp2_with fail
      go_roundw
      case rel => exact ⟨k + 1, by go_num, by rw [Ty.sizes_take _ _ hlt]; go_num, by omega, hb.trans (hb1.mono (by omega)), hbox.below hb1⟩
      case measure => simp [intOf]; omega
    · go_wp2_with fail
      go_ret
      refine ⟨?_, hb⟩
      rw [Hend.out, List.take_of_length_le (by omega)]; rfl

set_option maxHeartbeats 400000 in
theorem order_r {F : Nat → Prop} {w0 : World} {s b : Value} {t : Ty} (ht : IsTy F w0 s b t) : ∀ w : World, t.size ≤ 1000000 → Keep F w0 w →
    Calls Try.prog 37 #[.agg #[s, b]] w (RetI t.order w) := by
  induction ht with
  | mk a n c b args bl off A N C B hn hm ha h1 h2 h3 ih =>
  intro w hsz hw
  clear h3 hm
  subst hn
  have hlen : args.length ≤ 1000000 := by have := Ty.length_lt (l := args) (b := b); omega
  have Hsz : Hid (∀ i (h : i < args.length), args[i].size ≤ 1000000 ∧ args[i].depth ≤ 1000000 ∧ args[i].order ≤ 1000000) := fun i h => by
    have := Ty.size_get (b := b) i h; have := Ty.depth_le_size args[i]; have := Ty.order_le_depth args[i]; omega
  have Hall : Hid (Ty.depths args ≤ 1000000 ∧ Ty.orders args ≤ 1000000) := by
    have := Ty.depth_le_size (.mk args b); have := Ty.order_le_depth (.mk args b); rw [Ty.depth_eq, Ty.order_eq] at *; exact ⟨by omega, by omega⟩
  have Hend : Hid ((Ty.mk args b).order = Ty.orders args + 0) := by show _ = _; first | exact Ty.depth_eq _ _ | exact Ty.order_eq _ _
  have Hih := Lib.hid ih; clear ih hsz
  go_enter Try.func37, Try.ntmps37
  go_wp2_with fail
  go_loopw [3, 4, 5] (fun x i y wr => ∃ k : Nat, i = .int .i64 k ∧ x = .int .i64 ((Ty.orders (args.take k) : Int) + -1) ∧ k ≤ args.length ∧ Below w.heap.size w wr ∧ Blk wr w.heap.size #[.slice a args.length c, .int .i64 b] 26) (fun _ i _ _ => args.length - (intOf i).toNat)
  case atStart => exact ⟨0, rfl, rfl, by omega, (Below.refl _ _).alloc (Nat.le_refl _) _, Blk.new _ _ _ rfl⟩
  case round =>
    obtain ⟨k, rfl, rfl, hk, hb, hbox⟩ := hrel
    have c0 : wr.cell? ⟨w.heap.size, 0, none⟩ = some (.slice a args.length c) := hbox.cell rfl
    have hlt0 := hbox.lt
    have hs2 : Ty.orders (args.take k) ≤ 1000000 := by have := Hall.out; have := Ty.orders_take_le args k; omega
    by_cases hlt : k < args.length
    · obtain ⟨rfl, hF⟩ := ha (by omega)
      have e1 : wr.cell? ⟨bl, off + k * 2, none⟩ = some (.slice (A k) (N k) (C k)) := (hw.below hb) _ _ _ hF (h1 k hlt)
      have e2 : wr.cell? ⟨bl, off + k * 2 + 1, none⟩ = some (.int .i64 (B k)) := (hw.below hb) _ _ _ hF (h2 k hlt)
      have hs := (Hsz.out k hlt).2
      go_wp2_with fail
      refine (Hih.out k hlt _ (Hsz.out k hlt).1 (hw.below hb)).mono ?_
      rintro e w1 ⟨rfl, hb1⟩
      go_wp2_with fail
      all_goals
        go_roundw
        case rel => exact ⟨k + 1, by go_num, by rw [Ty.orders_take _ _ hlt]; first | go_num | (congr 1; omega), by omega, hb.trans (hb1.mono (by omega)), hbox.below hb1⟩
        case measure => simp [intOf]; omega
    · go_wp2_with fail
      go_ret
      refine ⟨?_, hb⟩
      rw [Hend.out, List.take_of_length_le (by omega)]; first | rfl | go_num
set_option maxHeartbeats 400000 in
theorem depth_r {F : Nat → Prop} {w0 : World} {s b : Value} {t : Ty} (ht : IsTy F w0 s b t) : ∀ w : World, t.size ≤ 1000000 → Keep F w0 w →
    Calls Try.prog 39 #[.agg #[s, b]] w (RetI t.depth w) := by
  induction ht with
  | mk a n c b args bl off A N C B hn hm ha h1 h2 h3 ih =>
  intro w hsz hw
  clear h3 hm
  subst hn
  have hlen : args.length ≤ 1000000 := by have := Ty.length_lt (l := args) (b := b); omega
  have Hsz : Hid (∀ i (h : i < args.length), args[i].size ≤ 1000000 ∧ args[i].depth ≤ 1000000 ∧ args[i].order ≤ 1000000) := fun i h => by
    have := Ty.size_get (b := b) i h; have := Ty.depth_le_size args[i]; have := Ty.order_le_depth args[i]; omega
  have Hall : Hid (Ty.depths args ≤ 1000000 ∧ Ty.orders args ≤ 1000000) := by
    have := Ty.depth_le_size (.mk args b); have := Ty.order_le_depth (.mk args b); rw [Ty.depth_eq, Ty.order_eq] at *; exact ⟨by omega, by omega⟩
  have Hend : Hid ((Ty.mk args b).depth = Ty.depths args + 1) := by show _ = _; first | exact Ty.depth_eq _ _ | exact Ty.order_eq _ _
  have Hih := Lib.hid ih; clear ih hsz
  go_enter Try.func39, Try.ntmps39
  go_wp2_with fail
  go_loopw [3, 4, 5] (fun x i y wr => ∃ k : Nat, i = .int .i64 k ∧ x = .int .i64 ((Ty.depths (args.take k) : Int) + 0) ∧ k ≤ args.length ∧ Below w.heap.size w wr ∧ Blk wr w.heap.size #[.slice a args.length c, .int .i64 b] 26) (fun _ i _ _ => args.length - (intOf i).toNat)
  case atStart => exact ⟨0, rfl, rfl, by omega, (Below.refl _ _).alloc (Nat.le_refl _) _, Blk.new _ _ _ rfl⟩
  case round =>
    obtain ⟨k, rfl, rfl, hk, hb, hbox⟩ := hrel
    have c0 : wr.cell? ⟨w.heap.size, 0, none⟩ = some (.slice a args.length c) := hbox.cell rfl
    have hlt0 := hbox.lt
    have hs2 : Ty.depths (args.take k) ≤ 1000000 := by have := Hall.out; have := Ty.depths_take_le args k; omega
    by_cases hlt : k < args.length
    · obtain ⟨rfl, hF⟩ := ha (by omega)
      have e1 : wr.cell? ⟨bl, off + k * 2, none⟩ = some (.slice (A k) (N k) (C k)) := (hw.below hb) _ _ _ hF (h1 k hlt)
      have e2 : wr.cell? ⟨bl, off + k * 2 + 1, none⟩ = some (.int .i64 (B k)) := (hw.below hb) _ _ _ hF (h2 k hlt)
      have hs := (Hsz.out k hlt).2
      go_wp2_with fail
      refine (Hih.out k hlt _ (Hsz.out k hlt).1 (hw.below hb)).mono ?_
      rintro e w1 ⟨rfl, hb1⟩
      go_wp2_with fail
      all_goals
        go_roundw
        case rel => exact ⟨k + 1, by go_num, by rw [Ty.depths_take _ _ hlt]; first | go_num | (congr 1; omega), by omega, hb.trans (hb1.mono (by omega)), hbox.below hb1⟩
        case measure => simp [intOf]; omega
    · go_wp2_with fail
      go_ret
      refine ⟨?_, hb⟩
      rw [Hend.out, List.take_of_length_le (by omega)]; first | rfl | go_num

theorem isTy_len {F : Nat → Prop} {w : World} {s b : Value} {t : Ty} (h : IsTy F w s b t) : t.args.length ≤ maxLen := by
  cases h; simp [Ty.args]; omega

set_option maxHeartbeats 400000 in
theorem Few_any {F : Nat → Prop} {w : World} {s b : Value} {t : Ty} (ht : IsTy F w s b t) (most depth : Int) (hm0 : 1 ≤ most) (hm1 : most ≤ 1000) (hd1 : depth ≤ 1000) (hd0 : -1000 ≤ depth) :
    Calls Try.prog 15 #[.agg #[s, b], .int .i64 most, .int .i64 depth] w (RetB ((t.size : Int) ≤ most ∧ (t.depth : Int) ≤ depth) w) := by
  cases ht with
  | mk a n c b args bl off A N C B hn hm ha h1 h2 h3 =>
  have Ht : Hid (IsTy F w (.slice a n c) (.int .i64 b) (.mk args b)) := IsTy.mk a n c b args bl off A N C B hn hm ha h1 h2 h3
  clear hn hm ha h1 h2 h3
  go_enter Try.func15, Try.ntmps15
  go_wp2_with fail
  refine (few_any Ht.out most depth _ hm0 hm1 hd1 hd0 ((Keep.refl _ _).alloc _)).mono ?_
  rintro e w1 ⟨r, hf, rfl, hb1⟩
  go_wp2_with fail
  go_ret
  refine ⟨decide (r ≤ most), ?_, rfl, ((Below.refl _ _).alloc (Nat.le_refl _) _).trans (hb1.mono (by simp))⟩
  unfold fewOk at hf
  rw [decide_eq_true_iff]
  constructor
  · intro h; omega
  · intro h; omega

set_option maxHeartbeats 400000 in
theorem low_r {F : Nat → Prop} {w0 : World} {s b : Value} {t : Ty} (ht : IsTy F w0 s b t) : ∀ (bases : Int) (w : World), t.size ≤ 1000000 → Keep F w0 w →
    Calls Try.prog 95 #[.agg #[s, b], .int .i64 bases] w (RetB (Ty.Low bases t) w) := by
  induction ht with
  | mk a n c b args bl off A N C B hn hm ha h1 h2 h3 ih =>
  intro bases w hsz hw
  clear h3 hm
  subst hn
  have hlen : args.length ≤ 1000000 := by have := Ty.length_lt (l := args) (b := b); omega
  have Hsz : Hid (∀ i (h : i < args.length), args[i].size ≤ 1000000) := fun i h => by
    have := Ty.size_get (b := b) i h; omega
  have Hlow : Hid (Ty.Low bases (.mk args b) ↔ 0 ≤ b ∧ b < bases ∧ ∀ t ∈ args, Ty.Low bases t) := Ty.low_iff
  have Hih := Lib.hid ih; clear ih hsz
  by_cases hb0 : b < 0
  · skip
    go_enter Try.func95, Try.ntmps95
    go_wp2_with fail
    go_ret
    refine ⟨false, ?_, rfl, (Below.refl _ _).alloc (Nat.le_refl _) _⟩
    rw [Hlow.out]; simp; omega
  by_cases hb1 : bases ≤ b
  · skip
    go_enter Try.func95, Try.ntmps95
    go_wp2_with fail
    go_ret
    refine ⟨false, ?_, rfl, (Below.refl _ _).alloc (Nat.le_refl _) _⟩
    rw [Hlow.out]; simp; omega
  go_enter Try.func95, Try.ntmps95
  go_wp2_with fail
  go_loopw [5] (fun i wr => ∃ k : Nat, i = .int .i64 k ∧ k ≤ args.length ∧ (∀ t ∈ args.take k, Ty.Low bases t) ∧ Below w.heap.size w wr ∧ Blk wr w.heap.size #[.slice a args.length c, .int .i64 b] 26) (fun i _ => args.length - (intOf i).toNat)
  case atStart => exact ⟨0, rfl, by omega, by simp, (Below.refl _ _).alloc (Nat.le_refl _) _, Blk.new _ _ _ rfl⟩
  case round =>
    obtain ⟨k, rfl, hk, hall, hb, hbox⟩ := hrel
    have Hall := Lib.hid hall; clear hall
    have c0 : wr.cell? ⟨w.heap.size, 0, none⟩ = some (.slice a args.length c) := hbox.cell rfl
    have hlt0 := hbox.lt
    by_cases hlt : k < args.length
    · obtain ⟨rfl, hF⟩ := ha (by omega)
      have e1 : wr.cell? ⟨bl, off + k * 2, none⟩ = some (.slice (A k) (N k) (C k)) := (hw.below hb) _ _ _ hF (h1 k hlt)
      have e2 : wr.cell? ⟨bl, off + k * 2 + 1, none⟩ = some (.int .i64 (B k)) := (hw.below hb) _ _ _ hF (h2 k hlt)
      go_wp2_with fail
      refine (Hih.out k hlt _ _ (Hsz.out k hlt) (hw.below hb)).mono ?_
      rintro e w1 ⟨r, hr, rfl, hb2⟩
      cases r
      · have Hr := Lib.hid (no_of hr); clear hr
        go_wp2_with fail
        go_ret
        refine ⟨false, ?_, rfl, hb.trans (hb2.mono (by omega))⟩
        rw [Hlow.out]; simp
        intro _ _
        exact ⟨args[k], List.getElem_mem hlt, Hr.out⟩
      · have Hr := Lib.hid (yes_of hr); clear hr
        go_wp2_with fail
        go_roundw
        case rel => exact ⟨k + 1, by go_num, by omega, Ty.forall_take_succ hlt Hall.out Hr.out, hb.trans (hb2.mono (by omega)), hbox.below hb2⟩
        case measure => simp [intOf]; omega
    · go_wp2_with fail
      go_ret
      refine ⟨true, ?_, rfl, hb⟩
      rw [Hlow.out]; simp
      have h := Hall.out
      rw [List.take_of_length_le (by omega)] at h
      exact ⟨by omega, by omega, h⟩

set_option maxHeartbeats 400000 in
theorem right_r {F : Nat → Prop} {w : World} {s b : Value} {t : Ty} (ht : IsTy F w s b t) (bases : Int) :
    Calls Try.prog 33 #[.agg #[s, b], .int .i64 bases] w (RetB (t.size ≤ 1000 ∧ t.depth ≤ 60 ∧ Ty.Low bases t) w) := by
  cases ht with
  | mk a n c b args bl off A N C B hn hm ha h1 h2 h3 =>
  have Ht : Hid (IsTy F w (.slice a n c) (.int .i64 b) (.mk args b)) := IsTy.mk a n c b args bl off A N C B hn hm ha h1 h2 h3
  clear hn hm ha h1 h2 h3
  go_enter Try.func33, Try.ntmps33
  go_wp2_with fail
  refine (Few_any (Ht.out.keep ((Keep.refl _ _).alloc _)) 1000 60 (by omega) (by omega) (by omega) (by omega)).mono ?_
  rintro e w1 ⟨r, hr, rfl, hb1⟩
  have hB : Below w.heap.size w w1 := ((Below.refl _ _).alloc (Nat.le_refl _) _).trans (hb1.mono (by simp))
  cases r
  · have Hr := Lib.hid (no_of hr); clear hr
    go_wp2_with fail
    go_ret
    refine ⟨false, ?_, rfl, hB⟩
    simp
    intro h1 h2
    exact absurd ⟨by omega, by omega⟩ Hr.out
  · have Hr := Lib.hid (yes_of hr); clear hr
    have c0 := ((Blk.new w #[.slice a n c, .int .i64 b] 26 rfl).below hb1)
    have c1 : w1.cell? ⟨w.heap.size, 0, none⟩ = some (.slice a n c) := c0.cell rfl
    have c2 : w1.cell? ⟨w.heap.size, 1, none⟩ = some (.int .i64 b) := c0.cell rfl
    go_wp2_with fail
    refine (low_r Ht.out bases _ (by have := Hr.out; omega) (((Keep.refl _ _).alloc _).below hb1)).mono ?_
    rintro e w2 ⟨r, hr2, rfl, hb2⟩
    go_wp2_with fail
    go_ret
    have := Hr.out
    exact ⟨r, by rw [hr2]; exact ⟨fun h => ⟨by omega, by omega, h⟩, fun h => h.2.2⟩, rfl, hB.trans (hb2.mono hB.size)⟩
end Go.Proofs.Ytejpgifofkiofaa

namespace Go.Proofs.Ytejpgifofkiofaa
open Go.RowKit

theorem take_eq_succ {α : Type} {l r : List α} {k : Nat} (hl : k < l.length) (hr : k < r.length) (h : l.take k = r.take k) (h' : l[k] = r[k]) : l.take (k + 1) = r.take (k + 1) := by
  rw [List.take_succ_eq_append_getElem hl, List.take_succ_eq_append_getElem hr, h, h']

set_option maxHeartbeats 1000000 in
theorem same_r {F : Nat → Prop} {w0 : World} {s b : Value} {t : Ty} (ht : IsTy F w0 s b t) : ∀ {F' : Nat → Prop} {w0' : World} {s' b' : Value} {u : Ty} (_ : IsTy F' w0' s' b' u) (w : World), Keep F w0 w → Keep F' w0' w →
    Calls Try.prog 40 #[.agg #[s, b], .agg #[s', b']] w (RetB (t = u) w) := by
  induction ht with
  | mk a n c b args bl off A N C B hn hm ha h1 h2 h3 ih =>
  intro F' w0' s' b' u hu w hw hw'
  cases hu with
  | mk a' n' c' b' args' bl' off' A' N' C' B' hn' hm' ha' h1' h2' h3' =>
  clear h3
  subst hn
  subst hn'
  unfold maxLen at hm hm'
  have Hih := Lib.hid ih; clear ih
  have Hu := Lib.hid h3'; clear h3'
  by_cases hbb : b = b'
  rotate_left
  · have hg : (b == b') = false := by simpa using hbb
    have hg' : (b != b') = true := by simpa using hbb
    go_enter Try.func40, Try.ntmps40
    go_wp2_with fail
    go_ret
    exact ⟨false, by simp [hbb], rfl, ((Below.refl _ _).alloc (Nat.le_refl _) _).alloc (by simp) _⟩
  subst hbb
  by_cases hll : args.length = args'.length
  rotate_left
  · have hg : ((args.length : Int) == (args'.length : Int)) = false := by simpa using by omega
    have hg' : ((args.length : Int) != (args'.length : Int)) = true := by simpa using by omega
    go_enter Try.func40, Try.ntmps40
    go_wp2_with fail
    go_ret
    refine ⟨false, ?_, rfl, ((Below.refl _ _).alloc (Nat.le_refl _) _).alloc (by simp) _⟩
    simp; intro h; rw [h] at hll; exact hll rfl
  have Hll := Lib.hid hll
  have hg : ((args.length : Int) == (args'.length : Int)) = true := by simpa using by omega
  have hg' : ((args.length : Int) != (args'.length : Int)) = false := by simpa using by omega
  clear hll
  go_enter Try.func40, Try.ntmps40
  go_wp2_with fail
  go_loopw [5] (fun i wr => ∃ k : Nat, i = .int .i64 k ∧ k ≤ args.length ∧ Hid (args.take k = args'.take k) ∧ Below w.heap.size w wr ∧ Blk wr w.heap.size #[.slice a args.length c, .int .i64 b] 26 ∧ Blk wr (w.heap.size + 1) #[.slice a' args'.length c', .int .i64 b] 26) (fun i _ => args.length - (intOf i).toNat)
  case atStart => exact ⟨0, rfl, by omega, rfl, ((Below.refl _ _).alloc (Nat.le_refl _) _).alloc (by simp) _, (Blk.new _ _ _ rfl).alloc _, Blk.new _ _ _ (by simp)⟩
  case round =>
    obtain ⟨k, rfl, hk, hall, hb, hbox, hbox'⟩ := hrel
    have c0 : wr.cell? ⟨w.heap.size, 0, none⟩ = some (.slice a args.length c) := hbox.cell rfl
    have c0' : wr.cell? ⟨w.heap.size + 1, 0, none⟩ = some (.slice a' args'.length c') := hbox'.cell rfl
    have hlt0 := hbox'.lt
    by_cases hlt : k < args.length
    · have hlt' : k < args'.length := by rw [← Hll.out]; exact hlt
      obtain ⟨rfl, hF⟩ := ha (by omega)
      obtain ⟨rfl, hF'⟩ := ha' (by omega)
      have e1 : wr.cell? ⟨bl, off + k * 2, none⟩ = some (.slice (A k) (N k) (C k)) := (hw.below hb) _ _ _ hF (h1 k hlt)
      have e2 : wr.cell? ⟨bl, off + k * 2 + 1, none⟩ = some (.int .i64 (B k)) := (hw.below hb) _ _ _ hF (h2 k hlt)
      have e1' : wr.cell? ⟨bl', off' + k * 2, none⟩ = some (.slice (A' k) (N' k) (C' k)) := (hw'.below hb) _ _ _ hF' (h1' k hlt')
      have e2' : wr.cell? ⟨bl', off' + k * 2 + 1, none⟩ = some (.int .i64 (B' k)) := (hw'.below hb) _ _ _ hF' (h2' k hlt')
      have i0 : (0 : Int) ≤ (k : Int) := Int.natCast_nonneg _
      have i1 : (k : Int) < (args.length : Int) := by omega
      have i2 : (k : Int) < (args'.length : Int) := by omega
      go_wp2_with fail
      refine wp_region_noPanic (wp_region_need (S := fun w' => w'.cell? ⟨w.heap.size, 0, none⟩ = some (.slice (some ⟨bl, off, none⟩) args.length c) ∧ w'.cell? ⟨w.heap.size + 1, 0, none⟩ = some (.slice (some ⟨bl', off', none⟩) args'.length c') ∧ w'.cell? ⟨bl, off + k * 2, none⟩ = some (.slice (A k) (N k) (C k)) ∧ w'.cell? ⟨bl, off + k * 2 + 1, none⟩ = some (.int .i64 (B k)) ∧ w'.cell? ⟨bl', off' + k * 2, none⟩ = some (.slice (A' k) (N' k) (C' k)) ∧ w'.cell? ⟨bl', off' + k * 2 + 1, none⟩ = some (.int .i64 (B' k))) (by kernel_rfl) ?_)
      have hS : (wr.drew).cell? ⟨w.heap.size, 0, none⟩ = some (.slice (some ⟨bl, off, none⟩) args.length c) ∧ (wr.drew).cell? ⟨w.heap.size + 1, 0, none⟩ = some (.slice (some ⟨bl', off', none⟩) args'.length c') ∧ (wr.drew).cell? ⟨bl, off + k * 2, none⟩ = some (.slice (A k) (N k) (C k)) ∧ (wr.drew).cell? ⟨bl, off + k * 2 + 1, none⟩ = some (.int .i64 (B k)) ∧ (wr.drew).cell? ⟨bl', off' + k * 2, none⟩ = some (.slice (A' k) (N' k) (C' k)) ∧ (wr.drew).cell? ⟨bl', off' + k * 2 + 1, none⟩ = some (.int .i64 (B' k)) := ⟨c0, c0', e1, e2, e1', e2'⟩
      refine wpN_take (i := 0) (v := ?v1) rfl (by kernel_rfl) (fun _ _ _ h => h) hS (Or.inl ⟨by rfl, ?hy1⟩) ?hr1
      case hy1 => (intro wS hSw; (try dsimp only at hSw); go_simp; (try with_reducible rfl))
      try simp only [Act.put, List.setIfInBounds_toArray, List.set_cons_zero, List.set_cons_succ]
      refine wpN_take (i := 1) (v := ?v2) rfl (by kernel_rfl) (fun _ _ _ h => h) hS (Or.inl ⟨by rfl, ?hy2⟩) ?hr2
      case hy2 => (intro wS hSw; (try dsimp only at hSw); go_simp; (try with_reducible rfl))
      try simp only [Act.put, List.setIfInBounds_toArray, List.set_cons_zero, List.set_cons_succ]
      refine wpN_take (i := 2) (v := ?v3) rfl (by kernel_rfl) (fun _ _ _ h => h) hS (Or.inl ⟨by rfl, ?hy3⟩) ?hr3
      case hy3 => (intro wS hSw; (try dsimp only at hSw); go_simp; (try with_reducible rfl))
      try simp only [Act.put, List.setIfInBounds_toArray, List.set_cons_zero, List.set_cons_succ]
      refine wpN_take (i := 3) (v := ?v4) rfl (by kernel_rfl) (fun _ _ _ h => h) hS (Or.inl ⟨by rfl, ?hy4⟩) ?hr4
      case hy4 => (intro wS hSw; (try dsimp only at hSw); go_simp; (try with_reducible rfl))
      try simp only [Act.put, List.setIfInBounds_toArray, List.set_cons_zero, List.set_cons_succ]
      refine wpN_take (i := 4) (v := ?v5) rfl (by kernel_rfl) (fun _ _ _ h => h) hS (Or.inl ⟨by rfl, ?hy5⟩) ?hr5
      case hy5 => (intro wS hSw; (try dsimp only at hSw); go_simp; (try with_reducible rfl))
      try simp only [Act.put, List.setIfInBounds_toArray, List.set_cons_zero, List.set_cons_succ]
      refine wpN_take (i := 5) (v := ?v6) rfl (by kernel_rfl) (fun _ _ _ h => h) hS (Or.inl ⟨by rfl, ?hy6⟩) ?hr6
      case hy6 => (intro wS hSw; (try dsimp only at hSw); go_simp; (try with_reducible rfl))
      try simp only [Act.put, List.setIfInBounds_toArray, List.set_cons_zero, List.set_cons_succ]
      refine wpN_take (i := 6) (v := ?v7) rfl (by kernel_rfl) (fun _ _ _ h => h) hS (Or.inl ⟨by rfl, ?hy7⟩) ?hr7
      case hy7 => (intro wS hSw; (try dsimp only at hSw); go_simp; (try with_reducible rfl))
      try simp only [Act.put, List.setIfInBounds_toArray, List.set_cons_zero, List.set_cons_succ]
      refine wpN_take (i := 7) (v := ?v8) rfl (by kernel_rfl) (fun _ _ _ h => h) hS (Or.inl ⟨by rfl, ?hy8⟩) ?hr8
      case hy8 => (intro wS hSw; (try dsimp only at hSw); go_simp; (try with_reducible rfl))
      try simp only [Act.put, List.setIfInBounds_toArray, List.set_cons_zero, List.set_cons_succ]
      refine wpN_take (i := 8) (v := ?v9) rfl (by kernel_rfl) (fun _ _ _ h => h) hS (Or.inl ⟨by rfl, ?hy9⟩) ?hr9
      case hy9 => (intro wS hSw; (try dsimp only at hSw); go_simp; (try with_reducible rfl))
      try simp only [Act.put, List.setIfInBounds_toArray, List.set_cons_zero, List.set_cons_succ]
      refine wpN_take (i := 9) (v := ?v10) rfl (by kernel_rfl) (fun _ _ _ h => h) hS (Or.inl ⟨by rfl, ?hy10⟩) ?hr10
      case hy10 => (intro wS hSw; (try dsimp only at hSw); go_simp; (try with_reducible rfl))
      try simp only [Act.put, List.setIfInBounds_toArray, List.set_cons_zero, List.set_cons_succ]
      refine wpN_step (i := 10) (by kernel_rfl) rfl (fun K hK => ?_)
      go_simp
      refine (Hih.out k hlt (Hu.out k hlt') _ (hw.below hb).drew (hw'.below hb).drew).mono ?_
      rintro e w1 ⟨r, hr, rfl, hb1⟩
      have hB : Below w.heap.size w w1 := hb.drew.trans (hb1.mono (by simp; omega))
      have hKp : Keep (fun _ => True) wr w1 := ((Keep.refl _ _).drew).below hb1
      have hS : (w1).cell? ⟨w.heap.size, 0, none⟩ = some (.slice (some ⟨bl, off, none⟩) args.length c) ∧ (w1).cell? ⟨w.heap.size + 1, 0, none⟩ = some (.slice (some ⟨bl', off', none⟩) args'.length c') ∧ (w1).cell? ⟨bl, off + k * 2, none⟩ = some (.slice (A k) (N k) (C k)) ∧ (w1).cell? ⟨bl, off + k * 2 + 1, none⟩ = some (.int .i64 (B k)) ∧ (w1).cell? ⟨bl', off' + k * 2, none⟩ = some (.slice (A' k) (N' k) (C' k)) ∧ (w1).cell? ⟨bl', off' + k * 2 + 1, none⟩ = some (.int .i64 (B' k)) := ⟨hKp _ _ _ trivial c0, hKp _ _ _ trivial c0', hKp _ _ _ trivial e1, hKp _ _ _ trivial e2, hKp _ _ _ trivial e1', hKp _ _ _ trivial e2'⟩
      have hx := Blk.below (w := wr.drew) hbox hb1
      have hx' := Blk.below (w := wr.drew) hbox' hb1
      cases r
      · have Hr := Lib.hid (no_of hr); clear hr
        refine hK.out _ _ (fun _ => hS) ?_
        clear hK K
        try simp only [Act.put, List.setIfInBounds_toArray, List.set_cons_zero, List.set_cons_succ]
        refine wpN_take (i := 11) (v := ?v11) rfl (by kernel_rfl) (fun _ _ _ h => h) hS (Or.inl ⟨by rfl, ?hy11⟩) ?hr11
        case hy11 => (intro wS hSw; (try dsimp only at hSw); go_simp; (try with_reducible rfl))
        try simp only [Act.put, List.setIfInBounds_toArray, List.set_cons_zero, List.set_cons_succ]
        refine wpN_done (by kernel_rfl) ?_
        refine NoPanic.normal ?_
        go_wp2_with fail
        go_ret
        refine ⟨false, ?_, rfl, hB⟩
        simp
        intro h
        subst h
        exact Hr.out rfl
      · have Hr := Lib.hid (yes_of hr); clear hr
        refine hK.out _ _ (fun _ => hS) ?_
        clear hK K
        try simp only [Act.put, List.setIfInBounds_toArray, List.set_cons_zero, List.set_cons_succ]
        refine wpN_take (i := 11) (v := ?v12) rfl (by kernel_rfl) (fun _ _ _ h => h) hS (Or.inl ⟨by rfl, ?hy12⟩) ?hr12
        case hy12 => (intro wS hSw; (try dsimp only at hSw); go_simp; (try with_reducible rfl))
        try simp only [Act.put, List.setIfInBounds_toArray, List.set_cons_zero, List.set_cons_succ]
        refine wpN_done (by kernel_rfl) ?_
        refine NoPanic.normal ?_
        go_wp2_with fail
        go_roundw
        case rel => exact ⟨k + 1, by go_num, by omega, take_eq_succ hlt hlt' hall.out Hr.out, hB, hx, hx'⟩
        case measure => simp [intOf]; omega
    · go_wp2_with fail
      go_ret
      refine ⟨true, ?_, rfl, hb⟩
      have h := hall.out
      rw [List.take_of_length_le (by omega), List.take_of_length_le (by rw [← Hll.out]; omega)] at h
      simp [h]
end Go.Proofs.Ytejpgifofkiofaa

