/-
  A region that draws its order: a load may be taken first where every other operation that can come up ahead of it keeps its cell; of what comes behind a store nothing is asked. Heaps as lists: what a sift up and a sift down keep.
-/
import Derived.OrdersHeld
import Derived.Deep.RegionHeld
import Derived.Deep.RegionHeld3
set_option linter.unusedVariables false
set_option linter.unusedSimpArgs false
namespace Go.Proofs.Ytplfbdkljnblmaa

section
variable {P : Program} {ops : Array Oper} {Q : Exit → Act → World → Prop} {md : Region.Mode} {S : World → Prop}

def asksS (ops : Array Oper) (j : Nat) : Bool := match ops[j]? with
  | none => true
  | some o => match o.op with
    | .store .. => false
    | .assign _ => false
    | _ => true

def wpN (P : Program) (md : Region.Mode) (ops : Array Oper) (Q : Exit → Act → World → Prop) (S : World → Prop) : Nat → Array Bool → Act → World → Prop
  | 0, listed, a, w => Region.ready md ops listed = [] ∧ Q .normal a w
  | n + 1, listed, a, w =>
    (Region.ready md ops listed = [] → Q .normal a w) ∧
    ∀ i ∈ Region.ready md ops listed, wpOp P ops Q i (fun a' w' => (asksS ops i = true → S w → S w') ∧ wpN P md ops Q S n (listed.setIfInBounds i true) a' w') a w

theorem wpN_any : ∀ (n : Nat) (listed : Array Bool) (a : Act) (w : World), wpN P md ops Q S n listed a w → wpAny P md ops Q n listed a w
  | 0, _, _, _, h => h
  | n + 1, _, _, _, h => ⟨h.1, fun i hi => wpOp_mono (fun a' w' hh => wpN_any n _ a' w' hh.2) (h.2 i hi)⟩

def lateOk (md : Region.Mode) (ops : Array Oper) (listed : Array Bool) (i : Nat) : Bool :=
  (List.range ops.size).all fun j => asksS ops j || j == i || listed.getD j true || match ops[j]? with
    | some oj => oj.after.any (fun e => Region.binds md e && e.on == i)
    | none => true

theorem lateOk_spec {i : Nat} {listed : Array Bool} (h : lateOk md ops listed i = true) (j : Nat) (oj : Oper) (hj : ops[j]? = some oj) (hne : j ≠ i) (hun : listed.getD j true = false)
    (hno : ∀ e ∈ oj.after, Region.binds md e = true → e.on ≠ i) : asksS ops j = true := by
  simp only [lateOk, List.all_eq_true, List.mem_range] at h
  have h1 := h j (Array.getElem?_eq_some_iff.1 hj).1
  simp only [hj, Bool.or_eq_true, beq_iff_eq, hne, hun, or_false, Bool.false_eq_true] at h1
  rcases h1 with h1 | h1
  · exact h1
  · obtain ⟨e, he, hb⟩ := Array.any_eq_true'.1 h1
    simp only [Bool.and_eq_true, beq_iff_eq] at hb
    exact absurd hb.2 (hno e he hb.1)

theorem wpN_first {i : Nat} {oi : Oper} {v : Value} (hi : ops[i]? = some oi) (hsel : ∀ (j : Nat) (o : Oper) cs b, ops[j]? = some o → o.op ≠ .select cs b)
    (hQ : ∀ c a w, Q (.panic c) (a.put oi.dst v) w → Q (.panic c) a w) (hai : asksS ops i = true) :
    ∀ (n : Nat) (listed : Array Bool) (a : Act) (w : World),
      (∀ j oj, ops[j]? = some oj → j ≠ i → listed.getD j true = false → (∀ e ∈ oj.after, Region.binds md e = true → e.on ≠ i) → oi.apart ops oj = true ∧ asksS ops j = true) →
      i ∈ Region.ready md ops listed → YieldsIf P ops S oi v a → S w →
      wpN P md ops Q S n (listed.setIfInBounds i true) (a.put oi.dst v) w → wpN P md ops Q S (n + 1) listed a w := by
  intro n
  induction n with
  | zero =>
    intro listed a w _ hr hy hS H
    refine ⟨fun h0 => (by rw [h0] at hr; cases hr), fun j hj => ?_⟩
    by_cases hji : j = i
    · subst hji; exact hy.wpOp hi hS ⟨fun _ h => h, H⟩
    · have h0 := ready_mono hj hji
      rw [H.1] at h0; cases h0
  | succ n ih =>
    intro listed a w hfree hr hy hS H
    refine ⟨fun h0 => (by rw [h0] at hr; cases hr), fun j hj => ?_⟩
    by_cases hji : j = i
    · subst hji; exact hy.wpOp hi hS ⟨fun _ h => h, H⟩
    · have hrest := H.2 j (ready_mono hj hji)
      obtain ⟨hjun, oj, hoj, hall⟩ := mem_ready.1 hj
      have hiun := (mem_ready.1 hr).1
      have hnot : ∀ e ∈ oj.after, Region.binds md e = true → e.on ≠ i := fun e he hb heq => by
        have hl := hall e he hb
        rw [heq] at hl
        rcases Nat.lt_or_ge i listed.size with hlt | hge
        · simp [hlt] at hiun hl; rw [hiun] at hl; cases hl
        · simp [Array.getElem?_eq_none hge] at hl
      obtain ⟨hap, haj⟩ := hfree j oj hoj hji hjun hnot
      have hput := wpOp_putIf hoj hap (fun cs b => hsel i oi cs b hi) (fun cs b => hsel j oj cs b hoj) hQ hy hrest
      refine wpOp_mono (fun a' w' hh => ?_) hput
      obtain ⟨hy', hSw, hw⟩ := hh
      refine ⟨hSw, ih (listed.setIfInBounds j true) a' w' ?_ (ready_mono hr (Ne.symm hji)) hy' (hSw haj hS) ?_⟩
      · intro k ok hk hki hun hno
        refine hfree k ok hk hki ?_ hno
        by_cases hjk : j = k
        · subst hjk; exact hjun
        · rw [getD_set_ne true hjk] at hun; exact hun
      · rw [Array.setIfInBounds_comm _ _ hji]; exact hw

theorem wpN_take {i : Nat} {oi : Oper} {v : Value} {n : Nat} {listed : Array Bool} {a : Act} {w : World} (hi : ops[i]? = some oi)
    (hs : (Region.noSelect ops && Region.free md ops listed i && (Region.ready md ops listed).contains i && asksS ops i && lateOk md ops listed i) = true)
    (hQ : ∀ c a w, Q (.panic c) (a.put oi.dst v) w → Q (.panic c) a w) (hS : S w) (hy : YieldsIf P ops S oi v a)
    (h : wpN P md ops Q S n (listed.setIfInBounds i true) (a.put oi.dst v) w) : wpN P md ops Q S (n + 1) listed a w := by
  simp only [Bool.and_eq_true] at hs
  obtain ⟨⟨⟨⟨h1, h2⟩, h3⟩, h4⟩, h5⟩ := hs
  exact wpN_first hi (Region.noSelect_spec h1) hQ h4 n listed a w (fun j oj hj hne hun hno => ⟨Region.free_spec hi h2 j oj hj hne hun hno, lateOk_spec h5 j oj hj hne hun hno⟩) (by simpa using h3) hy hS h

theorem wpN_pureF {i : Nat} {oi : Oper} {v : Value} (hi : ops[i]? = some oi) (hsel : ∀ (j : Nat) (o : Oper) cs b, ops[j]? = some o → o.op ≠ .select cs b)
    (hQ : ∀ c a w, Q (.panic c) (a.put oi.dst v) w → Q (.panic c) a w) :
    ∀ (n : Nat) (listed : Array Bool) (a : Act) (w : World),
      (∀ j oj, ops[j]? = some oj → j ≠ i → listed.getD j true = false → (∀ e ∈ oj.after, Region.binds md e = true → e.on ≠ i) → oi.apart ops oj = true) →
      i ∈ Region.ready md ops listed → YieldsIf P ops (fun _ => True) oi v a →
      wpN P md ops Q S n (listed.setIfInBounds i true) (a.put oi.dst v) w → wpN P md ops Q S (n + 1) listed a w := by
  intro n
  induction n with
  | zero =>
    intro listed a w _ hr hy H
    refine ⟨fun h0 => (by rw [h0] at hr; cases hr), fun j hj => ?_⟩
    by_cases hji : j = i
    · subst hji; exact hy.wpOp hi trivial ⟨fun _ h => h, H⟩
    · have h0 := ready_mono hj hji
      rw [H.1] at h0; cases h0
  | succ n ih =>
    intro listed a w hfree hr hy H
    refine ⟨fun h0 => (by rw [h0] at hr; cases hr), fun j hj => ?_⟩
    by_cases hji : j = i
    · subst hji; exact hy.wpOp hi trivial ⟨fun _ h => h, H⟩
    · have hrest := H.2 j (ready_mono hj hji)
      obtain ⟨hjun, oj, hoj, hall⟩ := mem_ready.1 hj
      have hiun := (mem_ready.1 hr).1
      have hnot : ∀ e ∈ oj.after, Region.binds md e = true → e.on ≠ i := fun e he hb heq => by
        have hl := hall e he hb
        rw [heq] at hl
        rcases Nat.lt_or_ge i listed.size with hlt | hge
        · simp [hlt] at hiun hl; rw [hiun] at hl; cases hl
        · simp [Array.getElem?_eq_none hge] at hl
      have hap := hfree j oj hoj hji hjun hnot
      have hput := wpOp_putIf hoj hap (fun cs b => hsel i oi cs b hi) (fun cs b => hsel j oj cs b hoj) hQ hy hrest
      refine wpOp_mono (fun a' w' hh => ?_) hput
      obtain ⟨hy', hSw, hw⟩ := hh
      refine ⟨hSw, ih (listed.setIfInBounds j true) a' w' ?_ (ready_mono hr (Ne.symm hji)) hy' ?_⟩
      · intro k ok hk hki hun hno
        refine hfree k ok hk hki ?_ hno
        by_cases hjk : j = k
        · subst hjk; exact hjun
        · rw [getD_set_ne true hjk] at hun; exact hun
      · rw [Array.setIfInBounds_comm _ _ hji]; exact hw
theorem wpN_pure {i : Nat} {oi : Oper} {v : Value} {n : Nat} {listed : Array Bool} {a : Act} {w : World} (hi : ops[i]? = some oi)
    (hs : (Region.noSelect ops && Region.free md ops listed i && (Region.ready md ops listed).contains i) = true)
    (hQ : ∀ c a w, Q (.panic c) (a.put oi.dst v) w → Q (.panic c) a w) (hy : YieldsIf P ops (fun _ => True) oi v a)
    (h : wpN P md ops Q S n (listed.setIfInBounds i true) (a.put oi.dst v) w) : wpN P md ops Q S (n + 1) listed a w := by
  simp only [Bool.and_eq_true] at hs
  obtain ⟨⟨h1, h2⟩, h3⟩ := hs
  exact wpN_pureF hi (Region.noSelect_spec h1) hQ n listed a w (fun j oj hj hne hun hno => Region.free_spec hi h2 j oj hj hne hun hno) (by simpa using h3) hy h

theorem wpN_step {i : Nat} {oi : Oper} {n : Nat} {listed : Array Bool} {a : Act} {w : World} (hr : Region.ready md ops listed = [i]) (hi : ops[i]? = some oi)
    (h : ∀ K : Act → World → Prop, Shut (∀ a w, (asksS ops i = true → S w) → wpN P md ops Q S n (listed.setIfInBounds i true) a w → K a w) → if Region.wanted oi (yielded ops a.tmps) = true then Oper.wp P oi a w K Q else K (a.put oi.dst undef) w) :
    wpN P md ops Q S (n + 1) listed a w := by
  refine ⟨fun h0 => (by rw [hr] at h0; cases h0), fun j hj => ?_⟩
  rw [hr] at hj
  have : j = i := by simpa using hj
  subst this
  exact wpOp_step hi (fun K hK => h K (fun a w h1 h2 => hK a w ⟨fun ha _ => h1 ha, h2⟩))

theorem wpN_done {n : Nat} {listed : Array Bool} {a : Act} {w : World} (hr : Region.ready md ops listed = []) (h : Q .normal a w) : wpN P md ops Q S n listed a w := by
  cases n with
  | zero => exact ⟨hr, h⟩
  | succ n => exact ⟨fun _ => h, fun i hi => by rw [hr] at hi; cases hi⟩

theorem wp_region_need {id : Nat} {a : Act} {w : World} (hm : P.follows .mixedOrders = true) (h : wpN P .any ops Q S ops.size (Array.replicate ops.size false) a w.drew) : (Code.region id ops true).wp P Q a w :=
  wp_region_any hm (wpN_any _ _ _ _ h)
end
end Go.Proofs.Ytplfbdkljnblmaa

namespace Go.Proofs.Ytplfbdkljnblmaa

structure Ent where
  key : Int
  weight : Int
  age : Int
deriving DecidableEq

namespace Hp
def z0 : Ent := ⟨0, 0, 0⟩
def at_ (l : List Ent) (j : Nat) : Ent := l.getD j z0
def swap (l : List Ent) (i j : Nat) : List Ent := (l.set i (at_ l j)).set j (at_ l i)
def par (j : Nat) : Nat := (j - 1) / 2

structure Ord (lt : Ent → Ent → Bool) : Prop where
  asym : ∀ a b, lt a b = true → lt b a = false
  trans : ∀ a b c, lt b a = false → lt c b = false → lt c a = false

def Heap (lt : Ent → Ent → Bool) (l : List Ent) : Prop := ∀ j, j < l.length → 0 < j → lt (at_ l j) (at_ l (par j)) = false
structure Up (lt : Ent → Ent → Bool) (l : List Ent) (i : Nat) : Prop where
  rest : ∀ j, j < l.length → 0 < j → j ≠ i → lt (at_ l j) (at_ l (par j)) = false
  over : 0 < i → ∀ j, j < l.length → 0 < j → par j = i → lt (at_ l j) (at_ l (par i)) = false
structure Down (lt : Ent → Ent → Bool) (l : List Ent) (i : Nat) : Prop where
  rest : ∀ j, j < l.length → 0 < j → par j ≠ i → lt (at_ l j) (at_ l (par j)) = false
  over : 0 < i → ∀ j, j < l.length → 0 < j → par j = i → lt (at_ l j) (at_ l (par i)) = false

theorem at_set {l : List Ent} {i j : Nat} {x : Ent} (hi : i < l.length) : at_ (l.set i x) j = if j = i then x else at_ l j := by
  unfold at_
  simp only [List.getD_eq_getElem?_getD, List.getElem?_set]
  by_cases h : i = j
  · subst h; simp [hi]
  · rw [if_neg h, if_neg (fun e => h e.symm)]
@[simp] theorem length_swap (l : List Ent) (i j : Nat) : (swap l i j).length = l.length := by simp [swap]
theorem at_swap {l : List Ent} {i j k : Nat} (hi : i < l.length) (hj : j < l.length) : at_ (swap l i j) k = if k = j then at_ l i else if k = i then at_ l j else at_ l k := by
  unfold swap
  rw [at_set (by simpa using hj), at_set hi]
theorem at_get {l : List Ent} {i : Nat} (hi : i < l.length) : at_ l i = l[i] := by simp [at_, List.getD_eq_getElem?_getD, hi]
theorem swap_perm (l : List Ent) (i j : Nat) (hi : i < l.length) (hj : j < l.length) : (swap l i j).Perm l := by
  have h := Array.swap_perm (xs := l.toArray) (i := i) (j := j) (by simpa using hi) (by simpa using hj)
  rw [List.swap_toArray] at h
  have := (Array.perm_iff_toList_perm).1 h
  simpa [swap, at_get hi, at_get hj] using this

theorem par_lt {j : Nat} (h : 0 < j) : par j < j := by unfold par; omega

section
variable {lt : Ent → Ent → Bool} (O : Ord lt) {l : List Ent} {i : Nat}
include O

omit O in
theorem Up.start {x : Ent} (h : Heap lt l) : Up lt (l ++ [x]) l.length := by
  have e : ∀ j, j < l.length → at_ (l ++ [x]) j = at_ l j := fun j hj => by
    unfold at_; simp [List.getD_eq_getElem?_getD, List.getElem?_append, hj]
  refine ⟨fun j hj h0 hne => ?_, fun h0 j hj h0j hp => ?_⟩
  · have hl : j < l.length := by simp at hj; omega
    have := par_lt h0
    rw [e j hl, e _ (by omega)]
    exact h j hl h0
  · simp at hj; unfold par at hp; omega

theorem Up.step (h : Up lt l i) (hi : i < l.length) (h0 : 0 < i) (hlt : lt (at_ l i) (at_ l (par i)) = true) : Up lt (swap l i (par i)) (par i) := by
  have hp := par_lt h0
  have hpl : par i < l.length := by omega
  have A := O.asym _ _ hlt
  refine ⟨fun j hj hj0 hne => ?_, fun hp0 j hj hj0 hpj => ?_⟩
  · rw [length_swap] at hj
    rw [at_swap hi hpl, at_swap hi hpl, if_neg hne]
    by_cases hji : j = i
    · subst hji; rw [if_pos rfl, if_pos rfl]; exact A
    · rw [if_neg hji]
      by_cases hq : par j = par i
      · rw [if_pos hq]
        have h1 := h.rest j hj hj0 hji
        rw [hq] at h1
        exact O.trans _ _ _ A h1
      · rw [if_neg hq]
        by_cases hqi : par j = i
        · rw [if_pos hqi]; exact h.over h0 j hj hj0 hqi
        · rw [if_neg hqi]; exact h.rest j hj hj0 hji
  · rw [length_swap] at hj
    have hpp := par_lt hp0
    rw [at_swap hi hpl, at_swap hi hpl, if_neg (show par (par i) ≠ par i by omega), if_neg (show par (par i) ≠ i by omega)]
    have h1 := h.rest (par i) hpl hp0 (by omega)
    have hjp : j ≠ par i := fun e => by have := par_lt hj0; rw [hpj, e] at this; omega
    rw [if_neg hjp]
    by_cases hji : j = i
    · rw [if_pos hji]; exact h1
    · rw [if_neg hji]
      have h2 := h.rest j hj hj0 hji
      rw [hpj] at h2
      exact O.trans _ _ _ h1 h2

omit O in
theorem Up.done (h : Up lt l i) (he : 0 < i → lt (at_ l i) (at_ l (par i)) = false) : Heap lt l := fun j hj h0 => by
  by_cases hji : j = i
  · subst hji; exact he h0
  · exact h.rest j hj h0 hji

omit O in
theorem Down.start (h : Heap lt l) (n : Nat) (hn : l.length = n + 1) : Down lt ((l.set 0 (at_ l n)).take n) 0 := by
  have e : ∀ j, 0 < j → j < n → at_ ((l.set 0 (at_ l n)).take n) j = at_ l j := fun j h0 hj => by
    have h1 : at_ ((l.set 0 (at_ l n)).take n) j = at_ (l.set 0 (at_ l n)) j := by
      unfold at_; simp [List.getD_eq_getElem?_getD, List.getElem?_take, hj]
    rw [h1, at_set (by omega), if_neg (by omega)]
  refine ⟨fun j hj h0 hp => ?_, fun h => absurd h (by omega)⟩
  have hj' : j < n := by simp at hj; omega
  have := par_lt h0
  rw [e j h0 hj', e _ (by omega) (by omega)]
  exact h j (by omega) h0

omit O in
theorem Down.step (h : Down lt l i) (hi : i < l.length) {b : Nat} (hb : b < l.length) (hb0 : 0 < b) (hpb : par b = i) (h1 : lt (at_ l i) (at_ l b) = false) (h2 : ∀ c, c < l.length → 0 < c → par c = i → lt (at_ l c) (at_ l b) = false) : Down lt (swap l i b) b := by
  have hib := par_lt hb0
  rw [hpb] at hib
  refine ⟨fun j hj hj0 hne => ?_, fun _ j hj hj0 hpj => ?_⟩
  · rw [length_swap] at hj
    rw [at_swap hi hb, at_swap hi hb, if_neg hne]
    by_cases hpi : par j = i
    · rw [if_pos hpi]
      by_cases hjb : j = b
      · rw [if_pos hjb]; exact h1
      · rw [if_neg hjb, if_neg (show j ≠ i by have := par_lt hj0; omega)]; exact h2 j hj hj0 hpi
    · rw [if_neg hpi]
      have hjb : j ≠ b := fun e => hpi (by rw [e, hpb])
      rw [if_neg hjb]
      by_cases hji : j = i
      · subst hji; rw [if_pos rfl]; exact h.over hj0 b hb hb0 hpb
      · rw [if_neg hji]; exact h.rest j hj hj0 hpi
  · rw [length_swap] at hj
    rw [hpb, at_swap hi hb, at_swap hi hb, if_neg (show i ≠ b by omega), if_pos rfl]
    have := par_lt hj0
    rw [if_neg (show j ≠ b by omega), if_neg (show j ≠ i by omega)]
    have h3 := h.rest j hj hj0 (by omega)
    rwa [hpj] at h3

omit O in
theorem Down.done (h : Down lt l i) (h2 : ∀ c, c < l.length → 0 < c → par c = i → lt (at_ l c) (at_ l i) = false) : Heap lt l := fun j hj h0 => by
  by_cases hp : par j = i
  · rw [hp]; exact h2 j hj h0 hp
  · exact h.rest j hj h0 hp

theorem Heap.first (h : Heap lt l) : ∀ j, j < l.length → lt (at_ l j) (at_ l 0) = false := by
  intro j
  induction j using Nat.strongRecOn with
  | ind j ih =>
    intro hj
    by_cases h0 : j = 0
    · subst h0
      cases hq : lt (at_ l 0) (at_ l 0)
      · rfl
      · have := O.asym _ _ hq; rw [hq] at this; exact this
    · have hp := par_lt (Nat.pos_of_ne_zero h0)
      exact O.trans _ _ _ (ih _ hp (by omega)) (h j hj (by omega))
end

theorem pop_perm {l : List Ent} {n : Nat} (hn : l.length = n + 1) : l.Perm (at_ l 0 :: ((l.set 0 (at_ l n)).take n)) := by
  match l, hn with
  | x :: r, hn =>
    simp at hn
    have e0 : at_ (x :: r) 0 = x := rfl
    rw [e0]
    refine List.Perm.cons _ ?_
    match n, hn with
    | 0, hn => have : r = [] := List.length_eq_zero_iff.1 hn; subst this; simp
    | m + 1, hn =>
      have e1 : at_ (x :: r) (m + 1) = at_ r m := by unfold at_; simp [List.getD_eq_getElem?_getD]
      rw [e1]
      simp only [List.set_cons_zero, List.take_succ_cons]
      have hm : m < r.length := by omega
      have h2 : r = r.take m ++ [at_ r m] := by
        rw [at_get hm]
        conv => lhs; rw [← List.take_append_drop m r, List.drop_eq_getElem_cons hm, List.drop_eq_nil_of_le (by omega)]
      conv => lhs; rw [h2]
      exact List.perm_append_comm

def elder (a b : Ent) : Bool := decide (a.age < b.age)
def lighter (a b : Ent) : Bool := decide (a.weight < b.weight ∨ (a.weight = b.weight ∧ a.age < b.age))
theorem elder_ord : Ord elder := ⟨fun a b h => by simp [elder] at *; omega, fun a b c h1 h2 => by simp [elder] at *; omega⟩
theorem lighter_ord : Ord lighter := ⟨fun a b h => by simp [lighter] at *; omega, fun a b c h1 h2 => by simp [lighter] at *; omega⟩
end Hp
end Go.Proofs.Ytplfbdkljnblmaa

