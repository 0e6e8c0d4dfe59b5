/-
  A region that draws its order: a load may be taken first where every other operation that can come up ahead of it keeps its cell; of what comes behind a store nothing is asked.
-/
import Derived.OrdersHeld
import Derived.Deep.RegionHeld
import Derived.Deep.RegionHeld3
namespace Go.Proofs.Ytejpgifofkiofaa

section
variable {P : Program} {ops : Array Oper} {Q : Exit → Act → World → Prop} {md : Region.Mode} {S : World → Prop}

/-- behind which operations S is asked: behind all but stores and assignments -/
def asksS (ops : Array Oper) (j : Nat) : Bool := match ops[j]? with
  | none => true
  | some o => match o.op with
    | .store .. => false
    | .assign _ => false
    | _ => true

def wpN (P : Program) (md : Region.Mode) (ops : Array Oper) (Q : Exit → Act → World → Prop) (S : World → Prop) : Nat → Array Bool → Act → World → Prop
  | 0, listed, a, w => Region.ready md ops listed = [] ∧ Q .normal a w
  | n + 1, listed, a, w =>
    (Region.ready md ops listed = [] → Q .normal a w) ∧
    ∀ i ∈ Region.ready md ops listed, wpOp P ops Q i (fun a' w' => (asksS ops i = true → S w → S w') ∧ wpN P md ops Q S n (listed.setIfInBounds i true) a' w') a w

theorem wpN_any : ∀ (n : Nat) (listed : Array Bool) (a : Act) (w : World), wpN P md ops Q S n listed a w → wpAny P md ops Q n listed a w
  | 0, _, _, _, h => h
  | n + 1, _, _, _, h => ⟨h.1, fun i hi => wpOp_mono (fun a' w' hh => wpN_any n _ a' w' hh.2) (h.2 i hi)⟩

/-- every operation behind which S is not asked waits for number i, or has come up -/
def lateOk (md : Region.Mode) (ops : Array Oper) (listed : Array Bool) (i : Nat) : Bool :=
  (List.range ops.size).all fun j => asksS ops j || j == i || listed.getD j true || match ops[j]? with
    | some oj => oj.after.any (fun e => Region.binds md e && e.on == i)
    | none => true

theorem lateOk_spec {i : Nat} {listed : Array Bool} (h : lateOk md ops listed i = true) (j : Nat) (oj : Oper) (hj : ops[j]? = some oj) (hne : j ≠ i) (hun : listed.getD j true = false)
    (hno : ∀ e ∈ oj.after, Region.binds md e = true → e.on ≠ i) : asksS ops j = true := by
  simp only [lateOk, List.all_eq_true, List.mem_range] at h
  have h1 := h j (Array.getElem?_eq_some_iff.1 hj).1
  simp only [hj, Bool.or_eq_true, beq_iff_eq, hne, hun, or_false, Bool.false_eq_true] at h1
  rcases h1 with h1 | h1
  · exact h1
  · obtain ⟨e, he, hb⟩ := Array.any_eq_true'.1 h1
    simp only [Bool.and_eq_true, beq_iff_eq] at hb
    exact absurd hb.2 (hno e he hb.1)

theorem wpN_first {i : Nat} {oi : Oper} {v : Value} (hi : ops[i]? = some oi) (hsel : ∀ (j : Nat) (o : Oper) cs b, ops[j]? = some o → o.op ≠ .select cs b)
    (hQ : ∀ c a w, Q (.panic c) (a.put oi.dst v) w → Q (.panic c) a w) (hai : asksS ops i = true) :
    ∀ (n : Nat) (listed : Array Bool) (a : Act) (w : World),
      (∀ j oj, ops[j]? = some oj → j ≠ i → listed.getD j true = false → (∀ e ∈ oj.after, Region.binds md e = true → e.on ≠ i) → oi.apart ops oj = true ∧ asksS ops j = true) →
      i ∈ Region.ready md ops listed → YieldsIf P ops S oi v a → S w →
      wpN P md ops Q S n (listed.setIfInBounds i true) (a.put oi.dst v) w → wpN P md ops Q S (n + 1) listed a w := by
  intro n
  induction n with
  | zero =>
    intro listed a w _ hr hy hS H
    refine ⟨fun h0 => (by rw [h0] at hr; cases hr), fun j hj => ?_⟩
    by_cases hji : j = i
    · subst hji; exact hy.wpOp hi hS ⟨fun _ h => h, H⟩
    · have h0 := ready_mono hj hji
      rw [H.1] at h0; cases h0
  | succ n ih =>
    intro listed a w hfree hr hy hS H
    refine ⟨fun h0 => (by rw [h0] at hr; cases hr), fun j hj => ?_⟩
    by_cases hji : j = i
    · subst hji; exact hy.wpOp hi hS ⟨fun _ h => h, H⟩
    · have hrest := H.2 j (ready_mono hj hji)
      obtain ⟨hjun, oj, hoj, hall⟩ := mem_ready.1 hj
      have hiun := (mem_ready.1 hr).1
      have hnot : ∀ e ∈ oj.after, Region.binds md e = true → e.on ≠ i := fun e he hb heq => by
        have hl := hall e he hb
        rw [heq] at hl
        rcases Nat.lt_or_ge i listed.size with hlt | hge
        · simp [hlt] at hiun hl; rw [hiun] at hl; cases hl
        · simp [Array.getElem?_eq_none hge] at hl
      obtain ⟨hap, haj⟩ := hfree j oj hoj hji hjun hnot
      have hput := wpOp_putIf hoj hap (fun cs b => hsel i oi cs b hi) (fun cs b => hsel j oj cs b hoj) hQ hy hrest
      refine wpOp_mono (fun a' w' hh => ?_) hput
      obtain ⟨hy', hSw, hw⟩ := hh
      refine ⟨hSw, ih (listed.setIfInBounds j true) a' w' ?_ (ready_mono hr (Ne.symm hji)) hy' (hSw haj hS) ?_⟩
      · intro k ok hk hki hun hno
        refine hfree k ok hk hki ?_ hno
        by_cases hjk : j = k
        · subst hjk; exact hjun
        · rw [getD_set_ne true hjk] at hun; exact hun
      · rw [Array.setIfInBounds_comm _ _ hji]; exact hw

/-- number i is taken now -/
theorem wpN_take {i : Nat} {oi : Oper} {v : Value} {n : Nat} {listed : Array Bool} {a : Act} {w : World} (hi : ops[i]? = some oi)
    (hs : (Region.noSelect ops && Region.free md ops listed i && (Region.ready md ops listed).contains i && asksS ops i && lateOk md ops listed i) = true)
    (hQ : ∀ c a w, Q (.panic c) (a.put oi.dst v) w → Q (.panic c) a w) (hS : S w) (hy : YieldsIf P ops S oi v a)
    (h : wpN P md ops Q S n (listed.setIfInBounds i true) (a.put oi.dst v) w) : wpN P md ops Q S (n + 1) listed a w := by
  simp only [Bool.and_eq_true] at hs
  obtain ⟨⟨⟨⟨h1, h2⟩, h3⟩, h4⟩, h5⟩ := hs
  exact wpN_first hi (Region.noSelect_spec h1) hQ h4 n listed a w (fun j oj hj hne hun hno => ⟨Region.free_spec hi h2 j oj hj hne hun hno, lateOk_spec h5 j oj hj hne hun hno⟩) (by simpa using h3) hy hS h

theorem wpN_pureF {i : Nat} {oi : Oper} {v : Value} (hi : ops[i]? = some oi) (hsel : ∀ (j : Nat) (o : Oper) cs b, ops[j]? = some o → o.op ≠ .select cs b)
    (hQ : ∀ c a w, Q (.panic c) (a.put oi.dst v) w → Q (.panic c) a w) :
    ∀ (n : Nat) (listed : Array Bool) (a : Act) (w : World),
      (∀ j oj, ops[j]? = some oj → j ≠ i → listed.getD j true = false → (∀ e ∈ oj.after, Region.binds md e = true → e.on ≠ i) → oi.apart ops oj = true) →
      i ∈ Region.ready md ops listed → YieldsIf P ops (fun _ => True) oi v a →
      wpN P md ops Q S n (listed.setIfInBounds i true) (a.put oi.dst v) w → wpN P md ops Q S (n + 1) listed a w := by
  intro n
  induction n with
  | zero =>
    intro listed a w _ hr hy H
    refine ⟨fun h0 => (by rw [h0] at hr; cases hr), fun j hj => ?_⟩
    by_cases hji : j = i
    · subst hji; exact hy.wpOp hi trivial ⟨fun _ h => h, H⟩
    · have h0 := ready_mono hj hji
      rw [H.1] at h0; cases h0
  | succ n ih =>
    intro listed a w hfree hr hy H
    refine ⟨fun h0 => (by rw [h0] at hr; cases hr), fun j hj => ?_⟩
    by_cases hji : j = i
    · subst hji; exact hy.wpOp hi trivial ⟨fun _ h => h, H⟩
    · have hrest := H.2 j (ready_mono hj hji)
      obtain ⟨hjun, oj, hoj, hall⟩ := mem_ready.1 hj
      have hiun := (mem_ready.1 hr).1
      have hnot : ∀ e ∈ oj.after, Region.binds md e = true → e.on ≠ i := fun e he hb heq => by
        have hl := hall e he hb
        rw [heq] at hl
        rcases Nat.lt_or_ge i listed.size with hlt | hge
        · simp [hlt] at hiun hl; rw [hiun] at hl; cases hl
        · simp [Array.getElem?_eq_none hge] at hl
      have hap := hfree j oj hoj hji hjun hnot
      have hput := wpOp_putIf hoj hap (fun cs b => hsel i oi cs b hi) (fun cs b => hsel j oj cs b hoj) hQ hy hrest
      refine wpOp_mono (fun a' w' hh => ?_) hput
      obtain ⟨hy', hSw, hw⟩ := hh
      refine ⟨hSw, ih (listed.setIfInBounds j true) a' w' ?_ (ready_mono hr (Ne.symm hji)) hy' ?_⟩
      · intro k ok hk hki hun hno
        refine hfree k ok hk hki ?_ hno
        by_cases hjk : j = k
        · subst hjk; exact hjun
        · rw [getD_set_ne true hjk] at hun; exact hun
      · rw [Array.setIfInBounds_comm _ _ hji]; exact hw
/-- number i, which asks nothing of memory, is taken now, whatever stores may come ahead of it -/
theorem wpN_pure {i : Nat} {oi : Oper} {v : Value} {n : Nat} {listed : Array Bool} {a : Act} {w : World} (hi : ops[i]? = some oi)
    (hs : (Region.noSelect ops && Region.free md ops listed i && (Region.ready md ops listed).contains i) = true)
    (hQ : ∀ c a w, Q (.panic c) (a.put oi.dst v) w → Q (.panic c) a w) (hy : YieldsIf P ops (fun _ => True) oi v a)
    (h : wpN P md ops Q S n (listed.setIfInBounds i true) (a.put oi.dst v) w) : wpN P md ops Q S (n + 1) listed a w := by
  simp only [Bool.and_eq_true] at hs
  obtain ⟨⟨h1, h2⟩, h3⟩ := hs
  exact wpN_pureF hi (Region.noSelect_spec h1) hQ n listed a w (fun j oj hj hne hun hno => Region.free_spec hi h2 j oj hj hne hun hno) (by simpa using h3) hy h

/-- number i alone can come up now -/
theorem wpN_step {i : Nat} {oi : Oper} {n : Nat} {listed : Array Bool} {a : Act} {w : World} (hr : Region.ready md ops listed = [i]) (hi : ops[i]? = some oi)
    (h : ∀ K : Act → World → Prop, Shut (∀ a w, (asksS ops i = true → S w) → wpN P md ops Q S n (listed.setIfInBounds i true) a w → K a w) → if Region.wanted oi (yielded ops a.tmps) = true then Oper.wp P oi a w K Q else K (a.put oi.dst undef) w) :
    wpN P md ops Q S (n + 1) listed a w := by
  refine ⟨fun h0 => (by rw [hr] at h0; cases h0), fun j hj => ?_⟩
  rw [hr] at hj
  have : j = i := by simpa using hj
  subst this
  exact wpOp_step hi (fun K hK => h K (fun a w h1 h2 => hK a w ⟨fun ha _ => h1 ha, h2⟩))

/-- all have come up -/
theorem wpN_done {n : Nat} {listed : Array Bool} {a : Act} {w : World} (hr : Region.ready md ops listed = []) (h : Q .normal a w) : wpN P md ops Q S n listed a w := by
  cases n with
  | zero => exact ⟨hr, h⟩
  | succ n => exact ⟨fun _ => h, fun i hi => by rw [hr] at hi; cases hi⟩

theorem wp_region_need {id : Nat} {a : Act} {w : World} (hm : P.follows .mixedOrders = true) (h : wpN P .any ops Q S ops.size (Array.replicate ops.size false) a w.drew) : (Code.region id ops true).wp P Q a w :=
  wp_region_any hm (wpN_any _ _ _ _ h)
end
end Go.Proofs.Ytejpgifofkiofaa
