/-
  The contracts of heads and types once more, where all of memory may be read. A region that draws its order where several operations can come up.
-/
import Derived.Test.YtejpgifofkiofaaRowChecks6p18
import Derived.Test.YtejpgifofkiofaaRowChecks6p19
import Derived.Test.YtejpgifofkiofaaRowChecks6p24
import Derived.Test.YtejpgifofkiofaaRowChecks6p2
import Derived.RegionTactic
namespace Go.Proofs.Ytejpgifofkiofaa
open Go.RowKit

section
variable {w : World} {b : Int} {cv mv xv tb tk ti ta s ub : Value} {C M X : List Ty} {t : Tm} {u : Ty}
theorem IsSl.low {α : Type} {r : Rp α} {v : Value} {l : List α} (hn : 0 < r.n) (h : IsSl r (fun _ => True) w v l) : IsSl r (fun q => q < w.heap.size) w v l := h.weaken hn fun _ hq _ => hq
theorem TyPostE.true {F : Nat → Prop} {o : Option Ty} {e : Ending} {w' : World} (h : TyPostE F o w e w') : TyPostE (fun _ => True) o w e w' := by
  obtain ⟨s, b, h1, h2, h3⟩ := h
  exact ⟨s, b, h1, h2.trueb, h3⟩
theorem HeadPost.true {F : Nat → Prop} {o : Option Ty} {e : Ending} {w' : World} (h : HeadPost F o w e w') : HeadPost (fun _ => True) o w e w' := by
  obtain ⟨s, b, h1, h2, h3⟩ := h
  exact ⟨s, b, h1, h2.trueb, h3⟩
theorem HeadType_kT (hc : IsSl rpTy (fun _ => True) w cv C) (hm : IsSl rpTy (fun _ => True) w mv M) (hx : IsSl rpTy (fun _ => True) w xv X) (k i : Int) (hi : i ≤ 9223372036854775807) (hsz : ∀ t, headTy C M X k i = some t → t.size ≤ 90000) :
    Calls Try.prog 59 #[.agg #[.int .i64 b, cv, mv], xv, .agg #[.int .i64 k, .int .i64 i]] w (TyPostE (fun _ => True) (headTy C M X k i) w) :=
  (HeadType_k (F := fun q => q < w.heap.size) (fun _ h => h) (hc.low (by decide)) (hm.low (by decide)) ((IsSl2.of (hx.low (by decide))).anyRow (by decide)) k i hi hsz).mono fun _ _ h => h.true
theorem headType_rT (hc : IsSl rpTy (fun _ => True) w cv C) (hm : IsSl rpTy (fun _ => True) w mv M) (hx : IsSl rpTy (fun _ => True) w xv X) (k i : Int) :
    Calls Try.prog 60 #[.agg #[.int .i64 b, cv, mv], xv, .agg #[.int .i64 k, .int .i64 i]] w (HeadPost (fun _ => True) (headTy C M X k i) w) :=
  (headType_r (F := fun q => q < w.heap.size) (fun _ h => h) (hc.low (by decide)) (hm.low (by decide)) ((IsSl2.of (hx.low (by decide))).anyRow (by decide)) k i).mono fun _ _ h => h.true
theorem TypeOf_kT (hc : IsSl rpTy (fun _ => True) w cv C) (hm : IsSl rpTy (fun _ => True) w mv M) (hx : IsSl rpTy (fun _ => True) w xv X) (ht : IsTm (fun _ => True) w tb tk ti ta t) (hi : t.index ≤ 9223372036854775807) (hl : X.length ≤ 50000) (hz : t.full ≤ 40000) :
    Calls Try.prog 61 #[.agg #[.int .i64 b, cv, mv], xv, .agg #[tb, tk, ti, ta]] w (TyPostE (fun _ => True) ((headTy C M (X ++ t.binds) t.kind t.index).map fun h => .mk t.binds h.base) w) :=
  (TypeOf_k (F := fun q => q < w.heap.size) (fun _ h => h) (hc.low (by decide)) (hm.low (by decide)) ((IsSl2.of (hx.low (by decide))).anyRow (by decide)) (ht.weaken fun _ hq _ => hq) hi hl hz).mono fun _ _ h => h.true
theorem TypeOf_rT (hc : IsSl rpTy (fun _ => True) w cv C) (hm : IsSl rpTy (fun _ => True) w mv M) (hx : IsSl rpTy (fun _ => True) w xv X) (ht : IsTm (fun _ => True) w tb tk ti ta t) (hi : t.index ≤ 9223372036854775807) (hl : X.length ≤ 50000) (hz : t.full ≤ 40000) :
    Calls Try.prog 62 #[.agg #[.int .i64 b, cv, mv], xv, .agg #[tb, tk, ti, ta]] w (HeadPost (fun _ => True) ((headTy C M (X ++ t.binds) t.kind t.index).map fun h => .mk t.binds h.base) w) :=
  (TypeOf_r (F := fun q => q < w.heap.size) (fun _ h => h) (hc.low (by decide)) (hm.low (by decide)) ((IsSl2.of (hx.low (by decide))).anyRow (by decide)) (ht.weaken fun _ hq _ => hq) hi hl hz).mono fun _ _ h => h.true
theorem Check_kT (hc : IsSl rpTy (fun _ => True) w cv C) (hm : IsSl rpTy (fun _ => True) w mv M) (hx : IsSl rpTy (fun _ => True) w xv X) (ht : IsTm (fun _ => True) w tb tk ti ta t) (hu : IsTy (fun _ => True) w s ub u) (hz : X.length + t.full ≤ 90000) (hfit : t.Fit) :
    Calls Try.prog 63 #[.agg #[.int .i64 b, cv, mv], xv, .agg #[tb, tk, ti, ta], .agg #[s, ub]] w (RetCheck C M t X u w) :=
  Check_k (F := fun q => q < w.heap.size) t w _ _ _ _ _ _ _ _ _ X u (fun _ h => h) (hc.low (by decide)) (hm.low (by decide)) ((IsSl2.of (hx.low (by decide))).anyRow (by decide)) (ht.weaken fun _ hq _ => hq) (hu.weaken fun _ hq _ => hq) hz hfit
theorem Check_rT (hc : IsSl rpTy (fun _ => True) w cv C) (hm : IsSl rpTy (fun _ => True) w mv M) (hx : IsSl rpTy (fun _ => True) w xv X) (ht : IsTm (fun _ => True) w tb tk ti ta t) (hu : IsTy (fun _ => True) w s ub u) (hz : X.length + t.full ≤ 90000) (hfit : t.Fit) :
    Calls Try.prog 64 #[.agg #[.int .i64 b, cv, mv], xv, .agg #[tb, tk, ti, ta], .agg #[s, ub]] w (RetCheck C M t X u w) :=
  Check_r (F := fun q => q < w.heap.size) t w _ _ _ _ _ _ _ _ _ X u (fun _ h => h) (hc.low (by decide)) (hm.low (by decide)) ((IsSl2.of (hx.low (by decide))).anyRow (by decide)) (ht.weaken fun _ hq _ => hq) (hu.weaken fun _ hq _ => hq) hz hfit
end
/-- a type and an error's number -/
def TyRet (z : Ty) (c : Int) (w : World) (e : Ending) (w' : World) : Prop := ∃ s b, e = .returned (.tuple #[.agg #[s, b], .int .i64 c]) ∧ IsTy (fun _ => True) w' s b z ∧ Below w.heap.size w w'
def HdRet (z : Ty) (k : Bool) (w : World) (e : Ending) (w' : World) : Prop := ∃ s b, e = .returned (.tuple #[.agg #[s, b], .bool k]) ∧ IsTy (fun _ => True) w' s b z ∧ Below w.heap.size w w'
theorem TyPostE.to {o : Option Ty} {z : Ty} {k : Bool} {c : Int} {w : World} {e : Ending} {w' : World} (hk : o.isSome = k) (hz : o.getD tyZ = z) (hc : c = if k then 0 else 10) (h : TyPostE (fun _ => True) o w e w') : TyRet z c w e w' := by
  subst hk hz hc; exact h
theorem HeadPost.to {o : Option Ty} {z : Ty} {k : Bool} {w : World} {e : Ending} {w' : World} (hk : o.isSome = k) (hz : o.getD tyZ = z) (h : HeadPost (fun _ => True) o w e w') : HdRet z k w e w' := by
  subst hk hz; exact h
theorem headTy_mem {C M X : List Ty} {k i : Int} {t : Ty} (h : headTy C M X k i = some t) : t ∈ (C ++ M) ++ X := by
  unfold headTy at h
  simp only [List.mem_append]
  split at h
  · cases h
  split at h
  · exact .inr (by have := List.mem_of_getElem? h; simpa using this)
  split at h
  · exact .inl (.inl (List.mem_of_getElem? h))
  split at h
  · exact .inl (.inr (List.mem_of_getElem? h))
  · cases h
theorem sizes_le_of {l : List Ty} {n : Nat} (h : ∀ t ∈ l, t.size ≤ n) : Ty.sizes l ≤ l.length * n := by
  induction l with
  | nil => simp [Ty.sizes]
  | cons t l ih =>
    have h1 := h t (by simp)
    have h2 := ih fun u hu => h u (by simp [hu])
    simp only [Ty.sizes, List.length_cons, Nat.succ_mul]
    omega
end Go.Proofs.Ytejpgifofkiofaa

namespace Go.Proofs.Ytejpgifofkiofaa

section
variable {P : Program} {ops : Array Oper} {Q : Exit → Act → World → Prop} {md : Region.Mode} {S : World → Prop}

/-- one of these comes up now -/
theorem wpN_pick (rs : List Nat) {n : Nat} {listed : Array Bool} {a : Act} {w : World} (hr : Region.ready md ops listed = rs) (hne : rs ≠ [])
    (h : ∀ i ∈ rs, wpOp P ops Q i (fun a' w' => (asksS ops i = true → S w') ∧ wpN P md ops Q S n (listed.setIfInBounds i true) a' w') a w) : wpN P md ops Q S (n + 1) listed a w :=
  ⟨fun h0 => absurd (hr.symm.trans h0) hne, fun i hi => wpOp_mono (fun _ _ hh => ⟨fun ha _ => hh.1 ha, hh.2⟩) (h i (by rw [hr] at hi; exact hi))⟩

/-- the parts of the statement under names of their own -/
theorem wpN_name {n : Nat} {listed : Array Bool} {a : Act} {w : World}
    (h : ∀ ops' Q' S' a', ops' = ops → Q' = Q → S' = S → a' = a → wpN P md ops' Q' S' n listed a' w) : wpN P md ops Q S n listed a w := h _ _ _ _ rfl rfl rfl rfl

/-- D: operations that all wait, one behind the other, for number i -/
def waitsFor (md : Region.Mode) (ops : Array Oper) (listed : Array Bool) (i : Nat) (D : List Nat) : Bool :=
  D.all fun k => !(listed.getD k true) && match ops[k]? with
    | some o => o.after.any fun e => Region.binds md e && (e.on == i || D.contains e.on)
    | none => false
def freeBut (ops : Array Oper) (listed : Array Bool) (i : Nat) (D : List Nat) : Bool :=
  match ops[i]? with
  | none => false
  | some oi => (List.range ops.size).all fun j => j == i || listed.getD j true || D.contains j || match ops[j]? with
    | some oj => oi.apart ops oj && asksS ops j
    | none => true

theorem waits_not_ready {i j : Nat} {D : List Nat} {listed : Array Bool} (hw : ∀ k ∈ D, listed.getD k true = false ∧ ∃ o, ops[k]? = some o ∧ ∃ e ∈ o.after, Region.binds md e = true ∧ (e.on = i ∨ e.on ∈ D)) (hi : listed.getD i true = false) (hj : j ∈ D) : j ∉ Region.ready md ops listed := by
  intro hr
  obtain ⟨_, o, ho, hall⟩ := mem_ready.1 hr
  obtain ⟨_, o', ho', e, he, hb, hon⟩ := hw j hj
  rw [ho] at ho'; cases ho'
  have hl := hall e he hb
  have hun : listed.getD e.on true = false := by
    rcases hon with h | h
    · rw [h]; exact hi
    · exact (hw _ h).1
  rcases Nat.lt_or_ge e.on listed.size with hlt | hge
  · simp [hlt] at hun hl; rw [hun] at hl; cases hl
  · simp [Array.getElem?_eq_none hge] at hl

theorem wpN_firstD {i : Nat} {oi : Oper} {v : Value} {D : List Nat} (hi : ops[i]? = some oi) (hiD : i ∉ D) (hsel : ∀ (j : Nat) (o : Oper) cs b, ops[j]? = some o → o.op ≠ .select cs b)
    (hQ : ∀ c a w, Q (.panic c) (a.put oi.dst v) w → Q (.panic c) a w) (hai : asksS ops i = true) :
    ∀ (n : Nat) (listed : Array Bool) (a : Act) (w : World),
      (∀ k ∈ D, listed.getD k true = false ∧ ∃ o, ops[k]? = some o ∧ ∃ e ∈ o.after, Region.binds md e = true ∧ (e.on = i ∨ e.on ∈ D)) →
      (∀ j oj, ops[j]? = some oj → j ≠ i → listed.getD j true = false → j ∉ D → oi.apart ops oj = true ∧ asksS ops j = true) →
      i ∈ Region.ready md ops listed → YieldsIf P ops S oi v a → S w →
      wpN P md ops Q S n (listed.setIfInBounds i true) (a.put oi.dst v) w → wpN P md ops Q S (n + 1) listed a w := by
  intro n
  induction n with
  | zero =>
    intro listed a w _ _ hr hy hS H
    refine ⟨fun h0 => (by rw [h0] at hr; cases hr), fun j hj => ?_⟩
    by_cases hji : j = i
    · subst hji; exact hy.wpOp hi hS ⟨fun _ h => h, H⟩
    · have h0 := ready_mono hj hji
      rw [H.1] at h0; cases h0
  | succ n ih =>
    intro listed a w hw hfree hr hy hS H
    refine ⟨fun h0 => (by rw [h0] at hr; cases hr), fun j hj => ?_⟩
    by_cases hji : j = i
    · subst hji; exact hy.wpOp hi hS ⟨fun _ h => h, H⟩
    · have hrest := H.2 j (ready_mono hj hji)
      obtain ⟨hjun, oj, hoj, hall⟩ := mem_ready.1 hj
      have hiun := (mem_ready.1 hr).1
      have hjD : j ∉ D := fun h => waits_not_ready hw hiun h hj
      obtain ⟨hap, haj⟩ := hfree j oj hoj hji hjun hjD
      have hput := wpOp_putIf hoj hap (fun cs b => hsel i oi cs b hi) (fun cs b => hsel j oj cs b hoj) hQ hy hrest
      refine wpOp_mono (fun a' w' hh => ?_) hput
      obtain ⟨hy', hSw, hw'⟩ := hh
      refine ⟨hSw, ih (listed.setIfInBounds j true) a' w' ?_ ?_ (ready_mono hr (Ne.symm hji)) hy' (hSw haj hS) ?_⟩
      · intro k hk
        have hkj : j ≠ k := fun h => hjD (h ▸ hk)
        refine ⟨?_, (hw k hk).2⟩
        rw [getD_set_ne true hkj]; exact (hw k hk).1
      · intro k ok hk hki hun hkD
        refine hfree k ok hk hki ?_ hkD
        by_cases hjk : j = k
        · subst hjk; exact hjun
        · rw [getD_set_ne true hjk] at hun; exact hun
      · rw [Array.setIfInBounds_comm _ _ hji]; exact hw'

/-- number i is taken now: what does not suffer it waits for it, one behind the other -/
theorem wpN_takeD (D : List Nat) {i : Nat} {oi : Oper} {v : Value} {n : Nat} {listed : Array Bool} {a : Act} {w : World} (hi : ops[i]? = some oi)
    (hs : (Region.noSelect ops && freeBut ops listed i D && (Region.ready md ops listed).contains i && asksS ops i && waitsFor md ops listed i D && !(D.contains i)) = true)
    (hQ : ∀ c a w, Q (.panic c) (a.put oi.dst v) w → Q (.panic c) a w) (hS : S w) (hy : YieldsIf P ops S oi v a)
    (h : wpN P md ops Q S n (listed.setIfInBounds i true) (a.put oi.dst v) w) : wpN P md ops Q S (n + 1) listed a w := by
  simp only [Bool.and_eq_true] at hs
  obtain ⟨⟨⟨⟨⟨h1, h2⟩, h3⟩, h4⟩, h5⟩, h6⟩ := hs
  refine wpN_firstD (D := D) hi (by simpa using h6) (Region.noSelect_spec h1) hQ h4 n listed a w (fun k hk => ?_) (fun j oj hj hne hun hD => ?_) (by simpa using h3) hy hS h
  · simp only [waitsFor, List.all_eq_true] at h5
    have h7 := h5 k hk
    simp only [Bool.and_eq_true, Bool.not_eq_true'] at h7
    refine ⟨h7.1, ?_⟩
    have h8 := h7.2
    cases ho : ops[k]? with
    | none => rw [ho] at h8; cases h8
    | some o =>
      rw [ho] at h8
      obtain ⟨e, he, hb⟩ := Array.any_eq_true'.1 h8
      simp only [Bool.and_eq_true, Bool.or_eq_true, beq_iff_eq, List.contains_iff_mem] at hb
      exact ⟨o, rfl, e, he, hb.1, hb.2⟩
  · simp only [freeBut, hi, List.all_eq_true, List.mem_range] at h2
    have h7 := h2 j (Array.getElem?_eq_some_iff.1 hj).1
    simp only [hj, Bool.or_eq_true, beq_iff_eq, hne, hun, Bool.false_eq_true, false_or, List.contains_iff_mem, hD, Bool.and_eq_true] at h7
    exact h7

theorem pick_two {p : Nat → Prop} {i j : Nat} (hi : p i) (hj : p j) : ∀ x ∈ [i, j], p x := by
  intro x hx
  simp only [List.mem_cons, List.not_mem_nil, or_false] at hx
  rcases hx with rfl | rfl
  · exact hi
  · exact hj
theorem pick_three {p : Nat → Prop} {i j k : Nat} (hi : p i) (hj : p j) (hk : p k) : ∀ x ∈ [i, j, k], p x := by
  intro x hx
  simp only [List.mem_cons, List.not_mem_nil, or_false] at hx
  rcases hx with rfl | rfl | rfl
  · exact hi
  · exact hj
  · exact hk
theorem pick_one {p : Nat → Prop} {i : Nat} (hi : p i) : ∀ x ∈ [i], p x := by
  intro x hx
  simp only [List.mem_cons, List.not_mem_nil, or_false] at hx
  rcases hx with rfl
  exact hi
end
end Go.Proofs.Ytejpgifofkiofaa

