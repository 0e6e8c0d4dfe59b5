/-
  A region that draws its order where several operations can come up. term.Shift. Indexes that grow, and back: plain law.
-/
import Derived.Test.YtejpgifofkiofaaRowWell6p3
import Derived.RegionTactic
import Derived.Test.YtejpgifofkiofaaRowWell6p33
import Derived.Test.YtejpgifofkiofaaRowWell6p35
set_option linter.unusedVariables false
set_option linter.unusedSimpArgs false
namespace Go.Proofs.Ytejpgifofkiofaa

section
variable {P : Program} {ops : Array Oper} {Q : Exit → Act → World → Prop} {md : Region.Mode} {S : World → Prop}

theorem wpN_pick (rs : List Nat) {n : Nat} {listed : Array Bool} {a : Act} {w : World} (hr : Region.ready md ops listed = rs) (hne : rs ≠ [])
    (h : ∀ i ∈ rs, wpOp P ops Q i (fun a' w' => (asksS ops i = true → S w') ∧ wpN P md ops Q S n (listed.setIfInBounds i true) a' w') a w) : wpN P md ops Q S (n + 1) listed a w :=
  ⟨fun h0 => absurd (hr.symm.trans h0) hne, fun i hi => wpOp_mono (fun _ _ hh => ⟨fun ha _ => hh.1 ha, hh.2⟩) (h i (by rw [hr] at hi; exact hi))⟩

theorem wpN_name {n : Nat} {listed : Array Bool} {a : Act} {w : World}
    (h : ∀ ops' Q' S' a', ops' = ops → Q' = Q → S' = S → a' = a → wpN P md ops' Q' S' n listed a' w) : wpN P md ops Q S n listed a w := h _ _ _ _ rfl rfl rfl rfl

def waitsFor (md : Region.Mode) (ops : Array Oper) (listed : Array Bool) (i : Nat) (D : List Nat) : Bool :=
  D.all fun k => !(listed.getD k true) && match ops[k]? with
    | some o => o.after.any fun e => Region.binds md e && (e.on == i || D.contains e.on)
    | none => false
def freeBut (ops : Array Oper) (listed : Array Bool) (i : Nat) (D : List Nat) : Bool :=
  match ops[i]? with
  | none => false
  | some oi => (List.range ops.size).all fun j => j == i || listed.getD j true || D.contains j || match ops[j]? with
    | some oj => oi.apart ops oj && asksS ops j
    | none => true

theorem waits_not_ready {i j : Nat} {D : List Nat} {listed : Array Bool} (hw : ∀ k ∈ D, listed.getD k true = false ∧ ∃ o, ops[k]? = some o ∧ ∃ e ∈ o.after, Region.binds md e = true ∧ (e.on = i ∨ e.on ∈ D)) (hi : listed.getD i true = false) (hj : j ∈ D) : j ∉ Region.ready md ops listed := by
  intro hr
  obtain ⟨_, o, ho, hall⟩ := mem_ready.1 hr
  obtain ⟨_, o', ho', e, he, hb, hon⟩ := hw j hj
  rw [ho] at ho'; cases ho'
  have hl := hall e he hb
  have hun : listed.getD e.on true = false := by
    rcases hon with h | h
    · rw [h]; exact hi
    · exact (hw _ h).1
  rcases Nat.lt_or_ge e.on listed.size with hlt | hge
  · simp [hlt] at hun hl; rw [hun] at hl; cases hl
  · simp [Array.getElem?_eq_none hge] at hl

theorem wpN_firstD {i : Nat} {oi : Oper} {v : Value} {D : List Nat} (hi : ops[i]? = some oi) (hiD : i ∉ D) (hsel : ∀ (j : Nat) (o : Oper) cs b, ops[j]? = some o → o.op ≠ .select cs b)
    (hQ : ∀ c a w, Q (.panic c) (a.put oi.dst v) w → Q (.panic c) a w) (hai : asksS ops i = true) :
    ∀ (n : Nat) (listed : Array Bool) (a : Act) (w : World),
      (∀ k ∈ D, listed.getD k true = false ∧ ∃ o, ops[k]? = some o ∧ ∃ e ∈ o.after, Region.binds md e = true ∧ (e.on = i ∨ e.on ∈ D)) →
      (∀ j oj, ops[j]? = some oj → j ≠ i → listed.getD j true = false → j ∉ D → oi.apart ops oj = true ∧ asksS ops j = true) →
      i ∈ Region.ready md ops listed → YieldsIf P ops S oi v a → S w →
      wpN P md ops Q S n (listed.setIfInBounds i true) (a.put oi.dst v) w → wpN P md ops Q S (n + 1) listed a w := by
  intro n
  induction n with
  | zero =>
    intro listed a w _ _ hr hy hS H
    refine ⟨fun h0 => (by rw [h0] at hr; cases hr), fun j hj => ?_⟩
    by_cases hji : j = i
    · subst hji; exact hy.wpOp hi hS ⟨fun _ h => h, H⟩
    · have h0 := ready_mono hj hji
      rw [H.1] at h0; cases h0
  | succ n ih =>
    intro listed a w hw hfree hr hy hS H
    refine ⟨fun h0 => (by rw [h0] at hr; cases hr), fun j hj => ?_⟩
    by_cases hji : j = i
    · subst hji; exact hy.wpOp hi hS ⟨fun _ h => h, H⟩
    · have hrest := H.2 j (ready_mono hj hji)
      obtain ⟨hjun, oj, hoj, hall⟩ := mem_ready.1 hj
      have hiun := (mem_ready.1 hr).1
      have hjD : j ∉ D := fun h => waits_not_ready hw hiun h hj
      obtain ⟨hap, haj⟩ := hfree j oj hoj hji hjun hjD
      have hput := wpOp_putIf hoj hap (fun cs b => hsel i oi cs b hi) (fun cs b => hsel j oj cs b hoj) hQ hy hrest
      refine wpOp_mono (fun a' w' hh => ?_) hput
      obtain ⟨hy', hSw, hw'⟩ := hh
      refine ⟨hSw, ih (listed.setIfInBounds j true) a' w' ?_ ?_ (ready_mono hr (Ne.symm hji)) hy' (hSw haj hS) ?_⟩
      · intro k hk
        have hkj : j ≠ k := fun h => hjD (h ▸ hk)
        refine ⟨?_, (hw k hk).2⟩
        rw [getD_set_ne true hkj]; exact (hw k hk).1
      · intro k ok hk hki hun hkD
        refine hfree k ok hk hki ?_ hkD
        by_cases hjk : j = k
        · subst hjk; exact hjun
        · rw [getD_set_ne true hjk] at hun; exact hun
      · rw [Array.setIfInBounds_comm _ _ hji]; exact hw'

theorem wpN_takeD (D : List Nat) {i : Nat} {oi : Oper} {v : Value} {n : Nat} {listed : Array Bool} {a : Act} {w : World} (hi : ops[i]? = some oi)
    (hs : (Region.noSelect ops && freeBut ops listed i D && (Region.ready md ops listed).contains i && asksS ops i && waitsFor md ops listed i D && !(D.contains i)) = true)
    (hQ : ∀ c a w, Q (.panic c) (a.put oi.dst v) w → Q (.panic c) a w) (hS : S w) (hy : YieldsIf P ops S oi v a)
    (h : wpN P md ops Q S n (listed.setIfInBounds i true) (a.put oi.dst v) w) : wpN P md ops Q S (n + 1) listed a w := by
  simp only [Bool.and_eq_true] at hs
  obtain ⟨⟨⟨⟨⟨h1, h2⟩, h3⟩, h4⟩, h5⟩, h6⟩ := hs
  refine wpN_firstD (D := D) hi (by simpa using h6) (Region.noSelect_spec h1) hQ h4 n listed a w (fun k hk => ?_) (fun j oj hj hne hun hD => ?_) (by simpa using h3) hy hS h
  · simp only [waitsFor, List.all_eq_true] at h5
    have h7 := h5 k hk
    simp only [Bool.and_eq_true, Bool.not_eq_true'] at h7
    refine ⟨h7.1, ?_⟩
    have h8 := h7.2
    cases ho : ops[k]? with
    | none => rw [ho] at h8; cases h8
    | some o =>
      rw [ho] at h8
      obtain ⟨e, he, hb⟩ := Array.any_eq_true'.1 h8
      simp only [Bool.and_eq_true, Bool.or_eq_true, beq_iff_eq, List.contains_iff_mem] at hb
      exact ⟨o, rfl, e, he, hb.1, hb.2⟩
  · simp only [freeBut, hi, List.all_eq_true, List.mem_range] at h2
    have h7 := h2 j (Array.getElem?_eq_some_iff.1 hj).1
    simp only [hj, Bool.or_eq_true, beq_iff_eq, hne, hun, Bool.false_eq_true, false_or, List.contains_iff_mem, hD, Bool.and_eq_true] at h7
    exact h7

theorem pick_two {p : Nat → Prop} {i j : Nat} (hi : p i) (hj : p j) : ∀ x ∈ [i, j], p x := by
  intro x hx
  simp only [List.mem_cons, List.not_mem_nil, or_false] at hx
  rcases hx with rfl | rfl
  · exact hi
  · exact hj
theorem pick_three {p : Nat → Prop} {i j k : Nat} (hi : p i) (hj : p j) (hk : p k) : ∀ x ∈ [i, j, k], p x := by
  intro x hx
  simp only [List.mem_cons, List.not_mem_nil, or_false] at hx
  rcases hx with rfl | rfl | rfl
  · exact hi
  · exact hj
  · exact hk
theorem pick_one {p : Nat → Prop} {i : Nat} (hi : p i) : ∀ x ∈ [i], p x := by
  intro x hx
  simp only [List.mem_cons, List.not_mem_nil, or_false] at hx
  rcases hx with rfl
  exact hi
end
end Go.Proofs.Ytejpgifofkiofaa

namespace Go.Proofs.Ytejpgifofkiofaa
open Go.RowKit

theorem shift_rng (b f : Int) (hf : 0 ≤ f) (e x : Int) (hx : 0 ≤ x) : 0 ≤ (shiftF b f e x).2 ∧ ((shiftF b f e x).2 ≤ x ∨ (shiftF b f e x).2 ≤ 1000) := by
  unfold shiftF
  by_cases h1 : x < f
  · rw [if_pos h1]; exact ⟨hx, .inl (Int.le_refl _)⟩
  · rw [if_neg h1]
    by_cases h2 : argBad b f x
    · rw [if_pos h2]; exact ⟨Int.le_refl _, .inr (by simp)⟩
    · rw [if_neg h2]
      by_cases h3 : longBad b f x
      · rw [if_pos h3]; exact ⟨Int.le_refl _, .inr (by simp)⟩
      · rw [if_neg h3]
        unfold argBad at h2
        unfold longBad at h3
        constructor
        · show 0 ≤ x + b; omega
        · right; show x + b ≤ 1000; omega

def ShiftRo (p0 p1 p2 pe k : Nat) : Prop := k = p0 ∨ k = p1 ∨ k = p2 ∨ k = pe
theorem turner_shift (p0 p1 p2 pe : Nat) (b f : Int) (hb : -9223372036854775808 ≤ b ∧ b ≤ 9223372036854775807) (hf : 0 ≤ f ∧ f ≤ 9223372036854775807) : TurnerS p0 p1 p2 (some pe) (ShiftRo p0 p1 p2 pe) (ShiftSt p0 p1 p2 pe b f) (shiftF b f) where
  call := fun s x w hs h0 h1 => shift2_k p0 p1 p2 pe b f hb hf w s x hs h0 h1
  keep := fun s w w' ⟨x0, x1, x2, xe, d⟩ h => ⟨x0.same (h _ (.inl rfl)), x1.same (h _ (.inr (.inl rfl))), x2.same (h _ (.inr (.inr (.inl rfl)))), xe.same (h _ (.inr (.inr (.inr rfl)))), d⟩
  sub := fun k hk => by cases hk; exact .inr (.inr (.inr rfl))
  rng := fun s x h => shift_rng b f hf.1 s x h

def ShiftPost (p : Tm × Int) (w : World) (e : Ending) (w' : World) : Prop := ∃ b k i a, e = .returned (.tuple #[.agg #[b, k, i, a], .int .i64 p.2]) ∧ IsTm (fun q => w.heap.size ≤ q) w' b k i a p.1 ∧ Below w.heap.size w w'

set_option maxRecDepth 100000 in
set_option maxHeartbeats 1000000 in
theorem shift_k {F : Nat → Prop} {w : World} {tb tk ti ta : Value} {t : Tm} (ht : IsTm F w tb tk ti ta t) (hsz : t.full ≤ 80000) (hfit : t.Fit) (b f : Int) (hb : -9223372036854775808 ≤ b ∧ b ≤ 9223372036854775807) (hf : -9223372036854775808 ≤ f ∧ f ≤ 9223372036854775807) :
    Calls Try.prog 27 #[.agg #[tb, tk, ti, ta], .int .i64 b, .int .i64 f] w (ShiftPost (t.shift b f) w) := by
  have Ht := Lib.hid (ht.weaken (F' := fun q => F q ∧ q < w.heap.size) fun q h1 h2 => ⟨h2, h1⟩)
  obtain ⟨pa, pc, qa, qc, rfl, rfl, rfl, rfl⟩ := ht.shape
  clear ht
  obtain ⟨x1, hx1⟩ : ∃ x, t.binds.length = x := ⟨_, rfl⟩
  obtain ⟨x2, hx2⟩ : ∃ x, t.args.length = x := ⟨_, rfl⟩
  obtain ⟨x3, hx3⟩ : ∃ x, t.kind = x := ⟨_, rfl⟩
  obtain ⟨x4, hx4⟩ : ∃ x, t.index = x := ⟨_, rfl⟩
  rw [hx1, hx2, hx3, hx4] at Ht ⊢
  clear hx1 hx2 hx3 hx4
  obtain ⟨P, hP⟩ : ∃ P, t.shift b f = P := ⟨_, rfl⟩
  rw [hP]
  by_cases hf0 : f < 0
  · have HP : Hid (P = (Tm.zero, 1)) := by show _ = _; rw [← hP, Tm.shift, if_pos hf0]
    clear hP
    go_enter Try.func27, Try.ntmps27
    go_wp2_with fail
    refine bodyPost_ret (v := .tuple #[.agg #[.slice none 0 0, .int .i64 0, .int .i64 0, .slice none 0 0], .int .i64 1]) (by simp [results, Try.results27, go_sem]) rfl ?_
    rw [HP.out]
    exact ⟨_, _, _, _, rfl, isTm_zero _ _, ((((Below.refl _ _).alloc (Nat.le_refl _) _).alloc (by simp) _).alloc (by simp; omega) _).alloc (by simp; omega) _⟩
  · have HP : Hid (P = if shiftCode b f (t.looses 0) = 0 then (t.mapl (grow b f) 0, 0) else (Tm.zero, shiftCode b f (t.looses 0))) := by show _ = _; rw [← hP, Tm.shift, if_neg hf0]
    clear hP
    have Hmv := Lib.hid (mapl_shiftV b f t 0)
    obtain ⟨cc, hcc⟩ : ∃ cc, shiftCode b f (t.looses 0) = cc := ⟨_, rfl⟩
    rw [hcc] at HP Hmv
    obtain ⟨M, hM⟩ : ∃ M, t.mapl (shiftV b f) 0 = M := ⟨_, rfl⟩
    rw [hM] at Hmv
    have Hcall : Hid (∀ w6 : World, Below w.heap.size w w6 → w.heap.size + 6 ≤ w6.heap.size → ShiftSt (w.heap.size + 1 + 1) (w.heap.size + 1) (w.heap.size + 1 + 1 + 1 + 1 + 1) (w.heap.size + 1 + 1 + 1 + 1) b f 0 w6 →
        Calls Try.prog 89 #[.agg #[.slice pa x1 pc, .int .i64 x3, .int .i64 x4, .slice qa x2 qc], .int .i64 0, .func (.func 92) #[] #[.pointer (some ⟨w.heap.size + 1 + 1, 0, none⟩), .pointer (some ⟨w.heap.size + 1, 0, none⟩), .pointer (some ⟨w.heap.size + 1 + 1 + 1 + 1 + 1, 0, none⟩)]] w6
          (TurnPost (some (w.heap.size + 1 + 1 + 1 + 1)) (ShiftSt (w.heap.size + 1 + 1) (w.heap.size + 1) (w.heap.size + 1 + 1 + 1 + 1 + 1) (w.heap.size + 1 + 1 + 1 + 1) b f) (cc, M) w6)) := fun w6 hb6 hs6 hst => by
      have h := turned_kS _ _ _ (turner_shift (w.heap.size + 1 + 1) (w.heap.size + 1) (w.heap.size + 1 + 1 + 1 + 1 + 1) (w.heap.size + 1 + 1 + 1 + 1) b f hb ⟨by omega, hf.2⟩) t (fun q => F q ∧ q < w.heap.size) w _ _ _ _ Ht.out (fun k hk hq => by cases hk; have := hq.2; omega) 0 0 w6 ((Keep.refl _ _).below hb6)
        (fun k hk => by rcases hk with h | h | h | h <;> omega) hst (Int.le_refl _) (by omega) hfit
      rw [shiftF_eq, Tm.turn_split, fold_code, hcc, hM] at h
      exact h
    clear hcc hM Ht
    go_enter Try.func27, Try.ntmps27
    go_wp2_with fail
    obtain ⟨w6, hw6⟩ : ∃ w6, (((((w.alloc (.cells #[.slice pa x1 pc, .int .i64 x3, .int .i64 x4, .slice qa x2 qc] 37)).alloc (.cells #[.int .i64 b] 3)).alloc (.cells #[.int .i64 f] 3)).alloc (.cells #[.slice none 0 0, .int .i64 0, .int .i64 0, .slice none 0 0] 37)).alloc (.cells #[.int .i64 0] 52)).alloc (.cells #[.func (.func 91) #[] #[.pointer (some ⟨w.heap.size + 1 + 1 + 1 + 1, 0, none⟩)]] 127) = w6 := ⟨_, rfl⟩
    have B6 : Below w.heap.size w w6 := by rw [← hw6]; exact ((((((Below.refl _ _).alloc (Nat.le_refl _) _).alloc (by simp) _).alloc (by simp; omega) _).alloc (by simp; omega) _).alloc (by simp; omega) _).alloc (by simp; omega) _
    have hs6 : w6.heap.size = w.heap.size + 6 := by rw [← hw6]; simp
    have st6 : ShiftSt (w.heap.size + 1 + 1) (w.heap.size + 1) (w.heap.size + 1 + 1 + 1 + 1 + 1) (w.heap.size + 1 + 1 + 1 + 1) b f 0 w6 := by
      rw [← hw6]
      exact ⟨(((Blk.new _ _ _ (by simp)).alloc _).alloc _).alloc _, ((((Blk.new _ _ _ (by simp)).alloc _).alloc _).alloc _).alloc _, Blk.new _ _ _ (by simp), (Blk.new _ _ _ (by simp)).alloc _, by omega, by omega, by omega⟩
    have xr : Blk w6 (w.heap.size + 1 + 1 + 1) #[.slice none 0 0, .int .i64 0, .int .i64 0, .slice none 0 0] 37 := by rw [← hw6]; exact ((Blk.new _ _ _ (by simp)).alloc _).alloc _
    try rw [hw6]
    clear hw6
    refine (Hcall.out w6 B6 (by omega) st6).mono ?_
    rintro e w7 ⟨b', k', i', a', rfl, hT, hst, hg⟩
    have B7 := B6.grown hg (by omega) (fun k hk => by cases hk; omega)
    have yr := xr.grown hg (by simp)
    have xe := hst.2.2.2.1
    obtain ⟨pa', pc', qa', qc', rfl, rfl, rfl, rfl⟩ := hT.shape
    generalize M.binds.length = y1 at *
    generalize M.args.length = y2 at *
    generalize M.kind = y3 at *
    generalize M.index = y4 at *
    have HT := Lib.hid (hT.weaken (F' := fun q => w.heap.size + 6 ≤ q) fun q _ h => by omega)
    clear hT hst hg st6 xr
    have ce : w7.cell? ⟨w.heap.size + 1 + 1 + 1 + 1, 0, none⟩ = some (.int .i64 cc) := xe.cell rfl
    have r0 : w7.cell? ⟨w.heap.size + 1 + 1 + 1, 0, none⟩ = some (.slice none 0 0) := yr.cell rfl
    have r1 : w7.cell? ⟨w.heap.size + 1 + 1 + 1, 1, none⟩ = some (.int .i64 0) := yr.cell rfl
    have r2 : w7.cell? ⟨w.heap.size + 1 + 1 + 1, 2, none⟩ = some (.int .i64 0) := yr.cell rfl
    have r3 : w7.cell? ⟨w.heap.size + 1 + 1 + 1, 3, none⟩ = some (.slice none 0 0) := yr.cell rfl
    have f0 := yr.free 0
    have f1 := yr.free 1
    have f2 := yr.free 2
    have f3 := yr.free 3
    have hle := xe.lt
    have hlr := yr.lt
    have hs7 := B7.size
    by_cases h0 : cc = 0
    · subst h0
      have Hmm := Lib.hid (Hmv.out rfl)
      have HPP : Hid (P = (M, 0)) := by show _ = _; rw [HP.out, if_pos rfl, Hmm.out]
      clear HP Hmv Hmm
      go_wp2_with fail
      have z := ((((yr.set 0 (.slice pa' y1 pc')).set 1 (.int .i64 y3)).set 2 (.int .i64 y4)).set 3 (.slice qa' y2 qc')).alloc (.cells #[.slice pa' y1 pc', .int .i64 y3, .int .i64 y4, .slice qa' y2 qc'] 37)
      have z0 := z.cell (i := 0) (v := .slice pa' y1 pc') rfl
      have z1 := z.cell (i := 1) (v := .int .i64 y3) rfl
      have z2 := z.cell (i := 2) (v := .int .i64 y4) rfl
      have z3 := z.cell (i := 3) (v := .slice qa' y2 qc') rfl
      refine bodyPost_ret (v := .tuple #[.agg #[.slice pa' y1 pc', .int .i64 y3, .int .i64 y4, .slice qa' y2 qc'], .int .i64 0]) (by simp [results, Try.results27, go_sem, z0, z1, z2, z3]) rfl ?_
      rw [HPP.out]
      refine ⟨_, _, _, _, rfl, ?_, ((((B7.setCell (by simp <;> omega) _).setCell (by simp <;> omega) _).setCell (by simp <;> omega) _).setCell (by simp <;> omega) _).alloc (by simpa using hs7) _⟩
      exact (((((HT.out.keep ((Keep.refl _ _).setCell ⟨w.heap.size + 1 + 1 + 1, 0, none⟩ _ (by simp <;> omega))).keep ((Keep.refl _ _).setCell ⟨w.heap.size + 1 + 1 + 1, 1, none⟩ _ (by simp <;> omega))).keep ((Keep.refl _ _).setCell ⟨w.heap.size + 1 + 1 + 1, 2, none⟩ _ (by simp <;> omega))).keep ((Keep.refl _ _).setCell ⟨w.heap.size + 1 + 1 + 1, 3, none⟩ _ (by simp <;> omega))).keep ((Keep.refl _ _).alloc _)).weaken fun q _ h => by omega
    · have hg0 : (cc == 0) = false := by simpa using h0
      have hg1 : (cc != 0) = true := by simpa using h0
      have HPP : Hid (P = (Tm.zero, cc)) := by show _ = _; rw [HP.out, if_neg h0]
      clear HP Hmv
      go_wp2_with fail
      obtain ⟨w8, hw8⟩ : ∃ w8, w7.alloc (.cells #[.slice pa' y1 pc', .int .i64 y3, .int .i64 y4, .slice qa' y2 qc'] 37) = w8 := ⟨_, rfl⟩
      have B8' : Below w.heap.size w w8 := by rw [← hw8]; exact B7.alloc hs7 _
      have zr := (yr.alloc (.cells #[.slice pa' y1 pc', .int .i64 y3, .int .i64 y4, .slice qa' y2 qc'] 37)).drew
      have ze := (xe.alloc (.cells #[.slice pa' y1 pc', .int .i64 y3, .int .i64 y4, .slice qa' y2 qc'] 37)).drew
      rw [hw8] at zr ze
      rw [hw8]
      clear hw8 yr xe ce r0 r1 r2 r3 f0 f1 f2 f3
      have B8 := B8'.drew
      clear B8'
      refine wp_region_noPanic (wp_region_need (S := fun w' => True) (by kernel_rfl) ?_)
      obtain ⟨w9, hw9⟩ : ∃ w9, w8.drew = w9 := ⟨_, rfl⟩
      rw [hw9] at B8 zr ze ⊢
      clear hw9
      have ce : w9.cell? ⟨w.heap.size + 1 + 1 + 1 + 1, 0, none⟩ = some (.int .i64 cc) := ze.cell rfl
      have r0 : w9.cell? ⟨w.heap.size + 1 + 1 + 1, 0, none⟩ = some (.slice none 0 0) := zr.cell rfl
      have r1 : w9.cell? ⟨w.heap.size + 1 + 1 + 1, 1, none⟩ = some (.int .i64 0) := zr.cell rfl
      have r2 : w9.cell? ⟨w.heap.size + 1 + 1 + 1, 2, none⟩ = some (.int .i64 0) := zr.cell rfl
      have r3 : w9.cell? ⟨w.heap.size + 1 + 1 + 1, 3, none⟩ = some (.slice none 0 0) := zr.cell rfl
      have f0 := zr.free 0
      have f1 := zr.free 1
      have f2 := zr.free 2
      have f3 := zr.free 3
      have z := ((((zr.set 0 (.slice none 0 0)).set 1 (.int .i64 0)).set 2 (.int .i64 0)).set 3 (.slice none 0 0))
      have z0 := z.cell (i := 0) (v := .slice none 0 0) rfl
      have z1 := z.cell (i := 1) (v := .int .i64 0) rfl
      have z2 := z.cell (i := 2) (v := .int .i64 0) rfl
      have z3 := z.cell (i := 3) (v := .slice none 0 0) rfl
      have hS : True := trivial
      refine wpN_take (i := 0) (v := ?v1) rfl (by kernel_rfl) (fun _ _ _ h => h) hS (Or.inl ⟨by rfl, ?hy1⟩) ?hr1
      case hy1 => (intro wS hSw; (try dsimp only at hSw); go_simp; (try with_reducible rfl))
      try simp only [Act.put, List.setIfInBounds_toArray, List.set_cons_zero, List.set_cons_succ, List.getElem_toArray, List.getElem_cons_zero, List.getElem_cons_succ]
      refine wpN_pick [1, 2] (by kernel_rfl) (by simp) (pick_two ?_ ?_)
      · refine wpOp_step (i := 1) rfl (fun K hK => ?_)
        have hK := Lib.hid hK
        try simp only [Act.put, List.setIfInBounds_toArray, List.set_cons_zero, List.set_cons_succ, List.getElem_toArray, List.getElem_cons_zero, List.getElem_cons_succ]
        go_simp
        refine hK.out _ _ ⟨fun _ => trivial, ?_⟩
        try simp only [Act.put, List.setIfInBounds_toArray, List.set_cons_zero, List.set_cons_succ, List.getElem_toArray, List.getElem_cons_zero, List.getElem_cons_succ]
        · skip
          refine wpN_step (i := 2) (by kernel_rfl) rfl (fun K hK => ?_)
          go_simp
          refine hK.out _ _ (fun h => absurd h (by decide)) ?_
          clear hK K
          try simp only [Act.put, List.setIfInBounds_toArray, List.set_cons_zero, List.set_cons_succ, List.getElem_toArray, List.getElem_cons_zero, List.getElem_cons_succ]
          refine wpN_step (i := 3) (by kernel_rfl) rfl (fun K hK => ?_)
          go_simp
          refine hK.out _ _ (fun h => absurd h (by decide)) ?_
          clear hK K
          try simp only [Act.put, List.setIfInBounds_toArray, List.set_cons_zero, List.set_cons_succ, List.getElem_toArray, List.getElem_cons_zero, List.getElem_cons_succ]
          refine wpN_done (by kernel_rfl) ?_
          refine NoPanic.normal ?_
          go_wp2_with fail
          refine bodyPost_ret (v := .tuple #[.agg #[.slice none 0 0, .int .i64 0, .int .i64 0, .slice none 0 0], .int .i64 cc]) (by simp [results, Try.results27, go_sem, z0, z1, z2, z3]) rfl ?_
          rw [HPP.out]
          exact ⟨_, _, _, _, rfl, isTm_zero _ _, (((B8.setCell (by simp <;> omega) _).setCell (by simp <;> omega) _).setCell (by simp <;> omega) _).setCell (by simp <;> omega) _⟩
      · refine wpOp_step (i := 2) rfl (fun K hK => ?_)
        have hK := Lib.hid hK
        try simp only [Act.put, List.setIfInBounds_toArray, List.set_cons_zero, List.set_cons_succ, List.getElem_toArray, List.getElem_cons_zero, List.getElem_cons_succ]
        go_simp
        refine hK.out _ _ ⟨fun _ => trivial, ?_⟩
        try simp only [Act.put, List.setIfInBounds_toArray, List.set_cons_zero, List.set_cons_succ, List.getElem_toArray, List.getElem_cons_zero, List.getElem_cons_succ]
        · skip
          refine wpN_step (i := 1) (by kernel_rfl) rfl (fun K hK => ?_)
          go_simp
          refine hK.out _ _ (fun _ => trivial) ?_
          clear hK K
          try simp only [Act.put, List.setIfInBounds_toArray, List.set_cons_zero, List.set_cons_succ, List.getElem_toArray, List.getElem_cons_zero, List.getElem_cons_succ]
          refine wpN_step (i := 3) (by kernel_rfl) rfl (fun K hK => ?_)
          go_simp
          refine hK.out _ _ (fun h => absurd h (by decide)) ?_
          clear hK K
          try simp only [Act.put, List.setIfInBounds_toArray, List.set_cons_zero, List.set_cons_succ, List.getElem_toArray, List.getElem_cons_zero, List.getElem_cons_succ]
          refine wpN_done (by kernel_rfl) ?_
          refine NoPanic.normal ?_
          go_wp2_with fail
          refine bodyPost_ret (v := .tuple #[.agg #[.slice none 0 0, .int .i64 0, .int .i64 0, .slice none 0 0], .int .i64 cc]) (by simp [results, Try.results27, go_sem, z0, z1, z2, z3]) rfl ?_
          rw [HPP.out]
          exact ⟨_, _, _, _, rfl, isTm_zero _ _, (((B8.setCell (by simp <;> omega) _).setCell (by simp <;> omega) _).setCell (by simp <;> omega) _).setCell (by simp <;> omega) _⟩
end Go.Proofs.Ytejpgifofkiofaa

namespace Go.Proofs.Ytejpgifofkiofaa
open Go.RowKit

namespace Tm
theorem fulls_mapls_of (v : Int → Int) {l : List Tm} (h : ∀ t ∈ l, ∀ n, (mapl v t n).full = t.full) : ∀ n, fulls (mapls v l n) = fulls l := by
  induction l with
  | nil => intro n; simp [mapls]
  | cons t l ih => intro n; simp [mapls, fulls, h t (by simp) n, ih (fun u hu => h u (by simp [hu])) n]
theorem full_mapl (v : Int → Int) (t : Tm) : ∀ n, (mapl v t n).full = t.full := by
  induction t using Tm.ind with
  | h b k i a ih => intro n; rw [mapl_eq v b k i a n _ rfl, full_eq, full_eq, fulls_mapls_of v ih]

theorem loosess_mapls_of (v : Int → Int) {l : List Tm} (h : ∀ t ∈ l, ∀ n, (∀ x ∈ looses t n, 0 ≤ v x) → looses (mapl v t n) n = (looses t n).map v) : ∀ n, (∀ x ∈ loosess l n, 0 ≤ v x) → loosess (mapls v l n) n = (loosess l n).map v := by
  induction l with
  | nil => intro n _; simp [mapls, loosess]
  | cons t l ih =>
    intro n hx
    simp only [loosess, List.mem_append] at hx
    rw [mapls, loosess, loosess, h t (by simp) n fun x hx' => hx x (.inl hx'), ih (fun u hu => h u (by simp [hu])) n fun x hx' => hx x (.inr hx'), List.map_append]
theorem looses_mapl (v : Int → Int) (t : Tm) : ∀ n, (∀ x ∈ looses t n, 0 ≤ v x) → looses (mapl v t n) n = (looses t n).map v := by
  induction t using Tm.ind with
  | h b k i a ih =>
    intro n hx
    obtain ⟨m, hm⟩ : ∃ m : Int, n + (b.length : Int) = m := ⟨_, rfl⟩
    rw [looses_eq b k i a n m hm] at hx
    rw [mapl_eq v b k i a n m hm, looses_eq b k _ _ n m hm, looses_eq b k i a n m hm, loosess_mapls_of v ih m fun x hx' => hx x (List.mem_append.2 (.inr hx')), List.map_append]
    congr 1
    by_cases hc : k = 0 ∧ m ≤ i
    · rw [if_pos hc] at hx
      have h0 := hx (i - m) (by simp)
      rw [if_pos hc, if_pos hc, if_pos ⟨hc.1, by omega⟩]
      simp
      omega
    · simp only [if_neg hc]
      rfl

theorem mapls_mapls_of (u v : Int → Int) {l : List Tm} (h : ∀ t ∈ l, ∀ n, (∀ x ∈ looses t n, 0 ≤ v x) → mapl u (mapl v t n) n = mapl (fun x => u (v x)) t n) : ∀ n, (∀ x ∈ loosess l n, 0 ≤ v x) → mapls u (mapls v l n) n = mapls (fun x => u (v x)) l n := by
  induction l with
  | nil => intro n _; simp [mapls]
  | cons t l ih =>
    intro n hx
    simp only [loosess, List.mem_append] at hx
    rw [mapls, mapls, mapls, h t (by simp) n fun x hx' => hx x (.inl hx'), ih (fun u hu => h u (by simp [hu])) n fun x hx' => hx x (.inr hx')]
theorem mapl_mapl (u v : Int → Int) (t : Tm) : ∀ n, (∀ x ∈ looses t n, 0 ≤ v x) → mapl u (mapl v t n) n = mapl (fun x => u (v x)) t n := by
  induction t using Tm.ind with
  | h b k i a ih =>
    intro n hx
    obtain ⟨m, hm⟩ : ∃ m : Int, n + (b.length : Int) = m := ⟨_, rfl⟩
    rw [looses_eq b k i a n m hm] at hx
    rw [mapl_eq v b k i a n m hm, mapl_eq u b k _ _ n m hm, mapl_eq _ b k i a n m hm, mapls_mapls_of u v ih m fun x hx' => hx x (List.mem_append.2 (.inr hx'))]
    by_cases hc : k = 0 ∧ m ≤ i
    · rw [if_pos hc] at hx
      have h0 := hx (i - m) (by simp)
      rw [if_pos hc, if_pos hc, if_pos ⟨hc.1, by omega⟩, show m + v (i - m) - m = v (i - m) by omega]
    · rw [if_neg hc, if_neg hc, if_neg hc]

theorem mapls_id_of (v : Int → Int) {l : List Tm} (h : ∀ t ∈ l, ∀ n, (∀ x ∈ looses t n, v x = x) → mapl v t n = t) : ∀ n, (∀ x ∈ loosess l n, v x = x) → mapls v l n = l := by
  induction l with
  | nil => intro n _; simp [mapls]
  | cons t l ih =>
    intro n hx
    simp only [loosess, List.mem_append] at hx
    rw [mapls, h t (by simp) n fun x hx' => hx x (.inl hx'), ih (fun u hu => h u (by simp [hu])) n fun x hx' => hx x (.inr hx')]
theorem mapl_id (v : Int → Int) (t : Tm) : ∀ n, (∀ x ∈ looses t n, v x = x) → mapl v t n = t := by
  induction t using Tm.ind with
  | h b k i a ih =>
    intro n hx
    obtain ⟨m, hm⟩ : ∃ m : Int, n + (b.length : Int) = m := ⟨_, rfl⟩
    rw [looses_eq b k i a n m hm] at hx
    rw [mapl_eq v b k i a n m hm, mapls_id_of v ih m fun x hx' => hx x (List.mem_append.2 (.inr hx'))]
    by_cases hc : k = 0 ∧ m ≤ i
    · rw [if_pos hc] at hx
      rw [if_pos hc, hx (i - m) (by simp), show m + (i - m) = i by omega]
    · rw [if_neg hc]

theorem mapl_fit (v : Int → Int) (t : Tm) : ∀ n : Int, t.Fit → 0 ≤ n → n + t.full ≤ 90000 → (∀ x ∈ looses t n, 0 ≤ v x ∧ (v x ≤ 1000 ∨ v x ≤ x)) → (mapl v t n).Fit := by
  induction t using Tm.ind with
  | h b k i a ih =>
    intro n hf hn hsz hx
    obtain ⟨h1, h2, h3⟩ := fit_iff.1 hf
    obtain ⟨m, hm⟩ : ∃ m : Int, n + (b.length : Int) = m := ⟨_, rfl⟩
    rw [looses_eq b k i a n m hm] at hx
    rw [full_eq] at hsz
    have hbl := Ty.le_sizes b
    rw [mapl_eq v b k i a n m hm]
    have hargs : ∀ (l : List Tm), (∀ t ∈ l, t ∈ a) → (∀ x ∈ loosess l m, 0 ≤ v x ∧ (v x ≤ 1000 ∨ v x ≤ x)) → ∀ t ∈ mapls v l m, t.Fit := by
      intro l
      induction l with
      | nil => intro _ _ t ht; simp [mapls] at ht
      | cons u l ihl =>
        intro hl hxl t ht
        simp only [loosess, List.mem_append] at hxl
        rw [mapls] at ht
        rcases List.mem_cons.1 ht with rfl | ht
        · exact ih u (hl u (by simp)) m (h3 u (hl u (by simp))) (by omega) (by have := full_mem (hl u (by simp)); omega) fun x hx' => hxl x (.inl hx')
        · exact ihl (fun t ht => hl t (by simp [ht])) (fun x hx' => hxl x (.inr hx')) t ht
    refine fit_iff.2 ⟨?_, ?_, hargs a (fun _ h => h) fun x hx' => hx x (List.mem_append.2 (.inr hx'))⟩
    · split
      · rename_i hc
        have := hx (i - m) (List.mem_append.2 (.inl (by rw [if_pos hc]; simp)))
        omega
      · exact h1
    · split
      · rename_i hc
        have := hx (i - m) (List.mem_append.2 (.inl (by rw [if_pos hc]; simp)))
        omega
      · exact h2
end Tm

theorem shiftCode_zero {b f : Int} {l : List Int} (h : shiftCode b f l = 0) : ∀ x ∈ l, ¬ argBad b f x ∧ ¬ longBad b f x := by
  intro x hx
  unfold shiftCode at h
  by_cases h1 : ∃ x ∈ l, argBad b f x
  · rw [if_pos h1] at h; cases h
  · rw [if_neg h1] at h
    by_cases h2 : ∃ x ∈ l, longBad b f x
    · rw [if_pos h2] at h; cases h
    · exact ⟨fun h => h1 ⟨x, hx, h⟩, fun h => h2 ⟨x, hx, h⟩⟩
theorem shiftCode_of {b f : Int} {l : List Int} (h : ∀ x ∈ l, ¬ argBad b f x ∧ ¬ longBad b f x) : shiftCode b f l = 0 := by
  unfold shiftCode
  rw [if_neg (fun ⟨x, hx, h'⟩ => (h x hx).1 h'), if_neg (fun ⟨x, hx, h'⟩ => (h x hx).2 h')]
theorem shiftCode_ne (b f : Int) (l : List Int) : shiftCode b f l = 0 ∨ shiftCode b f l = 1 ∨ shiftCode b f l = 2 := by
  unfold shiftCode; split
  · simp
  · split <;> simp

theorem Tm.shift_zero {t : Tm} {b f : Int} (h : (t.shift b f).2 = 0) : 0 ≤ f ∧ (∀ x ∈ t.looses 0, ¬ argBad b f x ∧ ¬ longBad b f x) ∧ (t.shift b f).1 = t.mapl (grow b f) 0 := by
  by_cases hf : f < 0
  · rw [Tm.shift, if_pos hf] at h; cases h
  · by_cases hc : shiftCode b f (t.looses 0) = 0
    · exact ⟨by omega, shiftCode_zero hc, by rw [Tm.shift, if_neg hf, if_pos hc]⟩
    · rw [Tm.shift, if_neg hf, if_neg hc] at h; exact absurd h hc
theorem grow_ok {b f x : Int} (hx : 0 ≤ x) (hf : 0 ≤ f) (h1 : ¬ argBad b f x) (h2 : ¬ longBad b f x) : 0 ≤ grow b f x ∧ (grow b f x ≤ 1000 ∨ grow b f x ≤ x) := by
  unfold grow; unfold argBad at h1; unfold longBad at h2
  split <;> omega
theorem Tm.shift_code (t : Tm) (b f : Int) : 0 ≤ (t.shift b f).2 ∧ (t.shift b f).2 ≤ 2 := by
  unfold Tm.shift
  split
  · simp
  · split
    · simp
    · rcases shiftCode_ne b f (t.looses 0) with h | h | h <;> simp [h]
theorem Tm.shift_back {t : Tm} {b f : Int} (h : (t.shift b f).2 = 0) (hb : 0 ≤ b) (hb1 : b ≤ 9223372036854775807) : (t.shift b f).1.shift (-b) f = (t, 0) := by
  obtain ⟨hf, ha, he⟩ := Tm.shift_zero h
  have hnn := Tm.looses_nonneg t 0
  have hg : ∀ x ∈ t.looses 0, 0 ≤ grow b f x := fun x hx => (grow_ok (hnn x hx) hf (ha x hx).1 (ha x hx).2).1
  have hl := Tm.looses_mapl (grow b f) t 0 hg
  have hm := Tm.mapl_mapl (grow (-b) f) (grow b f) t 0 hg
  rw [he, Tm.shift, if_neg (by omega), hl, if_pos, hm, Tm.mapl_id]
  · intro x _
    unfold grow
    split
    · rename_i h; simp [h]
    · rw [if_neg (by omega)]; omega
  · refine shiftCode_of fun y hy => ?_
    obtain ⟨x, hx, rfl⟩ := List.mem_map.1 hy
    obtain ⟨h1, h2⟩ := ha x hx
    have h0 := hnn x hx
    unfold argBad at h1 ⊢; unfold longBad at h2 ⊢; unfold grow
    constructor
    · rintro ⟨_, h4⟩
      split at h4 <;> omega
    · rintro ⟨h3, h4⟩
      split at h3 <;> split at h4 <;> omega
theorem Tm.shift_fit {t : Tm} {b f : Int} (hfit : t.Fit) (hsz : t.full ≤ 80000) : (t.shift b f).1.Fit ∧ (t.shift b f).1.full ≤ t.full := by
  by_cases h : (t.shift b f).2 = 0
  · obtain ⟨hf, ha, he⟩ := Tm.shift_zero h
    rw [he]
    exact ⟨Tm.mapl_fit _ t 0 hfit (by omega) (by omega) fun x hx => grow_ok (Tm.looses_nonneg t 0 x hx) hf (ha x hx).1 (ha x hx).2, by rw [Tm.full_mapl]; omega⟩
  · have hz : (t.shift b f).1 = Tm.zero := by
      unfold Tm.shift at h ⊢
      by_cases hf : f < 0
      · rw [if_pos hf]
      · rw [if_neg hf] at h ⊢
        by_cases hc : shiftCode b f (t.looses 0) = 0
        · rw [if_pos hc] at h; exact absurd rfl h
        · rw [if_neg hc]
    rw [hz]
    have := Tm.full_pos t
    exact ⟨Tm.fit_iff.2 ⟨by omega, by omega, by simp⟩, by simpa [Tm.zero, Tm.full, Tm.fulls, Ty.sizes] using this⟩
end Go.Proofs.Ytejpgifofkiofaa

