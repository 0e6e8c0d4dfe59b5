/-
  term.Loose. term.Depth. Which of two types is less: by size, by how many arguments, argument by argument, by base; and what that order promises. Which of two terms is less: the plain law. sign, cmp.Compare and cmp.Or of ints.
-/
import Derived.Test.YtejpgifofkiofaaRowParts6p21
import Derived.Test.YtejpgifofkiofaaRowParts6p18
import Derived.Test.YtejpgifofkiofaaRowParts6p3
import Derived.Test.YtejpgifofkiofaaRowParts6p2
set_option linter.unusedVariables false
set_option linter.unusedSimpArgs false
namespace Go.Proofs.Ytejpgifofkiofaa
open Go.RowKit Go.Shelf
attribute [local go_sem] Oper.semAt_some

def looseStep (n : Int) (p : Nat × Nat × Tm) : Int := if p.2.2.kind = 0 ∧ (p.1 : Int) ≤ p.2.2.index then max n (min (IntKind.i64.wrap (p.2.2.index - p.1)) 1000 + 1) else n
def looseP (l : List (Nat × Nat × Tm)) : Int := l.foldl looseStep 0
theorem looseP_snoc (l : List (Nat × Nat × Tm)) (p : Nat × Nat × Tm) : looseP (l ++ [p]) = looseStep (looseP l) p := by simp [looseP]
theorem looseStep_range {n : Int} {p : Nat × Nat × Tm} (h : 0 ≤ n ∧ n ≤ 1001) : 0 ≤ looseStep n p ∧ looseStep n p ≤ 1001 := by
  unfold looseStep; split <;> omega
theorem looseP_range (l : List (Nat × Nat × Tm)) : 0 ≤ looseP l ∧ looseP l ≤ 1001 := by
  have : ∀ (l : List (Nat × Nat × Tm)) n, (0 ≤ n ∧ n ≤ 1001) → 0 ≤ l.foldl looseStep n ∧ l.foldl looseStep n ≤ 1001 := by
    intro l
    induction l with
    | nil => intro n h; exact h
    | cons p l ih => intro n h; exact ih _ (looseStep_range h)
  exact this l 0 (by omega)
def looseL (n x : Int) : Int := if (if x > 1000 then 1000 else x) + 1 > n then (if x > 1000 then 1000 else x) + 1 else n

theorem loose_pres_of {l : List Tm} (h : ∀ t ∈ l, ∀ s d n, t.Fit → (t.pre s d).foldl looseStep n = (t.looses s).foldl looseL n) : ∀ s d n, (∀ t ∈ l, t.Fit) → (Tm.pres l s d).foldl looseStep n = (Tm.loosess l s).foldl looseL n := by
  induction l with
  | nil => intro s d n _; simp [Tm.pres, Tm.loosess]
  | cons t l ih =>
    intro s d n hf
    rw [Tm.pres, Tm.loosess, List.foldl_append, List.foldl_append, h t (by simp) s d n (hf t (by simp)), ih (fun u hu => h u (by simp [hu])) s d _ (fun u hu => hf u (by simp [hu]))]
theorem loose_pre (t : Tm) : ∀ (s d : Nat) (n : Int), t.Fit → (t.pre s d).foldl looseStep n = (t.looses s).foldl looseL n := by
  induction t using Tm.ind with
  | h b k i a ih =>
    intro s d n hf
    obtain ⟨hi0, hi1, hfa⟩ := Tm.fit_iff.1 hf
    rw [Tm.pre_eq, Tm.looses_eq _ _ _ _ _ ((s + b.length : Nat) : Int) (by simp), List.foldl_cons, List.foldl_append]
    rw [loose_pres_of ih _ _ _ hfa]
    congr 1
    show (if k = 0 ∧ ((s + b.length : Nat) : Int) ≤ i then _ else _) = _
    by_cases h : k = 0 ∧ ((s + b.length : Nat) : Int) ≤ i
    · have hw : IntKind.i64.wrap (i - ((s + b.length : Nat) : Int)) = i - ((s + b.length : Nat) : Int) := IntWalk.i64_in _ (by omega)
      rw [if_pos h, if_pos h]
      show max n (min (IntKind.i64.wrap (i - ((s + b.length : Nat) : Int))) 1000 + 1) = _
      rw [hw]
      simp only [List.foldl_cons, List.foldl_nil, looseL]
      split <;> split <;> omega
    · rw [if_neg h, if_neg h]; rfl
theorem looseP_pre (t : Tm) (hf : t.Fit) : looseP (t.pre 0 1) = (t.looses 0).foldl looseL 0 := loose_pre t 0 1 0 hf
set_option maxRecDepth 100000 in
set_option maxHeartbeats 2000000 in
theorem loose6_k {F : Nat → Prop} {w : World} {b k i a : Value} {t : Tm} (ht : IsTm F w b k i a t) (hsz : t.full ≤ 500000) (hfit : t.Fit) : Calls Try.prog 69 #[.agg #[b, k, i, a]] w (RetI ((t.looses 0).foldl looseL 0) w) := by
  refine (callsIn_wide (n := 9)).1 ?_
  have Ht := Lib.hid (ht.weaken (F' := fun _ => True) fun _ _ _ => trivial)
  obtain ⟨pa, pc, qa, qc, rfl, rfl, rfl, rfl⟩ := ht.shape
  clear ht
  obtain ⟨x1, hx1⟩ : ∃ x, t.binds.length = x := ⟨_, rfl⟩
  obtain ⟨x2, hx2⟩ : ∃ x, t.args.length = x := ⟨_, rfl⟩
  obtain ⟨x3, hx3⟩ : ∃ x, t.kind = x := ⟨_, rfl⟩
  obtain ⟨x4, hx4⟩ : ∃ x, t.index = x := ⟨_, rfl⟩
  rw [hx1, hx2, hx3, hx4] at Ht ⊢
  clear hx1 hx2 hx3 hx4
  refine callsIn_of_wp_marks Try.func69 rfl trivial ?_ rfl
  simp only [Try.ntmps69, List.size_toArray, List.length_cons, List.length_nil, Nat.reduceAdd, Nat.reduceSub, Array.replicate_succ, Array.replicate_zero, List.push_toArray, List.append_toArray, List.nil_append, List.cons_append]
  gi_wp2_with fail
  refine ⟨trivial, (each6_k _ _ _ _ _ _ ⟨_, _, _, rfl⟩ ⟨_, rfl⟩ ⟨_, rfl⟩ ⟨_, _, _, rfl⟩).mono ?_⟩
  rintro e w' ⟨rfl, rfl⟩
  gi_wp2_with fail
  have hsz' := Lib.hid hsz
  have Hfit := Lib.hid hfit; clear hfit
  have hfl := Tm.size_le_full t
  obtain ⟨w5, hw5⟩ : ∃ w5, ((w.alloc (.cells #[.slice pa x1 pc, .int .i64 x3, .int .i64 x4, .slice qa x2 qc] 37)).alloc (.cells #[.int .i64 0] 3)).alloc (.cells #[.slice pa x1 pc, .int .i64 x3, .int .i64 x4, .slice qa x2 qc] 37) = w5 := ⟨_, rfl⟩
  have hB0 : Below w.heap.size w w5 := by rw [← hw5]; exact (((Below.refl _ w).alloc (Nat.le_refl _) _).alloc (by simp) _).alloc (by simp; omega) _
  have hz : w5.heap.size = w.heap.size + 3 := by rw [← hw5]; simp
  have y2 : Blk w5 (w.heap.size + 1) #[.int .i64 0] 3 := by rw [← hw5]; exact (Blk.new _ _ _ (by simp)).alloc _
  have y3 : Blk w5 (w.heap.size + 1 + 1) #[.slice pa x1 pc, .int .i64 x3, .int .i64 x4, .slice qa x2 qc] 37 := by rw [← hw5]; exact Blk.new _ _ _ (by simp)
  rw [hw5]
  clear hw5
  refine range_softA (Ok := SpotOk) (fun o h => .inl h) rfl (by omega) (gf := 125) (lb := #[.pointer (some ⟨w.heap.size + 1 + 1, 0, none⟩)]) rfl trivial (enters_of Try.func125 (by kernel_rfl) rfl)
    (each6_soft (But w.heap.size (w.heap.size + 2)) (fun k _ _ hk => .inl hk) Ht.out hsz (9 - 1) w5 (fun k _ hk _ => .inr (by omega)) ((Keep.refl _ _).below hB0) (w.heap.size + 1 + 1) y3)
    (fun h h' => h.trans h') (fun W l o o' _ hl ho _ => KeepC.putObj _ W l o o' hl ho) (Below.refl _ _) (fun _ => rfl)
    (fun pre W => Blk W (w.heap.size + 1) #[.int .i64 (looseP (pre.map Hit6.key))] 3 ∧ Below w.heap.size w W)
    (fun _ _ _ => False)
    (Mild.and (mild_blk (by decide) (fun (pre : List (Hit6 (fun _ => True) w)) => #[.int .i64 (looseP (pre.map Hit6.key))])) (mild_below (Nat.le_refl _) (by omega)))
    (fun _ _ _ _ _ hs _ _ => hs)
    ⟨y2, hB0⟩
    (fun x a' W => ∃ Bs Bx, (w.heap.size + 1 < Bs ∧ w.heap.size + 1 < Bx) ∧ Blk W Bs #[.int .i64 x.s, .int .i64 x.d] 148 ∧ Blk W Bx #[.slice x.pb x.t.binds.length x.cb, .int .i64 x.t.kind, .int .i64 x.t.index, .slice x.pa x.t.args.length x.ca] 37 ∧ a' = { tmps := #[.agg #[.slice pa x1 pc, .int .i64 x3, .int .i64 x4, .slice qa x2 qc], .pointer (some ⟨w.heap.size, 0, none⟩), .int .i64 0, .pointer (some ⟨w.heap.size + 1, 0, none⟩), .pointer (some ⟨Bs, 0, none⟩), .pointer (some ⟨Bx, 0, none⟩), .agg #[.slice pa x1 pc, .int .i64 x3, .int .i64 x4, .slice qa x2 qc], .func (.func 125) #[] #[.pointer (some ⟨w.heap.size + 1 + 1, 0, none⟩)], .agg #[.int .i64 x.s, .int .i64 x.d], .agg #[.slice x.pb x.t.binds.length x.cb, .int .i64 x.t.kind, .int .i64 x.t.index, .slice x.pa x.t.args.length x.ca], undef, undef, undef, undef, undef, undef, undef, undef, undef, undef, undef, undef, undef, undef, undef, undef, undef, undef, undef, undef, undef, undef, undef], defers := [] })
    (fun x a' W l o o' hl ho hoc => by
      rintro ⟨Bs, Bx, h1, h2, h3, h4⟩
      have key : ∀ {B : Nat} {cs : Array Value} {T : TypeId}, Blk W B cs T → Blk (W.putObj l o') B cs T := fun {B cs T} h => by
        have hne : l ≠ B := fun e => by
          subst e
          have hb : W.heap[l]? = _ := h
          rw [hb] at ho; cases ho; simp [Obj.isCells] at hoc
        exact (World.putObj_heap_other (Ne.symm hne)).trans h
      exact ⟨Bs, Bx, h1, key h2, key h3, h4⟩) ?assign ?body ?done ?stop
  case assign =>
    rintro l pre x W K ⟨z2, hB⟩ hK
    have HK := Lib.hid hK; clear hK
    simp only [Hit6.enc] at *
    gi_wp2
    have hs := hB.size
    have hlt := z2.lt
    exact HK.out _ _ (((KeepsOthers.alloc _ _).trans (KeepsOthers.alloc _ _)).from _) (((KeepC.refl _ W).alloc _).alloc _) ⟨(z2.alloc _).alloc _, (hB.alloc hs _).alloc (by simp; omega) _⟩ ⟨W.heap.size, W.heap.size + 1, ⟨by omega, by omega⟩, (Blk.new _ _ _ rfl).alloc _, Blk.new _ _ _ (by simp), rfl⟩
  case body =>
    rintro l pre x a' W ⟨z2, hB⟩ hlt ⟨Bs, Bx, hBB, bS, bX, rfl⟩
    have hr := looseP_range (pre.map Hit6.key)
    have Hst := Lib.hid (looseP_snoc (pre.map Hit6.key) x.key)
    obtain ⟨n, hn⟩ : ∃ n, looseP (pre.map Hit6.key) = n := ⟨_, rfl⟩
    rw [hn] at z2 hr Hst
    clear hn
    have c2 : W.cell? ⟨w.heap.size + 1, 0, none⟩ = some (.int .i64 n) := z2.cell rfl
    have f2 := z2.free 0
    have cs0 : W.cell? ⟨Bs, 0, none⟩ = some (.int .i64 x.s) := bS.cell rfl
    have cx1 : W.cell? ⟨Bx, 1, none⟩ = some (.int .i64 x.t.kind) := bX.cell rfl
    have cx2 : W.cell? ⟨Bx, 2, none⟩ = some (.int .i64 x.t.index) := bX.cell rfl
    obtain ⟨kk, hkk⟩ : ∃ k, x.t.kind = k := ⟨_, rfl⟩
    obtain ⟨ii, hii⟩ : ∃ k, x.t.index = k := ⟨_, rfl⟩
    have Hk := Lib.hid hkk; have Hi := Lib.hid hii
    rw [hkk] at cx1 ⊢
    rw [hii] at cx2 ⊢
    clear hkk hii
    have hlen : (pre ++ [x]).map Hit6.key = pre.map Hit6.key ++ [x.key] := by simp
    by_cases hk : kk = 0 ∧ (x.s : Int) ≤ ii
    · obtain ⟨rfl, hi⟩ := hk
      obtain ⟨q, hq⟩ : ∃ q, IntKind.i64.wrap (ii - (x.s : Int)) = q := ⟨_, rfl⟩
      have Hq := Lib.hid hq
      have hqr : -9223372036854775808 ≤ q ∧ q ≤ 9223372036854775807 := by
        have h : (Lit.int .i64 (wrap64 (ii - (x.s : Int)))).wf = true := wrap64_wf _
        have h2 : IntKind.i64.min ≤ wrap64 (ii - (x.s : Int)) ∧ wrap64 (ii - (x.s : Int)) ≤ 9223372036854775807 := by simpa [Lit.wf] using h
        have h3 : IntKind.i64.min = -9223372036854775808 := by rfl
        have h4 : wrap64 (ii - (x.s : Int)) = q := by rw [← IntWalk.i64_left]; exact hq
        omega
      have hq2 : IntKind.i64.wrap (min q 1000 + 1) = min q 1000 + 1 := IntWalk.i64_in _ (by omega)
      have Hn : Hid (looseP (pre.map Hit6.key ++ [x.key]) = max n (min q 1000 + 1)) := by
        show _ = _
        rw [Hst.out, looseStep, if_pos ⟨Hk.out, by rw [Hit6.key]; simp only []; rw [Hi.out]; exact hi⟩]
        show max n (min (IntKind.i64.wrap (x.t.index - x.s)) 1000 + 1) = _
        rw [Hi.out, Hq.out]
      gi_wp2
      refine ⟨(KeepsOthers.setCell _ _ _).from _, (KeepC.refl _ W).setCell _ _ (by simp [But]), ?_, hB.setCell (p := ⟨w.heap.size + 1, 0, none⟩) (by simp) _⟩
      rw [hlen, Hn.out]
      exact z2.set 0 _
    · have Hn : Hid (looseP (pre.map Hit6.key ++ [x.key]) = n) := by
        show _ = _
        rw [Hst.out, looseStep, if_neg]
        rintro ⟨h1, h2⟩
        exact hk ⟨Hk.out.symm.trans h1, by have h3 : (x.s : Int) ≤ x.t.index := h2; rw [Hi.out] at h3; exact h3⟩
      have fin : ∀ (W' : World) (n0 : Nat), W' = W → KeepsFrom n0 W W' ∧ KeepC (But w.heap.size (w.heap.size + 2)) W W' ∧ (Blk W' (w.heap.size + 1) #[.int .i64 (looseP ((pre ++ [x]).map Hit6.key))] 3 ∧ Below w.heap.size w W') := by
        rintro W' n0 rfl
        refine ⟨(KeepsOthers.refl _).from _, KeepC.refl _ _, ?_, hB⟩
        rw [hlen, Hn.out]; exact z2
      have Fin := Lib.hid fin; clear fin
      by_cases hk0 : kk = 0
      · subst hk0
        have hi' : ¬ (x.s : Int) ≤ ii := fun h => hk ⟨rfl, h⟩
        have hi2 : ii < (x.s : Int) := by omega
        gi_wp2
        exact Fin.out _ _ rfl
      · have g0 : (kk == 0) = false := by simpa using hk0
        gi_wp2
        exact Fin.out _ _ rfl
  case done =>
    rintro D ys W hD hys ⟨z2, hB⟩ hK
    have Hys := Lib.hid hys; clear hys
    have hl := looseP_pre t Hfit.out
    rw [← Hys.out] at hl
    obtain ⟨n, hn⟩ : ∃ n, looseP (ys.map Hit6.key) = n := ⟨_, rfl⟩
    rw [hn] at z2 hl
    have Hl := Lib.hid hl
    clear hl hn
    have c2 : W.cell? ⟨w.heap.size + 1, 0, none⟩ = some (.int .i64 n) := z2.cell rfl
    gi_wp2
    refine ⟨by simp, .inl ⟨_, _, rfl, run_takeDeferred hK, ?_⟩⟩
    exact ⟨_, results_tmp rfl _ _ _, by rw [← Hl.out]; rfl, hB.trans (belowK_b (w := w) (Nat.le_refl _) W D _ _ (by omega) hK rfl rfl)⟩
  case stop =>
    rintro D c pre W _ _ h _
    exact h.elim
end Go.Proofs.Ytejpgifofkiofaa

namespace Go.Proofs.Ytejpgifofkiofaa
open Go.RowKit Go.Shelf
attribute [local go_sem] Oper.semAt_some

def depthP (l : List (Nat × Nat × Tm)) : Int := l.foldl (fun n p => max n (p.2.1 : Int)) 0
theorem depthP_snoc (l : List (Nat × Nat × Tm)) (p : Nat × Nat × Tm) : depthP (l ++ [p]) = max (depthP l) (p.2.1 : Int) := by simp [depthP]
theorem depth_pres_of {l : List Tm} (h : ∀ t ∈ l, ∀ (s d : Nat) (n : Int), (t.pre s d).foldl (fun n p => max n (p.2.1 : Int)) n = max n ((d : Int) - 1 + t.depth)) : ∀ (s d : Nat) (n : Int), (d : Int) - 1 ≤ n → (Tm.pres l s d).foldl (fun n p => max n (p.2.1 : Int)) n = max n ((d : Int) - 1 + Tm.depths l) := by
  induction l with
  | nil => intro s d n hn; simp [Tm.pres, Tm.depths]; omega
  | cons t l ih =>
    intro s d n hn
    rw [Tm.pres, List.foldl_append, h t (by simp), ih (fun u hu => h u (by simp [hu])) s d _ (by omega)]
    simp only [Tm.depths]; omega
theorem depth_pre (t : Tm) : ∀ (s d : Nat) (n : Int), (t.pre s d).foldl (fun n p => max n (p.2.1 : Int)) n = max n ((d : Int) - 1 + t.depth) := by
  induction t using Tm.ind with
  | h b k i a ih =>
    intro s d n
    rw [Tm.pre_eq, List.foldl_cons, depth_pres_of ih _ _ _ (by simp only []; omega), Tm.depth_eq]
    simp only []; omega
theorem depthP_pre (t : Tm) : depthP (t.pre 0 1) = t.depth := by
  have := depth_pre t 0 1 0
  unfold depthP
  rw [this]
  have := Tm.depth_pos t
  omega

set_option maxRecDepth 100000 in
set_option maxHeartbeats 2000000 in
theorem depth6_k {F : Nat → Prop} {w : World} {b k i a : Value} {t : Tm} (ht : IsTm F w b k i a t) (hsz : t.full ≤ 500000) : Calls Try.prog 76 #[.agg #[b, k, i, a]] w (RetI t.depth w) := by
  refine (callsIn_wide (n := 9)).1 ?_
  have Ht := Lib.hid (ht.weaken (F' := fun _ => True) fun _ _ _ => trivial)
  obtain ⟨pa, pc, qa, qc, rfl, rfl, rfl, rfl⟩ := ht.shape
  clear ht
  obtain ⟨x1, hx1⟩ : ∃ x, t.binds.length = x := ⟨_, rfl⟩
  obtain ⟨x2, hx2⟩ : ∃ x, t.args.length = x := ⟨_, rfl⟩
  obtain ⟨x3, hx3⟩ : ∃ x, t.kind = x := ⟨_, rfl⟩
  obtain ⟨x4, hx4⟩ : ∃ x, t.index = x := ⟨_, rfl⟩
  rw [hx1, hx2, hx3, hx4] at Ht ⊢
  clear hx1 hx2 hx3 hx4
  refine callsIn_of_wp_marks Try.func76 rfl trivial ?_ rfl
  simp only [Try.ntmps76, List.size_toArray, List.length_cons, List.length_nil, Nat.reduceAdd, Nat.reduceSub, Array.replicate_succ, Array.replicate_zero, List.push_toArray, List.append_toArray, List.nil_append, List.cons_append]
  gi_wp2_with fail
  refine ⟨trivial, (each6_k _ _ _ _ _ _ ⟨_, _, _, rfl⟩ ⟨_, rfl⟩ ⟨_, rfl⟩ ⟨_, _, _, rfl⟩).mono ?_⟩
  rintro e w' ⟨rfl, rfl⟩
  gi_wp2_with fail
  have hsz' := Lib.hid hsz
  have hfl := Tm.size_le_full t
  obtain ⟨w5, hw5⟩ : ∃ w5, ((w.alloc (.cells #[.slice pa x1 pc, .int .i64 x3, .int .i64 x4, .slice qa x2 qc] 37)).alloc (.cells #[.int .i64 0] 3)).alloc (.cells #[.slice pa x1 pc, .int .i64 x3, .int .i64 x4, .slice qa x2 qc] 37) = w5 := ⟨_, rfl⟩
  have hB0 : Below w.heap.size w w5 := by rw [← hw5]; exact (((Below.refl _ w).alloc (Nat.le_refl _) _).alloc (by simp) _).alloc (by simp; omega) _
  have hz : w5.heap.size = w.heap.size + 3 := by rw [← hw5]; simp
  have y2 : Blk w5 (w.heap.size + 1) #[.int .i64 0] 3 := by rw [← hw5]; exact (Blk.new _ _ _ (by simp)).alloc _
  have y3 : Blk w5 (w.heap.size + 1 + 1) #[.slice pa x1 pc, .int .i64 x3, .int .i64 x4, .slice qa x2 qc] 37 := by rw [← hw5]; exact Blk.new _ _ _ (by simp)
  rw [hw5]
  clear hw5
  refine range_softA (Ok := SpotOk) (fun o h => .inl h) rfl (by omega) (gf := 125) (lb := #[.pointer (some ⟨w.heap.size + 1 + 1, 0, none⟩)]) rfl trivial (enters_of Try.func125 (by kernel_rfl) rfl)
    (each6_soft (But w.heap.size (w.heap.size + 2)) (fun k _ _ hk => .inl hk) Ht.out hsz (9 - 1) w5 (fun k _ hk _ => .inr (by omega)) ((Keep.refl _ _).below hB0) (w.heap.size + 1 + 1) y3)
    (fun h h' => h.trans h') (fun W l o o' _ hl ho _ => KeepC.putObj _ W l o o' hl ho) (Below.refl _ _) (fun _ => rfl)
    (fun pre W => Blk W (w.heap.size + 1) #[.int .i64 (depthP (pre.map Hit6.key))] 3 ∧ Below w.heap.size w W)
    (fun _ _ _ => False)
    (Mild.and (mild_blk (by decide) (fun (pre : List (Hit6 (fun _ => True) w)) => #[.int .i64 (depthP (pre.map Hit6.key))])) (mild_below (Nat.le_refl _) (by omega)))
    (fun _ _ _ _ _ hs _ _ => hs)
    ⟨y2, hB0⟩
    (fun x a' W => ∃ Bs, w.heap.size + 1 < Bs ∧ Blk W Bs #[.int .i64 x.s, .int .i64 x.d] 148 ∧ a' = { tmps := #[.agg #[.slice pa x1 pc, .int .i64 x3, .int .i64 x4, .slice qa x2 qc], .pointer (some ⟨w.heap.size, 0, none⟩), .int .i64 0, .pointer (some ⟨w.heap.size + 1, 0, none⟩), .pointer (some ⟨Bs, 0, none⟩), .agg #[.slice pa x1 pc, .int .i64 x3, .int .i64 x4, .slice qa x2 qc], .func (.func 125) #[] #[.pointer (some ⟨w.heap.size + 1 + 1, 0, none⟩)], .agg #[.int .i64 x.s, .int .i64 x.d], .agg #[.slice x.pb x.t.binds.length x.cb, .int .i64 x.t.kind, .int .i64 x.t.index, .slice x.pa x.t.args.length x.ca], undef, undef, undef, undef, undef], defers := [] })
    (fun x a' W l o o' hl ho hoc => by
      rintro ⟨Bs, h1, h2, h4⟩
      have hne : l ≠ Bs := fun e => by
        subst e
        have hb : W.heap[l]? = _ := h2
        rw [hb] at ho; cases ho; simp [Obj.isCells] at hoc
      exact ⟨Bs, h1, (World.putObj_heap_other (Ne.symm hne)).trans h2, h4⟩) ?assign ?body ?done ?stop
  case assign =>
    rintro l pre x W K ⟨z2, hB⟩ hK
    have HK := Lib.hid hK; clear hK
    simp only [Hit6.enc] at *
    gi_wp2
    have hs := hB.size
    have hlt := z2.lt
    exact HK.out _ _ ((KeepsOthers.alloc _ _).from _) ((KeepC.refl _ W).alloc _) ⟨z2.alloc _, hB.alloc hs _⟩ ⟨W.heap.size, by omega, Blk.new _ _ _ rfl, rfl⟩
  case body =>
    rintro l pre x a' W ⟨z2, hB⟩ hlt ⟨Bs, hBB, bS, rfl⟩
    have Hst := Lib.hid (depthP_snoc (pre.map Hit6.key) x.key)
    obtain ⟨n, hn⟩ : ∃ n, depthP (pre.map Hit6.key) = n := ⟨_, rfl⟩
    rw [hn] at z2 Hst
    clear hn
    have c2 : W.cell? ⟨w.heap.size + 1, 0, none⟩ = some (.int .i64 n) := z2.cell rfl
    have f2 := z2.free 0
    have cs1 : W.cell? ⟨Bs, 1, none⟩ = some (.int .i64 x.d) := bS.cell rfl
    have hlen : (pre ++ [x]).map Hit6.key = pre.map Hit6.key ++ [x.key] := by simp
    gi_wp2
    refine ⟨(KeepsOthers.setCell _ _ _).from _, (KeepC.refl _ W).setCell _ _ (by simp [But]), ?_, hB.setCell (p := ⟨w.heap.size + 1, 0, none⟩) (by simp) _⟩
    rw [hlen, Hst.out]
    exact z2.set 0 _
  case done =>
    rintro D ys W hD hys ⟨z2, hB⟩ hK
    have hl := depthP_pre t
    rw [← hys] at hl
    rw [hl] at z2
    clear hys hl
    have c2 : W.cell? ⟨w.heap.size + 1, 0, none⟩ = some (.int .i64 (t.depth : Int)) := z2.cell rfl
    gi_wp2
    refine ⟨by simp, .inl ⟨_, _, rfl, run_takeDeferred hK, ?_⟩⟩
    exact ⟨_, results_tmp rfl _ _ _, rfl, hB.trans (belowK_b (w := w) (Nat.le_refl _) W D _ _ (by omega) hK rfl rfl)⟩
  case stop =>
    rintro D c pre W _ _ h _
    exact h.elim
end Go.Proofs.Ytejpgifofkiofaa

namespace Go.Proofs.Ytejpgifofkiofaa
open Go.RowKit

def sgn (x y : Int) : Int := if x < y then -1 else if y < x then 1 else 0
def orl (a b : Int) : Int := if a = 0 then b else a
def orls : List Int → Int
  | [] => 0
  | a :: l => orl a (orls l)
@[simp] theorem orl_zero (b : Int) : orl 0 b = b := by simp [orl]
@[simp] theorem orl_zero_right (a : Int) : orl a 0 = a := by unfold orl; split <;> simp_all
theorem orl_eq_zero {a b : Int} : orl a b = 0 ↔ a = 0 ∧ b = 0 := by unfold orl; split <;> simp_all
theorem orl_ne {a b : Int} (h : a ≠ 0) : orl a b = a := by simp [orl, h]
theorem orl_neg (a b : Int) : orl (-a) (-b) = - orl a b := by unfold orl; split <;> split <;> omega
theorem orl_assoc (a b c : Int) : orl (orl a b) c = orl a (orl b c) := by
  unfold orl
  by_cases h : a = 0 <;> simp [h]
theorem sgn_neg (x y : Int) : sgn y x = - sgn x y := by unfold sgn; split <;> split <;> (try split) <;> omega
theorem sgn_zero {x y : Int} : sgn x y = 0 ↔ x = y := by unfold sgn; constructor <;> intro h <;> (repeat split at h) <;> (repeat split) <;> omega
theorem sgn_range (x y : Int) : -1 ≤ sgn x y ∧ sgn x y ≤ 1 := by unfold sgn; repeat split <;> omega
theorem orl_range {a b : Int} (ha : -1 ≤ a ∧ a ≤ 1) (hb : -1 ≤ b ∧ b ≤ 1) : -1 ≤ orl a b ∧ orl a b ≤ 1 := by unfold orl; split <;> omega

def Tri (n m k : Int) : Prop := (n ≤ 0 → m ≤ 0 → k ≤ 0) ∧ (n < 0 → m ≤ 0 → k < 0) ∧ (n ≤ 0 → m < 0 → k < 0)
theorem tri_sgn (x y z : Int) : Tri (sgn x y) (sgn y z) (sgn x z) := by
  unfold Tri sgn
  refine ⟨?_, ?_, ?_⟩ <;> intro h1 h2 <;> (repeat split at h1) <;> (repeat split at h2) <;> (repeat split) <;> omega
theorem tri_orl {n m k n' m' k' : Int} (h : Tri n m k) (h' : n = 0 → m = 0 → k = 0 → Tri n' m' k') (h0 : n = 0 → m = 0 → k = 0) : Tri (orl n n') (orl m m') (orl k k') := by
  obtain ⟨h1, h2, h3⟩ := h
  unfold orl
  by_cases hn : n = 0
  · by_cases hm : m = 0
    · rw [if_pos hn, if_pos hm, if_pos (h0 hn hm)]
      exact h' hn hm (h0 hn hm)
    · rw [if_pos hn, if_neg hm]
      refine ⟨fun a b => ?_, fun a b => ?_, fun a b => ?_⟩ <;> split <;> omega
  · rw [if_neg hn]
    by_cases hm : m = 0
    · rw [if_pos hm]
      refine ⟨fun a b => ?_, fun a b => ?_, fun a b => ?_⟩ <;> split <;> omega
    · rw [if_neg hm]
      refine ⟨fun a b => ?_, fun a b => ?_, fun a b => ?_⟩ <;> split <;> omega

namespace Ty
mutual
def cmp : Ty → Ty → Int
  | .mk l b, .mk l' b' => orl (orl (orl (sgn (Ty.sizes l + 1 : Nat) (Ty.sizes l' + 1 : Nat)) (sgn (l.length : Nat) (l'.length : Nat))) (cmps l l')) (sgn b b')
def cmps : List Ty → List Ty → Int
  | [], _ => 0
  | _ :: _, [] => 0
  | t :: l, u :: l' => orl (cmp t u) (cmps l l')
end
theorem cmp_mk (l l' : List Ty) (b b' : Int) : cmp (.mk l b) (.mk l' b') = orl (orl (orl (sgn (size (.mk l b)) (size (.mk l' b'))) (sgn l.length l'.length)) (cmps l l')) (sgn b b') := by
  rw [cmp]; simp [size]
theorem cmps_cons (t u : Ty) (l l' : List Ty) : cmps (t :: l) (u :: l') = orl (cmp t u) (cmps l l') := by rw [cmps]
@[simp] theorem cmps_nil (l : List Ty) : cmps [] l = 0 := by rw [cmps]

theorem cmps_self_of {l : List Ty} (h : ∀ t ∈ l, cmp t t = 0) : cmps l l = 0 := by
  induction l with
  | nil => simp
  | cons t l ih => rw [cmps_cons, h t (by simp), ih fun u hu => h u (by simp [hu])]; simp
theorem cmp_self (t : Ty) : cmp t t = 0 := by
  induction t using Ty.ind with
  | h l b ih => rw [cmp_mk, cmps_self_of ih]; simp [sgn]
theorem cmps_zero_of {l : List Ty} (h : ∀ t ∈ l, ∀ u, cmp t u = 0 → t = u) : ∀ l', l.length = l'.length → cmps l l' = 0 → l = l' := by
  induction l with
  | nil => intro l' h1; cases l' <;> simp_all
  | cons t l ih =>
    intro l' h1 h2
    cases l' with
    | nil => simp at h1
    | cons u l' =>
      rw [cmps_cons, orl_eq_zero] at h2
      rw [h t (by simp) u h2.1, ih (fun u hu => h u (by simp [hu])) l' (by simpa using h1) h2.2]
theorem eq_of_cmp (t : Ty) : ∀ u, cmp t u = 0 → t = u := by
  induction t using Ty.ind with
  | h l b ih =>
    intro u h
    cases u with
    | mk l' b' =>
      rw [cmp_mk] at h
      simp only [orl_eq_zero, sgn_zero] at h
      rw [cmps_zero_of ih l' (by have := h.1.1.2; omega) h.1.2, h.2]
theorem cmp_zero (t u : Ty) : cmp t u = 0 ↔ t = u := ⟨eq_of_cmp t u, fun h => h ▸ cmp_self t⟩
theorem cmps_zero {l l' : List Ty} (h : l.length = l'.length) : cmps l l' = 0 ↔ l = l' :=
  ⟨cmps_zero_of (fun t _ => eq_of_cmp t) l' h, fun h => h ▸ cmps_self_of fun t _ => cmp_self t⟩
theorem cmps_neg_of {l : List Ty} (h : ∀ t ∈ l, ∀ u, cmp u t = - cmp t u) : ∀ l', cmps l' l = - cmps l l' := by
  induction l with
  | nil => intro l'; cases l' <;> simp [cmps]
  | cons t l ih =>
    intro l'
    cases l' with
    | nil => simp [cmps]
    | cons u l' => rw [cmps_cons, cmps_cons, h t (by simp), ih (fun u hu => h u (by simp [hu])), orl_neg]
theorem cmp_neg (t : Ty) : ∀ u, cmp u t = - cmp t u := by
  induction t using Ty.ind with
  | h l b ih =>
    intro u
    cases u with
    | mk l' b' => rw [cmp_mk, cmp_mk, cmps_neg_of ih, sgn_neg b b', sgn_neg (size (.mk l b)) _, sgn_neg l.length, orl_neg, orl_neg, orl_neg]
theorem cmps_neg (l l' : List Ty) : cmps l' l = - cmps l l' := cmps_neg_of (fun t _ => cmp_neg t) l'
theorem cmps_range_of {l : List Ty} (h : ∀ t ∈ l, ∀ u, -1 ≤ cmp t u ∧ cmp t u ≤ 1) : ∀ l', -1 ≤ cmps l l' ∧ cmps l l' ≤ 1 := by
  induction l with
  | nil => intro l'; simp
  | cons t l ih =>
    intro l'
    cases l' with
    | nil => simp [cmps]
    | cons u l' => rw [cmps_cons]; exact orl_range (h t (by simp) u) (ih (fun u hu => h u (by simp [hu])) l')
theorem cmp_range (t : Ty) : ∀ u, -1 ≤ cmp t u ∧ cmp t u ≤ 1 := by
  induction t using Ty.ind with
  | h l b ih =>
    intro u
    cases u with
    | mk l' b' => rw [cmp_mk]; exact orl_range (orl_range (orl_range (sgn_range _ _) (sgn_range _ _)) (cmps_range_of ih l')) (sgn_range _ _)
theorem cmps_range (l l' : List Ty) : -1 ≤ cmps l l' ∧ cmps l l' ≤ 1 := cmps_range_of (fun t _ => cmp_range t) l'
theorem tri_cmps_of {l : List Ty} (h : ∀ t ∈ l, ∀ u v, Tri (cmp t u) (cmp u v) (cmp t v)) : ∀ l' l'', l.length = l'.length → l'.length = l''.length → Tri (cmps l l') (cmps l' l'') (cmps l l'') := by
  induction l with
  | nil =>
    intro l' l'' h1 h2
    have e1 : l' = [] := by cases l' with
      | nil => rfl
      | cons => simp at h1
    subst e1
    unfold Tri; simp
  | cons t l ih =>
    intro l' l'' h1 h2
    match l', l'' with
    | u :: l', v :: l'' =>
      rw [cmps_cons, cmps_cons, cmps_cons]
      refine tri_orl (h t (by simp) u v) (fun _ _ _ => ih (fun u hu => h u (by simp [hu])) l' l'' (by simpa using h1) (by simpa using h2)) fun h3 h4 => ?_
      rw [cmp_zero] at *; rw [h3, h4]
theorem tri_cmp (t : Ty) : ∀ u v, Tri (cmp t u) (cmp u v) (cmp t v) := by
  induction t using Ty.ind with
  | h l b ih =>
    intro u v
    cases u with
    | mk l' b' =>
      cases v with
      | mk l'' b'' =>
        rw [cmp_mk, cmp_mk, cmp_mk]
        have hz := fun (x y z : Int) => (show sgn x y = 0 → sgn y z = 0 → sgn x z = 0 by simp only [sgn_zero]; intro h h'; rw [h, h'])
        have h2 : ∀ {x y z x' y' z' : Int}, orl (sgn x y) (sgn x' y') = 0 → orl (sgn y z) (sgn y' z') = 0 → orl (sgn x z) (sgn x' z') = 0 := by
          intro x y z x' y' z' h1 h2
          simp only [orl_eq_zero, sgn_zero] at *
          omega
        refine tri_orl (tri_orl (tri_orl (tri_sgn _ _ _) (fun _ _ _ => tri_sgn _ _ _) (hz _ _ _)) (fun h3 h4 _ => ?_) h2) (fun _ _ _ => tri_sgn _ _ _) fun h3 h4 => ?_
        · simp only [orl_eq_zero, sgn_zero] at h3 h4
          exact tri_cmps_of ih l' l'' (by omega) (by omega)
        · have h5 := orl_eq_zero.1 h3
          have h6 := orl_eq_zero.1 h4
          refine orl_eq_zero.2 ⟨h2 h5.1 h6.1, ?_⟩
          have h7 := h5.1; have h8 := h6.1
          simp only [orl_eq_zero, sgn_zero] at h7 h8
          rw [(cmps_zero (by omega)).1 h5.2]; exact h6.2
end Ty
end Go.Proofs.Ytejpgifofkiofaa

namespace Go.Proofs.Ytejpgifofkiofaa
open Go.RowKit

namespace Tm
def cmpB (l l' : List Ty) : Int := orl (sgn (l.length : Nat) (l'.length : Nat)) (Ty.cmps l l')
mutual
def cmp : Tm → Tm → Int
  | .mk b k i a, .mk b' k' i' a' => orl (sgn (Tm.sizes a + 1 : Nat) (Tm.sizes a' + 1 : Nat)) (orl (cmpB b b') (orl (sgn k k') (orl (sgn i i') (orl (sgn (a.length : Nat) (a'.length : Nat)) (cmps a a')))))
def cmps : List Tm → List Tm → Int
  | [], _ => 0
  | _ :: _, [] => 0
  | t :: l, u :: l' => orl (cmp t u) (cmps l l')
end
theorem cmp_mk (b : List Ty) (k i : Int) (a : List Tm) (b' : List Ty) (k' i' : Int) (a' : List Tm) : cmp (.mk b k i a) (.mk b' k' i' a') = orl (sgn (size (.mk b k i a)) (size (.mk b' k' i' a'))) (orl (cmpB b b') (orl (sgn k k') (orl (sgn i i') (orl (sgn a.length a'.length) (cmps a a'))))) := by
  rw [cmp]; simp [size]
theorem cmps_cons (t u : Tm) (l l' : List Tm) : cmps (t :: l) (u :: l') = orl (cmp t u) (cmps l l') := by rw [cmps]
@[simp] theorem cmps_nil (l : List Tm) : cmps [] l = 0 := by rw [cmps]
theorem cmpB_self (l : List Ty) : cmpB l l = 0 := by
  rw [cmpB, orl_eq_zero]; exact ⟨sgn_zero.2 rfl, (Ty.cmps_zero rfl).2 rfl⟩
theorem cmpB_zero {l l' : List Ty} : cmpB l l' = 0 ↔ l = l' := by
  constructor
  · intro h
    rw [cmpB, orl_eq_zero, sgn_zero] at h
    exact (Ty.cmps_zero (by omega)).1 h.2
  · rintro rfl; exact cmpB_self l
theorem cmpB_neg (l l' : List Ty) : cmpB l' l = - cmpB l l' := by rw [cmpB, cmpB, ← orl_neg, Ty.cmps_neg, sgn_neg (l.length : Int)]
theorem cmps_self_of {l : List Tm} (h : ∀ t ∈ l, cmp t t = 0) : cmps l l = 0 := by
  induction l with
  | nil => simp
  | cons t l ih => rw [cmps_cons, h t (by simp), ih fun u hu => h u (by simp [hu])]; simp
theorem cmp_self (t : Tm) : cmp t t = 0 := by
  induction t using Tm.ind with
  | h b k i a ih => rw [cmp_mk, cmps_self_of ih, cmpB_self]; simp [sgn]
theorem cmps_zero_of {l : List Tm} (h : ∀ t ∈ l, ∀ u, cmp t u = 0 → t = u) : ∀ l', l.length = l'.length → cmps l l' = 0 → l = l' := by
  induction l with
  | nil => intro l' h1; cases l' <;> simp_all
  | cons t l ih =>
    intro l' h1 h2
    cases l' with
    | nil => simp at h1
    | cons u l' =>
      rw [cmps_cons, orl_eq_zero] at h2
      rw [h t (by simp) u h2.1, ih (fun u hu => h u (by simp [hu])) l' (by simpa using h1) h2.2]
theorem eq_of_cmp (t : Tm) : ∀ u, cmp t u = 0 → t = u := by
  induction t using Tm.ind with
  | h b k i a ih =>
    intro u h
    cases u with
    | mk b' k' i' a' =>
      rw [cmp_mk] at h
      simp only [orl_eq_zero, sgn_zero, cmpB_zero] at h
      obtain ⟨_, rfl, rfl, rfl, h1, h2⟩ := h
      rw [cmps_zero_of ih a' (by omega) h2]
theorem cmp_zero (t u : Tm) : cmp t u = 0 ↔ t = u := ⟨eq_of_cmp t u, fun h => h ▸ cmp_self t⟩
theorem cmps_neg_of {l : List Tm} (h : ∀ t ∈ l, ∀ u, cmp u t = - cmp t u) : ∀ l', cmps l' l = - cmps l l' := by
  induction l with
  | nil => intro l'; cases l' <;> simp [cmps]
  | cons t l ih =>
    intro l'
    cases l' with
    | nil => simp [cmps]
    | cons u l' => rw [cmps_cons, cmps_cons, h t (by simp), ih (fun u hu => h u (by simp [hu])), orl_neg]
theorem cmp_neg (t : Tm) : ∀ u, cmp u t = - cmp t u := by
  induction t using Tm.ind with
  | h b k i a ih =>
    intro u
    cases u with
    | mk b' k' i' a' => rw [cmp_mk, cmp_mk, cmps_neg_of ih, cmpB_neg, sgn_neg k, sgn_neg i, sgn_neg (size (.mk b k i a)) _, sgn_neg a.length, orl_neg, orl_neg, orl_neg, orl_neg, orl_neg]
theorem cmpB_range (l l' : List Ty) : -1 ≤ cmpB l l' ∧ cmpB l l' ≤ 1 := orl_range (sgn_range _ _) (Ty.cmps_range l l')
theorem cmps_range_of {l : List Tm} (h : ∀ t ∈ l, ∀ u, -1 ≤ cmp t u ∧ cmp t u ≤ 1) : ∀ l', -1 ≤ cmps l l' ∧ cmps l l' ≤ 1 := by
  induction l with
  | nil => intro l'; simp
  | cons t l ih =>
    intro l'
    cases l' with
    | nil => simp [cmps]
    | cons u l' => rw [cmps_cons]; exact orl_range (h t (by simp) u) (ih (fun u hu => h u (by simp [hu])) l')
theorem cmp_range (t : Tm) : ∀ u, -1 ≤ cmp t u ∧ cmp t u ≤ 1 := by
  induction t using Tm.ind with
  | h b k i a ih =>
    intro u
    cases u with
    | mk b' k' i' a' => rw [cmp_mk]; exact orl_range (sgn_range _ _) (orl_range (cmpB_range _ _) (orl_range (sgn_range _ _) (orl_range (sgn_range _ _) (orl_range (sgn_range _ _) (cmps_range_of ih a')))))
theorem cmps_drop {l l' : List Tm} {k : Nat} (h : k < l.length) (h' : k < l'.length) : cmps (l.drop k) (l'.drop k) = orl (cmp l[k] l'[k]) (cmps (l.drop (k + 1)) (l'.drop (k + 1))) := by
  rw [List.drop_eq_getElem_cons h, List.drop_eq_getElem_cons h', cmps_cons]
end Tm
end Go.Proofs.Ytejpgifofkiofaa

namespace Go.Proofs.Ytejpgifofkiofaa
open Go.RowKit

theorem sgn_lt {x y : Int} (h : x < y) : sgn x y = -1 := by simp [sgn, h]
theorem sgn_gt {x y : Int} (h : y < x) : sgn x y = 1 := by simp [sgn, h, show ¬ x < y by omega]
theorem sgn_eq {x y : Int} (h1 : ¬ x < y) (h2 : ¬ y < x) : sgn x y = 0 := by simp [sgn, h1, h2]

theorem sign_r (w : World) (x y : Int) : Calls Try.prog 105 #[.int .i64 x, .int .i64 y] w (RetI (sgn x y) w) := by
  by_cases h1 : x < y
  · have Hs := Lib.hid (sgn_lt h1)
    go_enter Try.func105, Try.ntmps105
    go_wp2_with fail
    go_ret
    exact ⟨by rw [Hs.out]; rfl, Below.refl _ _⟩
  · by_cases h2 : y < x
    · have Hs := Lib.hid (sgn_gt h2)
      have h2' : x > y := h2
      go_enter Try.func105, Try.ntmps105
      go_wp2_with fail
      go_ret
      exact ⟨by rw [Hs.out]; rfl, Below.refl _ _⟩
    · have Hs := Lib.hid (sgn_eq h1 h2)
      have h2' : ¬ x > y := h2
      go_enter Try.func105, Try.ntmps105
      go_wp2_with fail
      go_ret
      exact ⟨by rw [Hs.out]; rfl, Below.refl _ _⟩
theorem sign_r6 (w : World) (x y : Int) : Calls Try.prog 104 #[.int .i64 x, .int .i64 y] w (RetI (sgn x y) w) := by
  by_cases h1 : x < y
  · have Hs := Lib.hid (sgn_lt h1)
    go_enter Try.func104, Try.ntmps104
    go_wp2_with fail
    go_ret
    exact ⟨by rw [Hs.out]; rfl, Below.refl _ _⟩
  · by_cases h2 : y < x
    · have Hs := Lib.hid (sgn_gt h2)
      have h2' : x > y := h2
      go_enter Try.func104, Try.ntmps104
      go_wp2_with fail
      go_ret
      exact ⟨by rw [Hs.out]; rfl, Below.refl _ _⟩
    · have Hs := Lib.hid (sgn_eq h1 h2)
      have h2' : ¬ x > y := h2
      go_enter Try.func104, Try.ntmps104
      go_wp2_with fail
      go_ret
      exact ⟨by rw [Hs.out]; rfl, Below.refl _ _⟩

theorem isNaN_i (w : World) (x : Int) : Calls Try.prog 123 #[.int .i64 x] w fun e w' => e = .returned (.bool false) ∧ w' = w := by
  have h : (x != x) = false := by simp
  go_enter Try.func123, Try.ntmps123
  go_wp2_with fail
  go_ret
  exact ⟨rfl, rfl⟩

theorem compare_i (w : World) (x y : Int) : Calls Try.prog 100 #[.int .i64 x, .int .i64 y] w (RetI (sgn x y) w) := by
  by_cases h1 : x < y
  · have Hs := Lib.hid (sgn_lt h1)
    go_enter Try.func100, Try.ntmps100
    go_wp2_with fail
    refine (isNaN_i w x).mono ?_
    rintro e w1 ⟨rfl, rfl⟩
    go_wp2_with fail
    refine (isNaN_i _ y).mono ?_
    rintro e w2 ⟨rfl, rfl⟩
    go_wp2_with fail
    go_ret
    exact ⟨by rw [Hs.out]; rfl, Below.refl _ _⟩
  · by_cases h2 : y < x
    · have Hs := Lib.hid (sgn_gt h2)
      have h2' : x > y := h2
      go_enter Try.func100, Try.ntmps100
      go_wp2_with fail
      refine (isNaN_i w x).mono ?_
      rintro e w1 ⟨rfl, rfl⟩
      go_wp2_with fail
      refine (isNaN_i _ y).mono ?_
      rintro e w2 ⟨rfl, rfl⟩
      go_wp2_with fail
      go_ret
      exact ⟨by rw [Hs.out]; rfl, Below.refl _ _⟩
    · have Hs := Lib.hid (sgn_eq h1 h2)
      have h2' : ¬ x > y := h2
      go_enter Try.func100, Try.ntmps100
      go_wp2_with fail
      refine (isNaN_i w x).mono ?_
      rintro e w1 ⟨rfl, rfl⟩
      go_wp2_with fail
      refine (isNaN_i _ y).mono ?_
      rintro e w2 ⟨rfl, rfl⟩
      go_wp2_with fail
      go_ret
      exact ⟨by rw [Hs.out]; rfl, Below.refl _ _⟩

theorem orls_drop {l : List Int} {k : Nat} (hk : k < l.length) (h : l[k] = 0) : orls (l.drop k) = orls (l.drop (k + 1)) := by
  rw [List.drop_eq_getElem_cons hk, orls, h, orl_zero]
theorem orls_drop_ne {l : List Int} {k : Nat} (hk : k < l.length) (h : l[k] ≠ 0) : orls (l.drop k) = l[k] := by
  rw [List.drop_eq_getElem_cons hk, orls, orl_ne h]

theorem or_i (w : World) (bl off n c : Nat) (l : List Int) (hl : l.length = n) (hn : n ≤ 1000) (h : ∀ i (hi : i < l.length), w.cell? ⟨bl, off + i, none⟩ = some (.int .i64 l[i])) : Calls Try.prog 99 #[.slice (some ⟨bl, off, none⟩) n c] w (RetI (orls l) w) := by
  have Hc := Lib.hid h; clear h
  have Hl := Lib.hid hl; clear hl
  go_enter Try.func99, Try.ntmps99
  go_wp2_with fail
  go_loopw [8] (fun i wr => ∃ k : Nat, i = .int .i64 k ∧ k ≤ n ∧ wr = w ∧ Hid (orls l = orls (l.drop k))) (fun i _ => n - (intOf i).toNat)
  case atStart => exact ⟨0, rfl, by omega, rfl, rfl⟩
  case round =>
    obtain ⟨k, rfl, hk, rfl, hrel⟩ := hrel
    by_cases hlt : k < n
    · have hkl : k < l.length := by rw [Hl.out]; exact hlt
      have e1 := Hc.out k hkl
      by_cases h0 : l[k] = 0
      · have hd := Lib.hid (orls_drop hkl h0)
        rw [h0] at e1
        go_wp2_with fail
        go_roundw
        case rel => exact ⟨k + 1, by go_num, by omega, by trivial, hrel.out.trans hd.out⟩
        case measure => simp [intOf]; omega
      · have hd := Lib.hid (orls_drop_ne hkl h0)
        generalize l[k] = x at *
        have hx : (x != 0) = true := by simpa using h0
        have hx : (x == 0) = false := by simpa using h0
        go_wp2_with fail
        go_ret
        exact ⟨by rw [hrel.out, hd.out]; rfl, Below.refl _ _⟩
    · have hd : Hid (orls (l.drop k) = 0) := by show _ = _; rw [List.drop_of_length_le (by rw [Hl.out]; omega)]; rfl
      go_wp2_with fail
      go_ret
      exact ⟨by rw [hrel.out, hd.out]; rfl, Below.refl _ _⟩
theorem or2_i (w : World) (bl c : Nat) (x y : Int) (h : Blk w bl #[.int .i64 x, .int .i64 y] 3) : Calls Try.prog 99 #[.slice (some ⟨bl, 0, none⟩) 2 c] w (RetI (orl x y) w) := by
  have hi := or_i w bl 0 2 c [x, y] rfl (by omega) fun i hi => by
    match i, hi with
    | 0, _ => exact h.cell rfl
    | 1, _ => exact h.cell rfl
  have e : orls [x, y] = orl x y := by simp [orls]
  rw [e] at hi
  exact hi
end Go.Proofs.Ytejpgifofkiofaa

