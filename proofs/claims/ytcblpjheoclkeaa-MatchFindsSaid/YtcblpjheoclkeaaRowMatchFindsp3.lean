/-
  Deep values: all operations that write or make memory; what an operation tells hangs on what it reads alone. Deep values: what a call leaves. Deep values: a region's operations may come in any order that their edges allow. Deep values: a region, in whatever order it comes. Deep values: walking a region's operations in the order of the text. Deep values: a region as a whole. Deep values: the rules for code, for loops, for a function as a whole. Deep values: a function as a whole. Deep values: types and terms, as deep values and as they lie in memory. Deep values: the walk's own words. Deep values: the walk as a proposition that reckons itself out: each step hands its yield on.
-/
import Derived.Test.YtcblpjheoclkeaaRowMatchFindsp2
import Derived.Laws.MakeOwn
import Derived.OrdersHeld
import Derived.RegionTactic
import Derived.LoopN
import Derived.Scope
import Derived.Test.YtcblpjheoclkeaaRowMatchFindsp1
set_option maxRecDepth 100000
set_option maxHeartbeats 1000000
set_option linter.unusedVariables false
set_option linter.unusedSimpArgs false
namespace Go.Proofs.Ytcblpjheoclkeaa
open Go.RowKit

section
variable {P : Program} {T : List (Nat × TI)} {cx : Cx} {Fr Fr' : Nat → Prop} {m m' : Mp} {Im Im' : Nat → Nat → Prop} {w w' : World} {a : Act} {σ σ' : List (Key × D)}
theorem mop_run (hT : TabOk P T) (h : St cx Fr m Im w a σ) {nm : Nat} (hn : Fr nm) {o : Oper} {V : D} {W : List (Key × D)} {R : List Key} (hd : mop T σ nm o = some (V, W, R)) :
    ∃ nx v w' m' Im', (execOp a.eval o).run P w = .ok nx w' ∧ (nx = .value v ∨ (nx = .skip ∧ v = undef)) ∧ m.le m' ∧ KeepI Im w w' ∧ (∀ b o, Im b o → Im' b o) ∧ Rel m' Im' w' v V ∧ St cx (minus Fr nm) m' Im' w' a (puts σ W) := by
  unfold mop at hd
  unfold execOp
  split at hd
  · -- alloc
    rename_i t ho
    simp only [ho]
    cases hti : tget T t with
    | none => rw [hti] at hd; cases hd
    | some ti =>
      rw [hti] at hd
      cases hd
      obtain ⟨ei, ed, e1, e2, e3, e4, e5, e6, e7, e8⟩ := (hT _ _ hti).parts
      have hcz : (zeroOf ti).cells = ti.z.toArray := by
        have h1 := (hT _ _ hti).one
        simp only [Bool.and_eq_true, Bool.or_eq_true, beq_iff_eq] at h1
        unfold zeroOf
        cases hag : ti.ag with
        | true => simp [Value.cells]
        | false =>
          have hs : ti.sz = 1 := by rcases h1.1 with h | h; rw [hag] at h; cases h; exact h
          rw [hs] at e7
          match hz : ti.z, e7 with
          | [x], _ =>
            have := h1.2
            rw [hz] at this
            simp only [List.all_cons, List.all_nil, Bool.and_true] at this
            cases x <;> first | rfl | (simp [Value.oneCell'] at this)
      have hb : Below w.heap.size w (w.alloc (.cells ti.z.toArray t)) := (Below.refl _ _).alloc (Nat.le_refl _) _
      have hle : m.le (m.setB nm w.heap.size) := Mp.setB_le (h.mem.fr nm hn).1
      refine ⟨_, .pointer (some ⟨w.heap.size, 0, none⟩), w.alloc (.cells ti.z.toArray t), _, Im, ?_, .inl rfl, hle, KeepI.below hb, fun _ _ h => h, .p nm 0 _ (by simp [Mp.setB]), h.alloc hn ti.z _ t (relL_v _)⟩
      simp [Instr.alloc, zeroValue, typeInfo, e1, e5, newVar, newRow, hcz]
  · -- box
    rename_i t x ho
    simp only [ho]
    obtain ⟨ti, hti, hd⟩ := bind_some hd
    obtain ⟨d, hx, hd⟩ := bind_some hd
    cases hl : dcells ti d with
    | none => rw [hl] at hd; cases hd
    | some l =>
      rw [hl] at hd
      cases hd
      obtain ⟨cs, c1, c2, _, _, _, _⟩ := rel_dcells (h.ev hx) hl
      have hb : Below w.heap.size w (w.alloc (.cells cs.toArray t)) := (Below.refl _ _).alloc (Nat.le_refl _) _
      have hle : m.le (m.setB nm w.heap.size) := Mp.setB_le (h.mem.fr nm hn).1
      refine ⟨_, .pointer (some ⟨w.heap.size, 0, none⟩), w.alloc (.cells cs.toArray t), _, Im, ?_, .inl rfl, hle, KeepI.below hb, fun _ _ h => h, .p nm 0 _ (by simp [Mp.setB]), h.alloc hn cs _ t c2⟩
      simp [Instr.box, newVar, newRow, c1]
  · -- store
    rename_i t x y ho
    simp only [ho]
    obtain ⟨ti, hti, hd⟩ := bind_some hd
    split at hd
    · rename_i k off hx
      obtain ⟨d, hy, hd⟩ := bind_some hd
      obtain ⟨l, hl, hd⟩ := bind_some hd
      cases hc : cellsAt σ k off ti.sz with
      | none => rw [hc] at hd; cases hd
      | some l0 =>
        rw [hc] at hd
        cases hd
        obtain ⟨ei, ed, e1, e2, e3, e4, e5, e6, e7, e8⟩ := (hT _ _ hti).parts
        obtain ⟨b, hb, ex⟩ := rel_p (h.ev hx)
        obtain ⟨cs, c1, c2, c3, c4, _, _⟩ := rel_dcells (h.ev hy) hl
        obtain ⟨g1, _, g2⟩ := h.cellsAt hc
        obtain ⟨cs0, q1, q2⟩ := g2 b hb
        have hcs0 : cs0.length = cs.length := by rw [(relL_iff.1 q1).1, g1, c3]
        obtain ⟨w', hw', hst⟩ := St.setCells hb l cs off h c2 fun i hi => ⟨cs0[i]'(by omega), q2 i _ (List.getElem?_eq_getElem _)⟩
        have hrun := run_storeCells_cells (P := P) b off cs 0 w (fun j hj => by
            have := q2 j _ (List.getElem?_eq_getElem (show j < cs0.length by omega))
            simp [this]) (fun j _ => h.mem.free k b _ hb) (c2.one c4)
        simp only [Nat.add_zero, hw'] at hrun
        have hki : KeepI Im w w' := fun b' o' v hi hv => by
          rw [← hw', World.cell?_setCells_out]
          · exact hv
          · intro e; exact absurd hi (by rw [show b' = b from e]; exact h.mem.nim k b o' hb)
        refine ⟨_, undef, w', m, Im, ?_, .inr ⟨rfl, rfl⟩, Mp.le.refl m, hki, fun _ _ h => h, .v _, hst.less fun k hk => hk.1⟩
        simp [Instr.storeAt, ex, Instr.sureAddr, storeVar, sizeOf, typeInfo, e1, e3, c1, c3, hrun]
    · rename_i g len n i j hx
      split at hd
      · rename_i E n' l hg
        split at hd
        · rename_i hc
          obtain ⟨rfl, hlen, hi, hj⟩ := hc
          obtain ⟨d, hy, hd⟩ := bind_some hd
          cases hl : dcells ti d with
          | none => rw [hl] at hd; cases hd
          | some c =>
            rw [hl] at hd
            cases hd
            obtain ⟨ei, ed, e1, e2, e3, e4, e5, e6, e7, e8⟩ := (hT _ _ hti).parts
            obtain ⟨R, hR, hro⟩ := h.ro g _ hg
            obtain ⟨rfl, rfl, o3⟩ := hro.rpi
            have hX := h.ev hx
            generalize hxa : a.eval x = xv at hX ⊢
            cases hX with
            | pr _ _ _ _ _ b hh =>
            obtain ⟨R', p1, p2, p3⟩ := hh
            rw [hR] at p1; cases p1
            have hob := p3 (by omega)
            obtain ⟨cs, c1, c2, c3, c4, _, _⟩ := rel_dcells (h.ev hy) hl
            have hcl : c.length = ti.sz := by rw [← (relL_iff.1 c2).1]; exact c3
            have hil : i < l.length := by omega
            obtain ⟨m', w', hw', hst, s2, s3⟩ := St.rowSets c cs j h hR hob hro hil (by omega) c2 (c2.one c4)
            have hown : ∃ xs, w.ownsRow 0 R.E R.n R.hv R.len xs := by
              cases hro with
              | rp _ xs _ _ hown _ _ _ => exact ⟨xs, hown⟩
            obtain ⟨xs, hown⟩ := hown
            have hle : i * R.n + R.n ≤ xs.length := by
              rw [hown.1]
              have : (i + 1) * R.n ≤ R.len * R.n := Nat.mul_le_mul_right _ (by omega)
              rw [Nat.succ_mul] at this; omega
            have hrun := run_storeCells_cells (P := P) b (i * R.n + j) cs 0 w (fun k hk => by
                have hk2 : i * R.n + j + k < xs.length := by omega
                have := hown.cells hob _ _ (List.getElem?_eq_getElem hk2)
                rw [addr_add0] at this
                simp [this]) (fun k _ => by
                rcases hown.2 with ⟨q1, _⟩ | ⟨g', cap, cur, q1, _, q2, _⟩
                · rw [q1] at hob; cases hob
                · rw [q1] at hob
                  have : g' = b := by simpa [Value.ownBlock] using hob
                  subst this
                  exact frozen_of_row w g' _ cur _ q2) (c2.one c4)
            simp only [Nat.add_zero, hw'] at hrun
            refine ⟨_, undef, w', m', Im, ?_, .inr ⟨rfl, rfl⟩, s2, s3, fun _ _ h => h, .v _, ?_⟩
            · simp [hxa, Instr.storeAt, Instr.sureAddr, storeVar, sizeOf, typeInfo, e1, e3, c1, c3, hrun]
            · have hgd : l.getD i [] = l[i] := by rw [List.getD_eq_getElem?_getD, List.getElem?_eq_getElem hil]; rfl
              have hrow : l[i].length = R.n := by
                cases hro with
                | rp _ _ _ hn _ _ _ _ => exact hn i hil
              rw [hgd, rowPut_eq hrow]
              exact hst.less fun k hk => hk.1
        · cases hd
      · cases hd
    · cases hd
  · -- buildSlice
    rename_i t len parts ho
    simp only [ho]
    obtain ⟨v, w', m', Im', q1, q2, q3, q4, q5, q6⟩ := bsl_run (P := P) hT h hn hd
    exact ⟨_, v, w', m', Im', by simp [q1], .inl rfl, q2, q3, q4, q5, q6⟩
  · -- makeSlice
    rename_i t l c ho
    simp only [ho]
    unfold mkslD at hd
    split at hd
    · cases hd
    · rename_i ti hti
      split at hd
      · cases hd
      · rename_i E hE
        split at hd
        · cases hd
        · rename_i te hte
          split at hd
          · rename_i n hl hc
            split at hd
            · rename_i hb
              cases hd
              obtain ⟨ei, ed, e1, e2, e3, e4, e5, e6, e7, e8⟩ := (hT _ _ hte).parts
              have hsl := (hT _ _ hti).slice hE
              have hl' := rel_v.1 (h.ev hl)
              have hc' := rel_v.1 (h.ev hc)
              obtain ⟨k, rfl⟩ : ∃ k : Nat, n = (k : Int) := ⟨n.toNat, by omega⟩
              obtain ⟨w', r1, r2, r3⟩ := run_make_own (P := P) w 0 t E ei (zeroOf te) te.sz hsl e1 e5 e3 .i64 .i64 k (by
                rw [e4]
                have : te.bys * k ≤ 1000 * 1000000 := Nat.mul_le_mul hb.2.1 (by omega)
                omega) (by unfold maxLen; omega) (Nat.zero_le _)
              have hbl : Below w.heap.size w w' := ⟨r3.os, r3.tape, r3.output, r3.size, fun b hb => r3.block b hb (by simp)⟩
              obtain ⟨s1, s2⟩ := h.rowMade hn (.slice (some ⟨w.heap.size, 0, none⟩) 0 k) E te.sz hbl r2 rfl
              refine ⟨_, .slice (some ⟨w.heap.size, 0, none⟩) 0 k, w', _, Im, by simp [hl', hc', r1], .inl rfl, s2, KeepI.below hbl, fun _ _ h => h, ?_, s1⟩
              exact .sl _ k 0 0 te.sz (fun _ _ => undef) [] (some nm) ⟨Nat.zero_le _, Nat.zero_le _⟩ (fun h => absurd h (by simp)) (fun i _ h => absurd h (by simp)) (fun i h => absurd h (by simp)) (fun i _ h => absurd h (by simp)) (fun i h => absurd h (by simp)) fun r e => by
                cases e; exact ⟨⟨_, 0, E, te.sz⟩, by simp [Mp.setR], Nat.le_refl _, fun _ => rfl⟩
            · cases hd
          · cases hd
  · -- lookup
    rename_i t x y ok ho
    simp only [ho]
    unfold lkD at hd
    split at hd
    · rename_i ti k n hti hx hy
      split at hd
      · cases hd
      · rename_i e he
        split at hd
        · rename_i te l hte hl
          cases hd
          have hy' := rel_v.1 (h.ev hy)
          obtain ⟨v, r1, r2⟩ := look_run (P := P) h (hT _ _ hti) he (hT _ _ hte) hl (h.ev hx) n ok
          refine ⟨_, v, w, m, Im, by simp [hy', r1], .inl rfl, Mp.le.refl m, KeepI.refl _ _, fun _ _ h => h, ?_, h.less fun k hk => hk.1⟩
          cases ok <;> exact r2
        · cases hd
    · cases hd
  · -- mapUpdate
    rename_i t x y z ho
    simp only [ho]
    unfold updD at hd
    split at hd
    · rename_i ti k n d hti hx hy hz
      split at hd
      · cases hd
      · rename_i e he
        split at hd
        · rename_i l hl
          cases hd
          have hy' := rel_v.1 (h.ev hy)
          obtain ⟨w', r1, r2, r3⟩ := upd_run (P := P) h (hT _ _ hti) he hl (h.ev hx) n (h.ev hz)
          exact ⟨_, undef, w', m, Im, by simp [hy', r1], .inr ⟨rfl, rfl⟩, Mp.le.refl m, r2, fun _ _ h => h, .v _, r3.less fun k hk => hk.1⟩
        · cases hd
    · cases hd
  · -- insert
    rename_i t x y z ho
    simp only [ho]
    unfold updD at hd
    split at hd
    · rename_i ti k n d hti hx hy hz
      split at hd
      · cases hd
      · rename_i e he
        split at hd
        · rename_i l hl
          cases hd
          have hy' := rel_v.1 (h.ev hy)
          obtain ⟨w', r1, r2, r3⟩ := upd_run (P := P) h (hT _ _ hti) he hl (h.ev hx) n (h.ev hz)
          exact ⟨_, undef, w', m, Im, by simp [hy', r1], .inr ⟨rfl, rfl⟩, Mp.le.refl m, r2, fun _ _ h => h, .v _, r3.less fun k hk => hk.1⟩
        · cases hd
    · cases hd
  · -- makeMap
    rename_i t r ho
    simp only [ho]
    split at hd
    · cases hd
      obtain ⟨s1, s2⟩ := h.newObj hn (o := .map #[] 0) (d := .mp []) fun m' w' hb => obOk_mp.2 ⟨#[], 0, hb, trivial, List.nodup_nil, fun _ h => (by cases h)⟩
      have hbl : Below w.heap.size w (w.alloc (.map #[] 0)) := (Below.refl _ _).alloc (Nat.le_refl _) _
      refine ⟨_, .map (some w.heap.size), w.alloc (.map #[] 0), _, Im, ?_, .inl rfl, s2, KeepI.below hbl, fun _ _ h => h, .mo nm _ (by simp [Mp.setO]), s1⟩
      simp [Instr.makeMap, newObj]
      rfl
    · cases hd
  · -- append
    rename_i c ho
    simp only [ho]
    split at hd
    · rename_i x y t t' h1 h2 h3
      split at hd
      · rename_i ht
        subst ht
        obtain ⟨d, hx, hd⟩ := bind_some hd
        obtain ⟨e, hy, hd⟩ := bind_some hd
        obtain ⟨v, w', m', Im', q1, q2, q3, q4, q5, q6⟩ := app_run (P := P) (ty := o.type) hT h hn (h.ev hx) (h.ev hy) hd
        have e2 : c.args = #[x, y] := by apply Array.ext'; simpa using h2
        have e3 : c.argTypes = #[t, t] := by apply Array.ext'; simpa using h3
        exact ⟨_, v, w', m', Im', by simp [resolve, h1, e2, e3, invoke, builtin, q1], .inl rfl, q2, q3, q4, q5, q6⟩
      · cases hd
    · rename_i x t h1 h2 h3
      obtain ⟨d, hx, hd⟩ := bind_some hd
      obtain ⟨v, w', m', q1, q2, q3, q5, q6⟩ := clr_run (P := P) (ty := o.type) hT h (h.ev hx) hd
      have e2 : c.args = #[x] := by apply Array.ext'; simpa using h2
      have e3 : c.argTypes = #[t] := by apply Array.ext'; simpa using h3
      exact ⟨_, v, w', m', Im, by simp [resolve, h1, e2, e3, invoke, builtin, q1], .inl rfl, q2, q3, fun _ _ h => h, q5, q6.less fun k hk => hk.1⟩
    · cases hd
  · cases hd

/-! what is told hangs on what is read -/
def Agree (σ σ' : List (Key × D)) (k : Key) : Prop := ∀ d, get σ k = some d → get σ' k = some d
theorem ev_mono {x : Operand} (h : ∀ t, x = .tmp t → Agree σ σ' (.t t)) {d : D} (hx : ev σ x = some d) : ev σ' x = some d := by
  cases x with
  | tmp t => exact h t rfl d hx
  | _ => exact hx
theorem evs_mono : ∀ {xs : List Operand} (_ : ∀ x ∈ xs, ∀ t, x = .tmp t → Agree σ σ' (.t t)) {ds : List D}, evs σ xs = some ds → evs σ' xs = some ds
  | [], _, ds, hx => hx
  | x :: xs, h, ds, hx => by
    simp only [evs] at hx ⊢
    cases hd : ev σ x with
    | none => rw [hd] at hx; cases hx
    | some d =>
      rw [hd] at hx
      cases hr : evs σ xs with
      | none => rw [hr] at hx; cases hx
      | some ds' =>
        rw [hr] at hx
        rw [ev_mono (h x (by simp)) hd, evs_mono (fun y hy => h y (by simp [hy])) hr]
        exact hx
theorem cellsAt_mono {k : Nat} : ∀ {n o : Nat} (_ : ∀ i, i < n → Agree σ σ' (.c k (o + i))) {l : List D}, cellsAt σ k o n = some l → cellsAt σ' k o n = some l
  | 0, o, _, l, hl => hl
  | n + 1, o, h, l, hl => by
    simp only [cellsAt] at hl ⊢
    cases hg : get σ (.c k o) with
    | none => rw [hg] at hl; cases hl
    | some d =>
      rw [hg] at hl
      cases hr : cellsAt σ k (o + 1) n with
      | none => rw [hr] at hl; cases hl
      | some l' =>
        rw [hr] at hl
        have h0 : get σ' (.c k o) = some d := h 0 (by omega) d hg
        rw [h0, cellsAt_mono (fun i hi => by rw [show o + 1 + i = o + (i + 1) by omega]; exact h (i + 1) (by omega)) hr]
        exact hl
theorem mem_trd {o : Oper} {t : Nat} (h : (.tmp t : Operand) ∈ o.op.operands.toList) : (.t t : Key) ∈ trd o := by
  unfold trd
  exact List.mem_filterMap.2 ⟨.tmp t, h, rfl⟩
theorem ldD_mono {t : Nat} {x e : D} (h : ∀ k off ti, x = .p k off → tget T t = some ti → ∀ i, i < ti.sz → Agree σ σ' (.c k (off + i))) (h' : ∀ g len n i j ti, x = .pr g len n i j → tget T t = some ti → Agree σ σ' (.r g)) (hd : ldD T σ t x = some e) : ldD T σ' t x = some e := by
  unfold ldD at hd ⊢
  split at hd
  · cases hd
  · rename_i ti hti
    split at hd
    · rename_i k off
      obtain ⟨l, h1, h2⟩ := bind_some hd
      simp only [cellsAt_mono (h k off ti rfl hti) h1]
      exact h2
    · exact hd
    · rename_i g len n i j
      split at hd
      · rename_i E n' l hg
        rw [h' g len n i j ti rfl hti _ hg]
        exact hd
      · cases hd
    · cases hd
theorem pval_mono {o : Oper} (h : ∀ k ∈ trd o ++ mrd T σ o, Agree σ σ' k) {e : D} (hd : pval T σ o = some e) : pval T σ' o = some e := by
  have hx : ∀ x ∈ o.op.operands.toList, ∀ t, x = .tmp t → Agree σ σ' (.t t) := fun x hx t e => h _ (List.mem_append_left _ (mem_trd (e ▸ hx)))
  unfold pval at hd ⊢
  split at hd
  · rename_i x ho; exact ev_mono (hx x (by simp [ho, Op.operands])) hd
  · rename_i x ho; exact ev_mono (hx x (by simp [ho, Op.operands])) hd
  · rename_i c x y ho
    unfold pickD at hd ⊢
    split at hd
    · rename_i t hc
      rw [ev_mono (hx c (by simp [ho, Op.operands])) hc]
      cases t with
      | true => exact ev_mono (hx x (by simp [ho, Op.operands])) hd
      | false => exact ev_mono (hx y (by simp [ho, Op.operands])) hd
    · cases hd
  · rename_i t x ho
    obtain ⟨d, q1, q2⟩ := bind_some hd
    rw [ev_mono (hx x (by simp [ho, Op.operands])) q1]
    refine ldD_mono (fun k off ti e hti i hi => h _ (List.mem_append_right _ ?_)) (fun g len n i j ti e hti => h _ (List.mem_append_right _ (by simp only [mrd, ho, q1, e, hti]; simp))) q2
    simp only [mrd, ho, q1, e, hti]
    exact List.mem_map.2 ⟨i, List.mem_range.2 hi, rfl⟩
  · rename_i x ho
    obtain ⟨d, q1, q2⟩ := bind_some hd
    rw [ev_mono (hx x (by simp [ho, Op.operands])) q1]; exact q2
  · rename_i op t x y _ ho
    unfold bin2 at hd ⊢
    split at hd
    · rename_i ti d f h1 h2 h3
      rw [h1, ev_mono (hx x (by simp [ho, Op.operands])) h2, ev_mono (hx y (by simp [ho, Op.operands])) h3]; exact hd
    · cases hd
  · rename_i op t x ho
    obtain ⟨d, q1, q2⟩ := bind_some hd
    rw [ev_mono (hx x (by simp [ho, Op.operands])) q1]; exact q2
  · rename_i t t2 x ho
    obtain ⟨d, q1, q2⟩ := bind_some hd
    rw [ev_mono (hx x (by simp [ho, Op.operands])) q1]; exact q2
  · rename_i t x f ho
    obtain ⟨d, q1, q2⟩ := bind_some hd
    rw [ev_mono (hx x (by simp [ho, Op.operands])) q1]; exact q2
  · rename_i t x f ho
    obtain ⟨d, q1, q2⟩ := bind_some hd
    rw [ev_mono (hx x (by simp [ho, Op.operands])) q1]; exact q2
  · rename_i t x y ho
    obtain ⟨d, q1, q2⟩ := bind_some hd
    obtain ⟨f, q3, q4⟩ := bind_some q2
    rw [ev_mono (hx x (by simp [ho, Op.operands])) q1, ev_mono (hx y (by simp [ho, Op.operands])) q3]
    exact q4
  · rename_i x i ho
    obtain ⟨d, q1, q2⟩ := bind_some hd
    rw [ev_mono (hx x (by simp [ho, Op.operands])) q1]; exact q2
  · rename_i f first caps ho
    unfold makeFnD at hd ⊢
    split at hd
    · cases hc : evs σ caps.toList with
      | none => rw [hc] at hd; cases hd
      | some ds => rw [hc] at hd; rw [evs_mono (fun x hm => hx x (by simp only [ho, Op.operands, Array.toList_append, List.mem_append]; exact .inr hm)) hc]; exact hd
    · cases hd
  · rename_i t parts ho
    unfold buildD at hd ⊢
    split at hd
    · cases hd
    · rename_i ti hti
      split at hd
      · rename_i hk
        split at hd
        · cases hd
        · rename_i ds hds
          rw [if_pos hk, evs_mono (fun x hm => hx x (by simp only [ho, Op.operands]; exact hm)) hds]; exact hd
      · cases hd
  · rename_i t x lo hi mx ho
    have hI : ∀ {y : Option Operand} {i : Option Int}, (∀ z, y = some z → z ∈ o.op.operands.toList) → evI σ y = some i → evI σ' y = some i := fun {y i} hy he => by
      cases y with
      | none => exact he
      | some z =>
        simp only [evI] at he ⊢
        cases hz : ev σ z with
        | none => rw [hz] at he; cases he
        | some d => rw [hz] at he; rw [ev_mono (hx z (hy z rfl)) hz]; exact he
    unfold slD at hd ⊢
    split at hd
    · rename_i d i j k h1 h2 h3 h4
      rw [ev_mono (hx x (by simp [ho, Op.operands])) h1, hI (fun z e => by subst e; simp [ho, Op.operands]) h2, hI (fun z e => by subst e; simp [ho, Op.operands]) h3, hI (fun z e => by subst e; simp [ho, Op.operands]) h4]
      exact hd
    · cases hd
  · rename_i c ho
    split at hd
    · rename_i x t h1 h2 h3
      obtain ⟨d, q1, q2⟩ := bind_some hd
      rw [ev_mono (hx x (by
        have e2 : c.args = #[x] := by apply Array.ext'; simpa using h2
        simp [ho, Op.operands, Call.operands, h1, e2])) q1]; exact q2
    · rename_i x y t t' h1 h2 h3
      obtain ⟨d, q1, hd⟩ := bind_some hd
      obtain ⟨e', q2, hd⟩ := bind_some hd
      have e2 : c.args = #[x, y] := by apply Array.ext'; simpa using h2
      rw [ev_mono (hx x (by simp [ho, Op.operands, Call.operands, h1, e2])) q1, ev_mono (hx y (by simp [ho, Op.operands, Call.operands, h1, e2])) q2]; exact hd
    · rename_i x y t t' h1 h2 h3
      obtain ⟨d, q1, hd⟩ := bind_some hd
      obtain ⟨e', q2, hd⟩ := bind_some hd
      have e2 : c.args = #[x, y] := by apply Array.ext'; simpa using h2
      rw [ev_mono (hx x (by simp [ho, Op.operands, Call.operands, h1, e2])) q1, ev_mono (hx y (by simp [ho, Op.operands, Call.operands, h1, e2])) q2]; exact hd
    · cases hd
  · cases hd
theorem mop_mono {o : Oper} {nm : Nat} {V : D} {W : List (Key × D)} {R : List Key} (hd : mop T σ nm o = some (V, W, R)) (h : ∀ k ∈ trd o ++ R, Agree σ σ' k) : mop T σ' nm o = some (V, W, R) := by
  have hx : ∀ x ∈ o.op.operands.toList, ∀ t, x = .tmp t → Agree σ σ' (.t t) := fun x hx t e => h _ (List.mem_append_left _ (mem_trd (e ▸ hx)))
  unfold mop at hd ⊢
  split at hd
  · exact hd
  · rename_i t x ho
    obtain ⟨ti, hti, hd⟩ := bind_some hd
    obtain ⟨d, q1, q2⟩ := bind_some hd
    rw [hti, ev_mono (hx x (by simp [ho, Op.operands])) q1]; exact q2
  · rename_i t x y ho
    obtain ⟨ti, hti, hd⟩ := bind_some hd
    split at hd
    · rename_i k off q1
      obtain ⟨d, q2, hd⟩ := bind_some hd
      obtain ⟨l, hl, hd⟩ := bind_some hd
      cases hc : cellsAt σ k off ti.sz with
      | none => rw [hc] at hd; cases hd
      | some l0 =>
        rw [hc] at hd
        simp only [Option.map_some, Option.some.injEq, Prod.mk.injEq] at hd
        obtain ⟨e1, e2, e3⟩ := hd
        rw [hti, ev_mono (hx x (by simp [ho, Op.operands])) q1, ev_mono (hx y (by simp [ho, Op.operands])) q2]
        have hc' := cellsAt_mono (σ' := σ') (fun i hi => h (.c k (off + i)) (List.mem_append_right _ (by rw [← e3]; exact List.mem_map.2 ⟨i, List.mem_range.2 hi, rfl⟩))) hc
        simp only [Option.bind_some, hl, hc', Option.map_some, e1, e2, e3]
    · rename_i g len n i j q1
      split at hd
      · rename_i E n' l hg
        split at hd
        · rename_i hcc
          obtain ⟨d, q2, hd⟩ := bind_some hd
          cases hc : dcells ti d with
          | none => rw [hc] at hd; cases hd
          | some c =>
            rw [hc] at hd
            simp only [Option.map_some, Option.some.injEq, Prod.mk.injEq] at hd
            obtain ⟨e1, e2, e3⟩ := hd
            have := h (.r g) (List.mem_append_right _ (by rw [← e3]; simp)) _ hg
            rw [hti, ev_mono (hx x (by simp [ho, Op.operands])) q1, ev_mono (hx y (by simp [ho, Op.operands])) q2]
            simp only [Option.bind_some, this, if_pos hcc, hc, Option.map_some, e1, e2, e3]
        · cases hd
      · cases hd
    · cases hd
  · rename_i t len parts ho
    unfold bslD at hd ⊢
    split at hd
    · cases hd
    · split at hd
      · cases hd
      · split at hd
        · cases hd
        · split at hd
          · rename_i hc
            split at hd
            · cases hd
            · rename_i ds hds
              rw [if_pos hc, evs_mono (fun x hm => hx x (by simp only [ho, Op.operands]; exact hm)) hds]; exact hd
          · cases hd
  · rename_i t l c ho
    unfold mkslD at hd ⊢
    split at hd
    · cases hd
    · split at hd
      · cases hd
      · split at hd
        · cases hd
        · split at hd
          · rename_i n hl hc
            rw [ev_mono (hx l (by simp [ho, Op.operands])) hl, ev_mono (hx c (by simp [ho, Op.operands])) hc]; exact hd
          · cases hd
  · rename_i t x y ok ho
    unfold lkD at hd ⊢
    split at hd
    · rename_i ti k n hti q1 q2
      rw [hti, ev_mono (hx x (by simp [ho, Op.operands])) q1, ev_mono (hx y (by simp [ho, Op.operands])) q2]
      split at hd
      · cases hd
      · rename_i e he
        simp only [he]
        split at hd
        · rename_i te l hte hl
          simp only [Option.some.injEq, Prod.mk.injEq] at hd
          obtain ⟨a1, a2, a3⟩ := hd
          have := h (.o k) (List.mem_append_right _ (by rw [← a3]; simp)) _ hl
          simp only [hte, this, a1, a2, a3]
        · cases hd
    · cases hd
  · rename_i t x y z ho
    unfold updD at hd ⊢
    split at hd
    · rename_i ti k n d hti q1 q2 q3
      rw [hti, ev_mono (hx x (by simp [ho, Op.operands])) q1, ev_mono (hx y (by simp [ho, Op.operands])) q2, ev_mono (hx z (by simp [ho, Op.operands])) q3]
      split at hd
      · cases hd
      · rename_i e he
        simp only [he]
        split at hd
        · rename_i l hl
          simp only [Option.some.injEq, Prod.mk.injEq] at hd
          obtain ⟨a1, a2, a3⟩ := hd
          have := h (.o k) (List.mem_append_right _ (by rw [← a3]; simp)) _ hl
          simp only [this, a1, a2, a3]
        · cases hd
    · cases hd
  · rename_i t x y z ho
    unfold updD at hd ⊢
    split at hd
    · rename_i ti k n d hti q1 q2 q3
      rw [hti, ev_mono (hx x (by simp [ho, Op.operands])) q1, ev_mono (hx y (by simp [ho, Op.operands])) q2, ev_mono (hx z (by simp [ho, Op.operands])) q3]
      split at hd
      · cases hd
      · rename_i e he
        simp only [he]
        split at hd
        · rename_i l hl
          simp only [Option.some.injEq, Prod.mk.injEq] at hd
          obtain ⟨a1, a2, a3⟩ := hd
          have := h (.o k) (List.mem_append_right _ (by rw [← a3]; simp)) _ hl
          simp only [this, a1, a2, a3]
        · cases hd
    · cases hd
  · exact hd
  · rename_i c ho
    split at hd
    · rename_i x y t t' h1 h2 h3
      split at hd
      · rename_i ht
        obtain ⟨d, q1, hd⟩ := bind_some hd
        obtain ⟨e, q2, hd⟩ := bind_some hd
        have e2 : c.args = #[x, y] := by apply Array.ext'; simpa using h2
        rw [if_pos ht, ev_mono (hx x (by simp [ho, Op.operands, Call.operands, h1, e2])) q1, ev_mono (hx y (by simp [ho, Op.operands, Call.operands, h1, e2])) q2]
        simp only [Option.bind_some]
        unfold appD at hd ⊢
        split at hd
        · cases hd
        · split at hd
          · cases hd
          · split at hd
            · cases hd
            · split at hd
              · cases hd
              · rename_i l2 hl2
                split at hd
                · rename_i hsz
                  rw [if_pos hsz]
                  split at hd
                  · exact hd
                  · rename_i n l g _
                    split at hd
                    · rename_i E' n' len hg
                      split at hd
                      · rename_i hcc
                        simp only [Option.some.injEq, Prod.mk.injEq] at hd
                        obtain ⟨a1, a2, a3⟩ := hd
                        have := h (.r g) (List.mem_append_right _ (by rw [← a3]; simp)) _ hg
                        simp only [this, if_pos hcc, a1, a2, a3]
                      · cases hd
                    · cases hd
                  · rename_i g len _
                    split at hd
                    · rename_i E' n' l hg
                      split at hd
                      · rename_i hcc
                        simp only [Option.some.injEq, Prod.mk.injEq] at hd
                        obtain ⟨a1, a2, a3⟩ := hd
                        have := h (.r g) (List.mem_append_right _ (by rw [← a3]; simp)) _ hg
                        simp only [this, if_pos hcc, a1, a2, a3]
                      · cases hd
                    · rename_i E' n' hg
                      split at hd
                      · rename_i hcc
                        simp only [Option.some.injEq, Prod.mk.injEq] at hd
                        obtain ⟨a1, a2, a3⟩ := hd
                        have := h (.r g) (List.mem_append_right _ (by rw [← a3]; simp)) _ hg
                        simp only [this, if_pos hcc, a1, a2, a3]
                      · cases hd
                    · cases hd
                  · exact hd
                  · cases hd
                · cases hd
      · cases hd
    · rename_i x t h1 h2 h3
      obtain ⟨d, q1, hd⟩ := bind_some hd
      have e2 : c.args = #[x] := by apply Array.ext'; simpa using h2
      rw [ev_mono (hx x (by simp [ho, Op.operands, Call.operands, h1, e2])) q1]
      simp only [Option.bind_some]
      unfold clrD at hd ⊢
      split at hd
      · rename_i ti g len n lo hti
        split at hd
        · rename_i E hel
          split at hd
          · rename_i te E' n' l hte hg
            split at hd
            · rename_i hcc
              simp only [Option.some.injEq, Prod.mk.injEq] at hd
              obtain ⟨a1, a2, a3⟩ := hd
              have hg' := h (.r g) (List.mem_append_right _ (by rw [← a3]; simp)) _ hg
              simp only [hel, hte, hg', if_pos hcc, a1, a2, a3]
            · cases hd
          · cases hd
        · cases hd
      · cases hd
    · cases hd
  · cases hd
end
end Go.Proofs.Ytcblpjheoclkeaa

namespace Go.Proofs.Ytcblpjheoclkeaa
open Go.RowKit

def entersB (P : Program) (f : FuncId) : Bool := match P.funcs[f]? with
  | none => false
  | some fn => !(fn.name == "runtime.NumGoroutine") && !fn.body.isNone
def Holds (cx : Cx) (m : Mp) (Im : Nat → Nat → Prop) (w : World) (R : List (Key × D)) : Prop := ∀ p ∈ R, match p with
  | (.c k off, d) => ∃ b v, m.blk k = some b ∧ w.cell? ⟨b, off, none⟩ = some v ∧ Rel m Im w v d
  | (.j, d) => ∃ X J, d = .j X J ∧ XOk cx m Im w X J
  | (.o k, d) => ∃ b, m.obj k = some b ∧ ObOk m Im w b d
  | (.r g, d) => ∃ Rw, m.row g = some Rw ∧ RoOk m Im w Rw d
  | _ => False
def Tch (m : Mp) (R : List (Key × D)) (b : Nat) : Prop := (∃ k off d, (Key.c k off, d) ∈ R ∧ m.blk k = some b) ∨ (∃ X J, (Key.j, D.j X J) ∈ R ∧ X b) ∨ ∃ k d, (Key.o k, d) ∈ R ∧ m.obj k = some b
def CallC (P : Program) (f : FuncId) (args : List D) (R W : List (Key × D)) (V : D) : Prop :=
  entersB P f = true ∧ ∀ cx Fr m Im w vs, MemOk cx Fr m Im w → RelL m Im w vs args → Holds cx m Im w R →
    Calls P f vs.toArray w fun e w' => ∃ v Im', e = .returned v ∧ Off (Tch m R) w w' ∧ (∀ b o, Im b o → Im' b o) ∧ (∀ b o, Im' b o → Im b o ∨ w.heap.size ≤ b) ∧ (∀ b o, Im' b o → ∃ v, w'.cell? ⟨b, o, none⟩ = some v) ∧
      (∀ k b o, m.blk k = some b → w'.frozen? ⟨b, o, none⟩ = false) ∧ Rel m Im' w' v V ∧ Holds cx m Im' w' W
abbrev PureC (P : Program) (f : FuncId) (args : List D) (V : D) : Prop := CallC P f args [] [] V

def isJ : Key → Bool
  | .j => true
  | _ => false
def touches (R : List (Key × D)) : Key → Bool
  | .c k _ => R.any fun p => match p.1 with | .c k' _ => k' == k | _ => false
  | .j => R.any fun p => isJ p.1
  | .o k => R.any fun p => match p.1 with | .o k' => k' == k | _ => false
  | _ => false
def dropT (R : List (Key × D)) (σ : List (Key × D)) : List (Key × D) := σ.filter fun p => !touches R p.1
def CallN (P : Program) (f : FuncId) (args : List D) (R : List (Key × D)) (nm : Nat) (W : List (Key × D)) (V : D) : Prop :=
  entersB P f = true ∧ ∀ cx (Fr : Nat → Prop) m Im w a σ vs, Fr nm → St cx Fr m Im w a σ → RelL m Im w vs args → (∀ p ∈ R, get σ p.1 = some p.2) →
    Calls P f vs.toArray w fun e w' => ∃ v m' Im', e = .returned v ∧ St cx (minus Fr nm) m' Im' w' a (puts (dropT R σ) W) ∧ Rel m' Im' w' v V
abbrev CallX (P : Program) (f : FuncId) (args : List D) (R : List (Key × D)) (nm : Nat) (W : List (Key × D)) (V : D) : Prop := CallC P f args R W V ∨ CallN P f args R nm W V
theorem get_filter (f : Key → Bool) : ∀ (σ : List (Key × D)) (k : Key), get (σ.filter fun p => f p.1) k = if f k then get σ k else none
  | [], k => by simp [get]
  | (k', d) :: σ, k => by
    rw [List.filter_cons]
    by_cases hf : f k' = true
    · simp only [hf, if_true, get, get_filter f σ k]
      by_cases he : Key.eq k' k = true
      · have := Key.eq_iff.1 he; subst this
        rw [if_pos he, if_pos he, if_pos hf]
      · rw [if_neg he, if_neg he]
    · have hf' : f k' = false := by simpa using hf
      simp only [hf', get]
      rw [if_neg (by simp), get_filter f σ k]
      by_cases he : Key.eq k' k = true
      · have := Key.eq_iff.1 he; subst this
        rw [hf', if_neg (by simp), if_neg (by simp)]
      · rw [if_neg he]

section
variable {P : Program} {T : List (Nat × TI)} {cx : Cx} {Fr Fr' : Nat → Prop} {m m' : Mp} {Im Im' : Nat → Nat → Prop} {w w' : World} {a : Act} {σ σ' : List (Key × D)}
theorem St.holds (h : St cx Fr m Im w a σ) {R : List (Key × D)} (hR : ∀ p ∈ R, get σ p.1 = some p.2) (hk : ∀ p ∈ R, match p.1 with | .c _ _ => True | .j => True | .o _ => True | .r _ => True | _ => False) : Holds cx m Im w R := fun p hp => by
  have h1 := hR p hp
  have h2 := hk p hp
  obtain ⟨k, d⟩ := p
  cases k with
  | c k off => exact h.ce k off d h1
  | j => exact h.jk d h1
  | o k => exact h.ok k d h1
  | t x => exact h2.elim
  | r g => exact h.ro g d h1
theorem St.putj (h : St cx Fr m Im w a σ) {X : Nat → Prop} {J : World → Prop} (hX : XOk cx m Im w X J) : St cx Fr m Im w a (put1 .j (.j X J) σ) where
  mem := h.mem
  df := h.df
  nt := h.nt
  tm x d' hx := by rw [get_put1, if_neg (by simp [Key.eq])] at hx; exact h.tm x d' hx
  ce k off d' hx := by rw [get_put1, if_neg (by simp [Key.eq])] at hx; exact h.ce k off d' hx
  ro g d' hx := by rw [get_put1, if_neg (by simp [Key.eq])] at hx; exact h.ro g d' hx
  jk d' hx := by rw [get_put1, if_pos (Key.eq_refl _)] at hx; cases hx; exact ⟨X, J, rfl, hX⟩
  ok k d' hx := by rw [get_put1, if_neg (by simp [Key.eq])] at hx; exact h.ok k d' hx
theorem St.puto (h : St cx Fr m Im w a σ) {k b : Nat} {d : D} (hb : m.obj k = some b) (hd : ObOk m Im w b d) : St cx Fr m Im w a (put1 (.o k) d σ) where
  mem := h.mem
  df := h.df
  nt := h.nt
  tm x d' hx := by rw [get_put1, if_neg (by simp [Key.eq])] at hx; exact h.tm x d' hx
  ce k off d' hx := by rw [get_put1, if_neg (by simp [Key.eq])] at hx; exact h.ce k off d' hx
  ro g d' hx := by rw [get_put1, if_neg (by simp [Key.eq])] at hx; exact h.ro g d' hx
  jk d' hx := by rw [get_put1, if_neg (by simp [Key.eq])] at hx; exact h.jk d' hx
  ok k' d' hx := by
    rw [get_put1] at hx
    by_cases he : Key.eq (.o k) (.o k') = true
    · rw [if_pos he] at hx
      cases hx
      have := Key.eq_iff.1 he
      cases this
      exact ⟨b, hb, hd⟩
    · rw [if_neg he] at hx; exact h.ok k' d' hx
theorem St.putHolds : ∀ {W : List (Key × D)} {σ : List (Key × D)}, St cx Fr m Im w a σ → Holds cx m Im w W → St cx Fr m Im w a (puts σ W)
  | [], σ, h, _ => h
  | (k, d) :: W, σ, h, hW => by
    rw [puts]
    have h1 := hW (k, d) (by simp)
    refine St.putHolds ?_ fun p hp => hW p (by simp [hp])
    cases k with
    | c k off =>
      obtain ⟨b, v, q1, q2, q3⟩ := h1
      exact h.putc q1 q2 q3
    | j =>
      obtain ⟨X, J, rfl, q⟩ := h1
      exact h.putj q
    | o k =>
      obtain ⟨b, q1, q2⟩ := h1
      exact h.puto q1 q2
    | t x => exact h1.elim
    | r g =>
      obtain ⟨Rw, q1, q2⟩ := h1
      exact h.putro q1 q2

theorem St.called (h : St cx Fr m Im w a σ) {R W : List (Key × D)} (hR : Holds cx m Im w R) (ho : Off (Tch m R) w w') (hi : ∀ b o, Im b o → Im' b o) (hib : ∀ b o, Im' b o → Im b o ∨ w.heap.size ≤ b) (hex : ∀ b o, Im' b o → ∃ v, w'.cell? ⟨b, o, none⟩ = some v)
    (hfz : ∀ k b o, m.blk k = some b → w'.frozen? ⟨b, o, none⟩ = false) (hW : Holds cx m Im' w' W) : St cx Fr m Im' w' a (puts (dropT R σ) W) ∧ KeepI Im w w' := by
  have hxown : ∀ X J, (Key.j, D.j X J) ∈ R → XOk cx m Im w X J := fun X J hm => by
    obtain ⟨X', J', e, hX⟩ := hR _ hm
    cases e; exact hX
  have hTown : ∀ b, Tch m R b → cx.C b ∨ cx.w0.heap.size ≤ b := fun b hb => by
    rcases hb with ⟨k, off, d, _, hb⟩ | ⟨X, J, hm, hb⟩ | ⟨k, d, _, hb⟩
    · exact h.mem.own k b hb
    · exact (hxown X J hm).own b hb
    · exact h.mem.oown k b hb
  have hTim : ∀ b o, Tch m R b → ¬ Im b o := fun b o hb => by
    rcases hb with ⟨k, off, d, _, hb⟩ | ⟨X, J, hm, hb⟩ | ⟨k, d, _, hb⟩
    · exact h.mem.nim k b o hb
    · exact (hxown X J hm).nim b o hb
    · exact h.mem.onim k b o hb
  have hTrow : ∀ b g Rw, Tch m R b → m.row g = some Rw → Rw.hv.ownBlock ≠ some b := fun b g Rw hb hg e => by
    rcases hb with ⟨k, off, d, _, hb⟩ | ⟨X, J, hm, hb⟩ | ⟨k, d, _, hb⟩
    · exact h.mem.rblk g Rw b k hg e hb
    · exact (hxown X J hm).row b g Rw hb hg e
    · exact h.mem.orow k g Rw b hb hg e
  have hki : KeepI Im w w' := fun b o v hi hv => (World.cell?_of_block (a := ⟨b, o, none⟩) (ho.block b (ltOfCell hv) fun ht => hTim b o ht hi)).trans hv
  refine ⟨?_, hki⟩
  refine St.putHolds ?_ hW
  have hmono : ∀ {x d}, Rel m Im w x d → Rel m Im' w' x d := fun hx => hx.mono (Mp.le.refl m) hki hi
  have hg : ∀ k, get (dropT R σ) k = if touches R k then none else get σ k := fun k => by
    unfold dropT
    rw [get_filter (fun k => !touches R k)]
    cases touches R k <;> rfl
  refine ⟨⟨?off, hex, ?imb, fun b o hh => hi b o (h.mem.im0 b o hh), h.mem.own, fun k b hk => Nat.lt_of_lt_of_le (h.mem.lt k b hk) ho.size, hfz, ?nim, h.mem.inj, ?row, ?rIm, h.mem.rblk, h.mem.rinj, h.mem.fr, h.mem.m0, h.mem.m0o, h.mem.oown, fun k b hk => Nat.lt_of_lt_of_le (h.mem.olt k b hk) ho.size, ?onim, h.mem.oinj, h.mem.oblk, h.mem.orow, h.mem.dis, h.mem.k0.trans (hki.weaken h.mem.im0), h.mem.rown, h.mem.m0r⟩, h.df, h.nt, fun x d hx => ?tm, fun k off d hx => ?ce, fun g d hx => ?ro, fun d hx => ?jk, fun k d hx => ?okk⟩
  case off =>
    refine ⟨ho.os.trans h.mem.off.os, ho.tape.trans h.mem.off.tape, ho.output.trans h.mem.off.output, Nat.le_trans h.mem.off.size ho.size, fun b hb hC => ?_⟩
    refine (ho.block b (Nat.lt_of_lt_of_le hb h.mem.off.size) fun ht => ?_).trans (h.mem.off.block b hb hC)
    rcases hTown b ht with hc | hc
    · exact hC hc
    · omega
  case imb =>
    intro b o hh
    rcases hib b o hh with h1 | h1
    · exact h.mem.imb b o h1
    · exact .inr (.inl (Nat.le_trans h.mem.off.size h1))
  case nim =>
    intro k b o hk hh
    rcases hib b o hh with h1 | h1
    · exact h.mem.nim k b o hk h1
    · have := h.mem.lt k b hk; omega
  case onim =>
    intro k b o hk hh
    rcases hib b o hh with h1 | h1
    · exact h.mem.onim k b o hk h1
    · have := h.mem.olt k b hk; omega
  case row =>
    intro g Rw hg
    obtain ⟨xs, hx⟩ := h.mem.row g Rw hg
    refine ⟨xs, hx.1, ?_⟩
    rcases hx.2 with h0 | ⟨g', cap, cur, e, h1, h2, h3⟩
    · exact .inl h0
    · refine .inr ⟨g', cap, cur, e, h1, ?_, h3⟩
      rw [ho.block g' (lt_of_block h2) fun ht => hTrow g' g Rw ht hg (by rw [e]; rfl)]; exact h2
  case rIm =>
    intro g Rw b o hg hob hh
    rcases hib b o hh with h1 | h1
    · exact h.mem.rIm g Rw b o hg hob h1
    · obtain ⟨xs, hx⟩ := h.mem.row g Rw hg
      have := (row_lt hx hob).2; omega
  case tm => rw [hg] at hx; simp only [touches] at hx; exact hmono (h.tm x d hx)
  case ce =>
    rw [hg] at hx
    by_cases ht : touches R (.c k off) = true
    · rw [if_pos ht] at hx; cases hx
    · rw [if_neg ht] at hx
      obtain ⟨b, v, q1, q2, q3⟩ := h.ce k off d hx
      refine ⟨b, v, q1, ?_, hmono q3⟩
      refine (World.cell?_of_block (a := ⟨b, off, none⟩) (ho.block b (ltOfCell q2) fun hb => ?_)).trans q2
      rcases hb with ⟨k', off', d', hm, hb⟩ | ⟨X, J, hm, hb⟩ | ⟨k', d', hm, hb⟩
      · have := h.mem.inj k k' b q1 hb
        subst this
        exact ht (by simp only [touches, List.any_eq_true]; exact ⟨_, hm, by simp⟩)
      · exact (hxown X J hm).blk b k hb q1
      · exact h.mem.oblk k' k b hb q1
  case ro =>
    rw [hg] at hx; simp only [touches] at hx
    obtain ⟨Rw, q1, q2⟩ := h.ro g d hx
    exact ⟨Rw, q1, q2.mono (fun b hb => ho.block b (h.mem.rlt q1 hb) fun ht => hTrow b g Rw ht q1 hb) (Mp.le.refl m) hki hi fun b o hb hh => (hib b o hh).elim id fun h2 => absurd (h.mem.rlt q1 hb) (Nat.not_lt.2 h2)⟩
  case jk =>
    rw [hg] at hx
    by_cases ht : touches R .j = true
    · rw [if_pos ht] at hx; cases hx
    · rw [if_neg ht] at hx
      obtain ⟨X, J, e, hX⟩ := h.jk d hx
      have hsame : ∀ b, X b → w'.heap[b]? = w.heap[b]? := fun b hb => ho.block b (hX.lt b hb) fun hT => by
        rcases hT with ⟨k', off', d', hm, hb'⟩ | ⟨X', J', hm, hb'⟩ | ⟨k', d', hm, hb'⟩
        · exact hX.blk b k' hb hb'
        · exact ht (by simp only [touches, List.any_eq_true]; exact ⟨_, hm, rfl⟩)
        · exact hX.obj b k' hb hb'
      exact ⟨X, J, e, hX.stable _ ho.size hsame, fun w2 hs hx2 => hX.stable w2 (Nat.le_trans ho.size hs) fun b hb => (hx2 b hb).trans (hsame b hb), fun b hb => Nat.lt_of_lt_of_le (hX.lt b hb) ho.size, hX.own, fun b o hb hh => by
        rcases hib b o hh with h1 | h1
        · exact hX.nim b o hb h1
        · have := hX.lt b hb; omega, hX.blk, hX.row, hX.obj⟩
  case okk =>
    rw [hg] at hx
    by_cases ht : touches R (.o k) = true
    · rw [if_pos ht] at hx; cases hx
    · rw [if_neg ht] at hx
      obtain ⟨b, q1, q2⟩ := h.ok k d hx
      refine ⟨b, q1, q2.mono (ho.block b (h.mem.olt k b q1) fun hT => ?_) (Mp.le.refl m) hki hi⟩
      rcases hT with ⟨k', off', d', hm, hb'⟩ | ⟨X', J', hm, hb'⟩ | ⟨k', d', hm, hb'⟩
      · exact h.mem.oblk k k' b q1 hb'
      · exact (hxown X' J' hm).obj b k hb' q1
      · have := h.mem.oinj k k' b q1 hb'
        subst this
        exact ht (by simp only [touches, List.any_eq_true]; exact ⟨_, hm, by simp⟩)

def callD (σ : List (Key × D)) (o : Oper) : Option (FuncId × List D) := match o.op with
  | .call c => match c.callee with
    | .value x => match ev σ x with
      | some (.fn f caps) => (evs σ c.args.toList).map fun ars => (f, ars ++ caps)
      | _ => none
    | _ => none
  | _ => none
theorem callD_mono {o : Oper} (h : ∀ k ∈ trd o, Agree σ σ' k) {e : FuncId × List D} (hd : callD σ o = some e) : callD σ' o = some e := by
  have hx : ∀ x ∈ o.op.operands.toList, ∀ t, x = .tmp t → Agree σ σ' (.t t) := fun x hx t e => h _ (mem_trd (e ▸ hx))
  unfold callD at hd ⊢
  split at hd
  · rename_i c ho
    split at hd
    · rename_i x hc
      split at hd
      · rename_i f caps hf
        have hxm : x ∈ o.op.operands.toList := by simp [ho, Op.operands, Call.operands, hc]
        rw [ev_mono (hx x hxm) hf]
        cases he : evs σ c.args.toList with
        | none => rw [he] at hd; cases hd
        | some ars =>
          rw [he] at hd
          simp only [evs_mono (fun y hy => hx y (by simp only [ho, Op.operands, Call.operands, hc, Array.toList_append, List.mem_append]; exact .inr hy)) he]
          exact hd
      · cases hd
    · cases hd
  · cases hd
theorem call_exec {o : Oper} (h : St cx Fr m Im w a σ) {f : FuncId} {ars : List D} (hd : callD σ o = some (f, ars)) (hf : entersB P f = true) : ∃ vs : List Value, (execOp a.eval o).run P w = .ok (.enter f vs.toArray) w ∧ RelL m Im w vs ars := by
  unfold callD at hd
  split at hd
  · rename_i c ho
    split at hd
    · rename_i x hc
      split at hd
      · rename_i f' caps hx
        cases he : evs σ c.args.toList with
        | none => rw [he] at hd; cases hd
        | some ds =>
          rw [he] at hd
          cases hd
          obtain ⟨cs, ec, hcs⟩ := rel_fn.1 (h.ev hx)
          have hargs := h.evs he
          refine ⟨c.args.toList.map a.eval ++ cs, ?_, hargs.append hcs⟩
          unfold entersB at hf
          cases hfn : P.funcs[f]? with
          | none => rw [hfn] at hf; cases hf
          | some fn =>
            rw [hfn] at hf
            simp only [Bool.and_eq_true, Bool.not_eq_true'] at hf
            have hargs2 : (c.args.map a.eval ++ cs.toArray) = (c.args.toList.map a.eval ++ cs).toArray := by apply Array.ext'; simp
            have hn : ¬ fn.name = "runtime.NumGoroutine" := by simpa using hf.1
            obtain ⟨body, hb⟩ : ∃ body, fn.body = some body := by
              cases hb : fn.body with
              | none => rw [hb] at hf; cases hf.2
              | some body => exact ⟨body, rfl⟩
            simp only [execOp, ho, resolve, hc, ec, Deferred.ofValue, invoke, callFunc]
            simp [hfn, hn, hb, hargs2]
      · cases hd
    · cases hd
  · cases hd
end
end Go.Proofs.Ytcblpjheoclkeaa

namespace Go.Proofs.Ytcblpjheoclkeaa
open Go.RowKit

structure RStep where
  Rv : List (Key × D)
  R : List (Key × D)
  W : List (Key × D)
def RStep.wk (s : RStep) (k : Key) : Bool := touches s.R k || s.W.any fun p => Key.eq p.1 k
def RStep.ap (s : RStep) (σ : List (Key × D)) : List (Key × D) := puts (dropT s.R σ) s.W

theorem get_dropT (R σ : List (Key × D)) (k : Key) : get (dropT R σ) k = if touches R k then none else get σ k := by
  unfold dropT
  rw [get_filter (fun k => !touches R k)]
  cases touches R k <;> rfl
theorem dropT_nil (σ : List (Key × D)) : dropT [] σ = σ := by
  unfold dropT
  rw [List.filter_eq_self]
  intro p _
  cases p.1 <;> rfl
namespace RStep
variable {s : RStep} {σ σ' : List (Key × D)} {k : Key}
theorem notW (h : s.wk k = false) : touches s.R k = false ∧ ∀ p ∈ s.W, p.1 ≠ k := by
  simp only [wk, Bool.or_eq_false_iff, List.any_eq_false] at h
  exact ⟨h.1, fun p hp e => h.2 p hp (by rw [e]; exact Key.eq_refl _)⟩
theorem ap_out (h : s.wk k = false) : get (s.ap σ) k = get σ k := by
  obtain ⟨h1, h2⟩ := notW h
  rw [ap, get_puts_not _ _ _ h2, get_dropT, h1, if_neg (by simp)]
theorem ap_congr (h : get σ k = get σ' k) : get (s.ap σ) k = get (s.ap σ') k := by
  rw [ap, ap]
  exact get_puts_congr _ _ _ _ (by rw [get_dropT, get_dropT, h])
theorem ap_in (h : s.wk k = true) : get (s.ap σ) k = get (s.ap σ') k := by
  rw [ap, ap]
  by_cases hw : ∃ p ∈ s.W, p.1 = k
  · exact get_puts_in _ _ _ _ hw
  · have hn : ∀ p ∈ s.W, p.1 ≠ k := fun p hp e => hw ⟨p, hp, e⟩
    have ht : touches s.R k = true := by
      simp only [wk, Bool.or_eq_true, List.any_eq_true] at h
      rcases h with h | ⟨p, hp, he⟩
      · exact h
      · exact absurd (Key.eq_iff.1 he) (hn p hp)
    rw [get_puts_not _ _ _ hn, get_puts_not _ _ _ hn, get_dropT, get_dropT, ht, if_pos rfl, if_pos rfl]
end RStep

section perm
variable (S : Nat → RStep) (σ0 : List (Key × D))
def canL (L : Nat → Bool) : Nat → List (Key × D)
  | 0 => σ0
  | i + 1 => if L i then (S i).ap (canL L i) else canL L i
variable {S σ0}
theorem canL_congr {L L' : Nat → Bool} {k : Key} : ∀ {n : Nat}, (∀ j, j < n → (S j).wk k = true → L j = L' j) → get (canL S σ0 L n) k = get (canL S σ0 L' n) k
  | 0, _ => rfl
  | n + 1, h => by
    have ih := canL_congr (n := n) fun j hj hw => h j (by omega) hw
    simp only [canL]
    cases hw : (S n).wk k with
    | true =>
      rw [h n (by omega) hw]
      split
      · exact RStep.ap_congr ih
      · exact ih
    | false =>
      have h1 : ∀ σ, get ((S n).ap σ) k = get σ k := fun σ => RStep.ap_out hw
      split <;> split <;> simp only [h1, ih]
theorem canL_cut {L : Nat → Bool} {i : Nat} : ∀ {n : Nat}, i ≤ n → (∀ j, i ≤ j → j < n → L j = false) → canL S σ0 L n = canL S σ0 L i
  | 0, h, _ => by have : i = 0 := by omega
                  rw [this]
  | n + 1, h, hl => by
    by_cases hi : i = n + 1
    · rw [hi]
    · rw [canL, hl n (by omega) (by omega), if_neg (by simp), canL_cut (n := n) (by omega) fun j h1 h2 => hl j h1 (by omega)]
def all' : Nat → Bool := fun _ => true
theorem canL_lt {k : Key} {i n : Nat} (h : i ≤ n) : get (canL S σ0 (fun j => decide (j < i)) n) k = get (canL S σ0 all' i) k := by
  rw [canL_cut h fun j h1 _ => by simp; omega]
  exact canL_congr fun j hj _ => by simp [all', hj]

def Cf (s t : RStep) : Prop := (∀ p ∈ t.Rv, s.wk p.1 = false) ∧ (∀ p ∈ s.Rv, t.wk p.1 = false) ∧ ∀ k, s.wk k = true → t.wk k = false
variable {anc : Nat → Nat → Prop} {n : Nat} (hc : ∀ i j, i < j → j < n → anc j i ∨ Cf (S i) (S j))
include hc
theorem perm_read {L : Nat → Bool} (hcl : ∀ j i, j < n → L j = true → anc j i → L i = true) {i : Nat} (hi : i < n) (hL : L i = false) (hr : ∀ x, anc i x → L x = true) {p : Key × D} (hp : p ∈ (S i).Rv) : get (canL S σ0 L n) p.1 = get (canL S σ0 all' i) p.1 := by
  rw [← canL_lt (Nat.le_of_lt hi)]
  refine canL_congr fun j hj hw => ?_
  rcases Nat.lt_trichotomy j i with h | h | h
  · rcases hc j i h hi with h1 | h1
    · simp [hr j h1, h]
    · have := h1.1 p hp; rw [hw] at this; cases this
  · subst h; simp [hL]
  · have hn : L j = false := by
      cases hLj : L j with
      | false => rfl
      | true =>
        rcases hc i j h hj with h1 | h1
        · have := hcl j i hj hLj h1; rw [hL] at this; cases this
        · have := h1.2.1 p hp; rw [hw] at this; cases this
    simp [hn]; omega
theorem perm_step {L : Nat → Bool} (hcl : ∀ j i, j < n → L j = true → anc j i → L i = true) {i : Nat} (hi : i < n) (hL : L i = false) (k : Key) : get ((S i).ap (canL S σ0 L n)) k = get (canL S σ0 (fun j => L j || j == i) n) k := by
  cases hw : (S i).wk k with
  | false =>
    rw [RStep.ap_out hw]
    refine canL_congr fun j hj hwj => ?_
    have : j ≠ i := fun e => by subst e; rw [hw] at hwj; cases hwj
    simp [this]
  | true =>
    have h1 : get (canL S σ0 (fun j => L j || j == i) n) k = get (canL S σ0 (fun j => (L j || j == i) && decide (j < i + 1)) n) k := canL_congr fun j hj hwj => by
      by_cases h : j < i + 1
      · simp [h]
      · have hji : j ≠ i := by omega
        have hn : L j = false := by
          cases hLj : L j with
          | false => rfl
          | true =>
            rcases hc i j (by omega) hj with h1 | h1
            · have := hcl j i hj hLj h1; rw [hL] at this; cases this
            · have := h1.2.2 k hw; rw [hwj] at this; cases this
        simp [hn, hji]
    rw [h1, canL_cut (L := fun j => (L j || j == i) && decide (j < i + 1)) (i := i + 1) (by omega) fun j h1 _ => by simp; intro _; omega]
    simp only [canL]
    rw [if_pos (by simp)]
    exact RStep.ap_in hw
end perm
end Go.Proofs.Ytcblpjheoclkeaa

namespace Go.Proofs.Ytcblpjheoclkeaa
open Go.RowKit

def OpT (P : Program) (cx : Cx) (ops : Array Oper) (Q : Exit → Act → World → Prop) (o : Oper) (nm : Nat) (s : RStep) : Prop :=
  ∀ (Fr : Nat → Prop) m Im w a σ, Fr nm → St cx Fr m Im w a σ → (∀ p ∈ s.Rv, get σ p.1 = some p.2) → ∀ K : Act → World → Prop, (∀ m' Im' w' a', St cx (minus Fr nm) m' Im' w' a' (s.ap σ) → K a' w') →
    if Region.wanted o (yielded ops a.tmps) = true then o.wp P a w K Q else K (a.put o.dst undef) w

def Edg (ops : Array Oper) (j i : Nat) : Prop := ∃ o e, ops[j]? = some o ∧ e ∈ o.after ∧ Region.binds .any e = true ∧ e.on = i
inductive Anc (ops : Array Oper) : Nat → Nat → Prop where
  | one {j i : Nat} : Edg ops j i → Anc ops j i
  | more {j x i : Nat} : Edg ops j x → Anc ops x i → Anc ops j i
theorem Anc.closed {ops : Array Oper} {L : Nat → Bool} (h : ∀ j i, L j = true → Edg ops j i → L i = true) {j i : Nat} (ha : Anc ops j i) : L j = true → L i = true := by
  induction ha with
  | one he => exact fun hj => h _ _ hj he
  | more he _ ih => exact fun hj => ih (h _ _ hj he)

section
variable {P : Program} {cx : Cx} {ops : Array Oper} {Q : Exit → Act → World → Prop} {S : Nat → RStep} {σ0 : List (Key × D)} {nm : Nat} {Fr0 : Nat → Prop}
def lf (listed : Array Bool) (i : Nat) : Bool := listed.getD i true
theorem lf_set {listed : Array Bool} {i : Nat} (hi : i < listed.size) : lf (listed.setIfInBounds i true) = fun j => lf listed j || j == i := by
  funext j
  unfold lf
  by_cases h : j = i
  · subst h; simp [hi]
  · rw [Array.getD_eq_getD_getElem?, Array.getElem?_setIfInBounds_ne (Ne.symm h), ← Array.getD_eq_getD_getElem?]; simp [h]
theorem region_go (hop : ∀ i (h : i < ops.size), OpT P cx ops Q ops[i] (nm + i) (S i)) (hR : ∀ i, i < ops.size → ∀ p ∈ (S i).Rv, get (canL S σ0 all' i) p.1 = some p.2)
    (hc : ∀ i j, i < j → j < ops.size → Anc ops j i ∨ Cf (S i) (S j)) (hidx : ∀ j i, Edg ops j i → i < j) (hFr : ∀ k, nm ≤ k → Fr0 k)
    (hfin : ∀ m Im w a, St cx (fun k => Fr0 k ∧ nm + ops.size ≤ k) m Im w a (canL S σ0 all' ops.size) → Q .normal a w) :
    ∀ (fuel : Nat) (listed : Array Bool) (m : Mp) (Im : Nat → Nat → Prop) (w : World) (a : Act), listed.size = ops.size → (∀ j i, j < ops.size → lf listed j = true → Edg ops j i → lf listed i = true) →
      (∃ U : List Nat, U.length ≤ fuel ∧ ∀ i, i < ops.size → lf listed i = false → i ∈ U) → St cx (fun k => Fr0 k ∧ ∀ i, i < ops.size → k = nm + i → lf listed i = false) m Im w a (canL S σ0 (lf listed) ops.size) →
      wpAny P .any ops Q fuel listed a w := by
  have hdone : ∀ (listed : Array Bool) (m : Mp) (Im : Nat → Nat → Prop) (w : World) (a : Act), (∀ i, i < ops.size → lf listed i = true) → St cx (fun k => Fr0 k ∧ ∀ i, i < ops.size → k = nm + i → lf listed i = false) m Im w a (canL S σ0 (lf listed) ops.size) → Q .normal a w := fun listed m Im w a hall h => by
    refine hfin m Im w a ((h.sub fun k d hk => ?_).less fun k hk => ⟨hk.1, fun i hi e => by omega⟩)
    rw [← hk]
    exact canL_congr fun j hj _ => by rw [hall j hj]; rfl
  have hnone : ∀ (listed : Array Bool), listed.size = ops.size → Region.ready .any ops listed = [] → ∀ i, i < ops.size → lf listed i = true := fun listed hs hr i => by
    induction i using Nat.strongRecOn with
    | _ i ih =>
      intro hi
      cases hL : lf listed i with
      | true => rfl
      | false =>
        exfalso
        have : i ∈ Region.ready .any ops listed := mem_ready.2 ⟨hL, ops[i], by simp [hi], fun e he hb => by
          have hlt := hidx i e.on ⟨ops[i], e, by simp [hi], he, hb, rfl⟩
          have := ih e.on hlt (by omega)
          have hlt2 : e.on < listed.size := by omega
          unfold lf at this
          simpa [hlt2] using this⟩
        rw [hr] at this
        cases this
  intro fuel
  induction fuel with
  | zero =>
    rintro listed m Im w a hs hcl ⟨U, hU, hUm⟩ h
    have hall : ∀ i, i < ops.size → lf listed i = true := fun i hi => by
      cases hL : lf listed i with
      | true => rfl
      | false =>
        have := hUm i hi hL
        have hU0 : U = [] := List.eq_nil_of_length_eq_zero (by omega)
        rw [hU0] at this; cases this
    refine ⟨?_, hdone listed m Im w a hall h⟩
    refine List.eq_nil_iff_forall_not_mem.2 fun i hi => ?_
    obtain ⟨h1, o, h2, _⟩ := mem_ready.1 hi
    have := hall i (Array.getElem?_eq_some_iff.1 h2).1
    unfold lf at this
    rw [h1] at this; cases this
  | succ fuel ih =>
    rintro listed m Im w a hs hcl ⟨U, hU, hUm⟩ h
    refine ⟨fun hr => hdone listed m Im w a (hnone listed hs hr) h, fun i hi => ?_⟩
    obtain ⟨h1, o, h2, h3⟩ := mem_ready.1 hi
    obtain ⟨hlt, ho⟩ := Array.getElem?_eq_some_iff.1 h2
    have hL : lf listed i = false := h1
    have hdir : ∀ x, Edg ops i x → lf listed x = true := fun x ⟨o', e, q1, q2, q3, q4⟩ => by
      rw [h2] at q1; cases q1
      have := h3 e q2 q3
      have hx : x < i := hidx i x ⟨o, e, h2, q2, q3, q4⟩
      subst q4
      have hlt2 : e.on < listed.size := by omega
      unfold lf
      simpa [hlt2] using this
    have hcl' : ∀ j i, lf listed j = true → Edg ops j i → lf listed i = true := fun j i hj he => by
      have he' := he
      obtain ⟨o', e, q1, _⟩ := he'
      exact hcl j i (Array.getElem?_eq_some_iff.1 q1).1 hj he
    have hanc : ∀ x, Anc ops i x → lf listed x = true := fun x hx => by
      cases hx with
      | one he => exact hdir _ he
      | more he ha => exact ha.closed hcl' (hdir _ he)
    refine wpOp_step h2 fun K hK => ?_
    have hOp := hop i hlt
    rw [ho] at hOp
    have hxi : ∀ x, x < ops.size → nm + i = nm + x → lf listed x = false := fun x _ e => by
      have : x = i := by omega
      rw [this]; exact hL
    refine hOp _ m Im w a _ ⟨hFr _ (by omega), hxi⟩ h (fun p hp => ?_) K fun m' Im' w' a' h' => hK _ _ ?_
    · rw [perm_read hc (L := lf listed) (fun j x hj hLj hx => hx.closed hcl' hLj) hlt hL hanc hp]
      exact hR i hlt p hp
    · have hset := lf_set (listed := listed) (i := i) (by omega)
      refine ih (listed.setIfInBounds i true) m' Im' w' a' (by simpa using hs) ?_ ⟨U.erase i, ?_, ?_⟩ ?_
      · intro j x hj hLj he
        rw [hset] at hLj ⊢
        simp only [Bool.or_eq_true, beq_iff_eq] at hLj ⊢
        rcases hLj with hLj | rfl
        · exact .inl (hcl j x hj hLj he)
        · exact .inl (hdir x he)
      · rw [List.length_erase_of_mem (hUm i hlt hL)]
        have := List.length_pos_of_mem (hUm i hlt hL)
        omega
      · intro j hj hLj
        rw [hset] at hLj
        simp only [Bool.or_eq_false_iff, beq_eq_false_iff_ne] at hLj
        exact (List.mem_erase_of_ne hLj.2).2 (hUm j hj hLj.1)
      · rw [hset]
        refine (h'.sub fun k d hk => ?_).less fun k hk => ⟨⟨hk.1, fun x hx e => ?_⟩, fun e => ?_⟩
        · rw [perm_step hc (L := lf listed) (fun j x hj hLj hx => hx.closed hcl' hLj) hlt hL k]; exact hk
        · have := hk.2 x hx e
          simp only [Bool.or_eq_false_iff] at this
          exact this.1
        · have := hk.2 i hlt e
          simp at this
theorem region_any (hop : ∀ i (h : i < ops.size), OpT P cx ops Q ops[i] (nm + i) (S i)) (hR : ∀ i, i < ops.size → ∀ p ∈ (S i).Rv, get (canL S σ0 all' i) p.1 = some p.2)
    (hc : ∀ i j, i < j → j < ops.size → Anc ops j i ∨ Cf (S i) (S j)) (hidx : ∀ j i, Edg ops j i → i < j) (hFr : ∀ k, nm ≤ k → Fr0 k)
    (hfin : ∀ m Im w a, St cx (fun k => Fr0 k ∧ nm + ops.size ≤ k) m Im w a (canL S σ0 all' ops.size) → Q .normal a w) {m : Mp} {Im : Nat → Nat → Prop} {w : World} {a : Act} (h : St cx Fr0 m Im w a σ0) :
    wpAny P .any ops Q ops.size (Array.replicate ops.size false) a w := by
  have hlf : ∀ i, i < ops.size → lf (Array.replicate ops.size false) i = false := fun i hi => by unfold lf; simp [hi]
  refine region_go hop hR hc hidx hFr hfin ops.size _ m Im w a (by simp) (fun j i hj hL => ?_) ⟨List.range ops.size, by simp, fun i hi _ => List.mem_range.2 hi⟩ ?_
  · rw [hlf j hj] at hL; cases hL
  · rw [canL_cut (i := 0) (Nat.zero_le _) fun j _ hj => hlf j hj]
    exact h.less fun k hk => hk.1
theorem region_seq (hop : ∀ i (h : i < ops.size), OpT P cx ops Q ops[i] (nm + i) (S i)) (hR : ∀ i, i < ops.size → ∀ p ∈ (S i).Rv, get (canL S σ0 all' i) p.1 = some p.2) (hFr : ∀ k, nm ≤ k → Fr0 k)
    (hfin : ∀ m Im w a, St cx (fun k => Fr0 k ∧ nm + ops.size ≤ k) m Im w a (canL S σ0 all' ops.size) → Q .normal a w) :
    ∀ (k i : Nat) {m : Mp} {Im : Nat → Nat → Prop} {w : World} {a : Act}, i + k = ops.size → St cx (fun x => Fr0 x ∧ ∀ y, y < i → x ≠ nm + y) m Im w a (canL S σ0 all' i) → wpOps P ops Q (List.range' i k) a w
  | 0, i, m, Im, w, a, hk, h => by
    have : i = ops.size := by omega
    subst this
    exact hfin m Im w a (h.less fun x hx => ⟨hx.1, fun y hy => by omega⟩)
  | k + 1, i, m, Im, w, a, hk, h => by
    have hlt : i < ops.size := by omega
    rw [List.range'_succ, wpOps_cons]
    refine wpOp_step (o := ops[i]) (by simp [hlt]) fun K hK => ?_
    refine hop i hlt _ m Im w a _ ⟨hFr _ (by omega), fun y hy => by omega⟩ h (hR i hlt) K fun m' Im' w' a' h' => hK _ _ ?_
    refine region_seq hop hR hFr hfin k (i + 1) (m := m') (Im := Im') (by omega) ?_
    simp only [canL, all', if_true]
    exact h'.less fun x hx => ⟨⟨hx.1, fun y hy => hx.2 y (by omega)⟩, hx.2 i (by omega)⟩
end
end Go.Proofs.Ytcblpjheoclkeaa

namespace Go.Proofs.Ytcblpjheoclkeaa
open Go.RowKit

def gd (ops : Array Oper) (σ : List (Key × D)) (g : Option (Nat × Bool)) : Option Bool := match g with
  | none => some true
  | some (j, want) => match (ops[j]?).bind (·.dst) with
    | none => none
    | some d => match get σ (.t d) with
      | some (.v (.bool b)) => some (b == want)
      | some (.v (.tuple _)) => some false
      | _ => none
def gr (ops : Array Oper) (g : Option (Nat × Bool)) : List Key := match g with
  | none => []
  | some (j, _) => match (ops[j]?).bind (·.dst) with
    | none => []
    | some d => [.t d]
def dW (d : Option Tmp) (V : D) : List (Key × D) := match d with
  | none => []
  | some d => [(.t d, V)]
def dk (d : Option Tmp) : List Key := match d with
  | none => []
  | some d => [.t d]
def ckey : Key → Bool
  | .c _ _ => true
  | .j => true
  | .o _ => true
  | _ => false
def ckeyR : Key → Bool
  | .c _ _ => true
  | .j => true
  | .o _ => true
  | .r _ => true
  | _ => false
abbrev Ent := List Key × List (Key × D) × List Key

mutual
def DRg (P : Program) (T : List (Nat × TI)) (ops : Array Oper) (nm : Nat) : List Oper → Nat → List (Key × D) → List Ent → (List (Key × D) → List Ent → Prop) → Prop
  | [], _, σ, lg, K => K σ lg
  | o :: r, i, σ, lg, K =>
    match gd ops σ o.guard with
    | none => False
    | some false => DRg P T ops nm r (i + 1) (puts σ (dW o.dst (.v undef))) ((gr ops o.guard, [], dk o.dst) :: lg) K
    | some true =>
      match pval T σ o with
      | some V => ∃ V', VLe V V' ∧ DRg P T ops nm r (i + 1) (puts σ (dW o.dst V')) ((gr ops o.guard ++ trd o ++ mrd T σ o, [], dk o.dst) :: lg) K
      | none =>
        match mop T σ (nm + i) o with
        | some (V, W, R) => ∃ V', VLe V V' ∧ DRg P T ops nm r (i + 1) (puts σ (W ++ dW o.dst V')) ((gr ops o.guard ++ trd o ++ R, [], W.map (·.1) ++ dk o.dst) :: lg) K
        | none =>
          match callD σ o with
          | some (f, ars) => ∃ R W V, CallX P f ars R (nm + i) W V ∧ (∀ p ∈ R, get σ p.1 = some p.2 ∧ ckeyR p.1 = true) ∧ ∃ V', VLe V V' ∧ DRg P T ops nm r (i + 1) (puts (dropT R σ) (W ++ dW o.dst V')) ((gr ops o.guard ++ trd o ++ R.map (·.1), R, W.map (·.1) ++ dk o.dst) :: lg) K
          | none => False
end

section
variable {P : Program} {T : List (Nat × TI)} {cx : Cx} {Fr Fr' : Nat → Prop} {m m' : Mp} {Im Im' : Nat → Nat → Prop} {w w' : World} {a : Act} {σ σ' : List (Key × D)} {ops : Array Oper} {Q : Exit → Act → World → Prop}

theorem puts_append : ∀ (W W' σ : List (Key × D)), puts σ (W ++ W') = puts (puts σ W) W'
  | [], _, _ => rfl
  | (k, d) :: W, W', σ => by rw [List.cons_append, puts, puts, puts_append]
theorem St.putO (h : St cx Fr m Im w a σ) {dst : Option Tmp} (hd : ∀ d, dst = some d → d < cx.nt) {v : Value} {V : D} (hr : Rel m Im w v V) : St cx Fr m Im w (a.put dst v) (puts σ (dW dst V)) := by
  cases dst with
  | none => exact h
  | some d => exact h.put (hd d rfl) hr
theorem gd_run (h : St cx Fr m Im w a σ) {o : Oper} {b : Bool} (hg : gd ops σ o.guard = some b) : Region.wanted o (yielded ops a.tmps) = b := by
  unfold gd at hg
  unfold Region.wanted
  split at hg
  · rename_i hn; rw [hn]; cases hg; rfl
  · rename_i j want hn
    rw [hn]
    simp only
    split at hg
    · cases hg
    · rename_i d hd
      unfold yielded
      rw [hd]
      simp only [Option.bind_some]
      split at hg
      · rename_i b' hb
        cases hg
        have e := rel_v.1 (h.tm d _ hb)
        have hlt : d < a.tmps.size := by
          rcases Nat.lt_or_ge d a.tmps.size with h' | h'
          · exact h'
          · rw [Array.getD_eq_getD_getElem?, Array.getElem?_eq_none h'] at e; cases e
        rw [Array.getD_eq_getD_getElem?, Array.getElem?_eq_getElem hlt] at e
        rw [Array.getElem?_eq_getElem hlt]
        simp only [Option.getD_some] at e
        rw [e]
        cases b' <;> cases want <;> rfl
      · rename_i x hb
        cases hg
        have e := rel_v.1 (h.tm d _ hb)
        rcases Nat.lt_or_ge d a.tmps.size with hlt | h'
        · rw [Array.getD_eq_getD_getElem?, Array.getElem?_eq_getElem hlt] at e
          rw [Array.getElem?_eq_getElem hlt]
          simp only [Option.getD_some] at e
          rw [e]; rfl
        · rw [Array.getElem?_eq_none h']; rfl
      · cases hg

def vals (σ : List (Key × D)) (ks : List Key) : List (Key × D) := ks.filterMap fun k => (get σ k).map fun d => (k, d)
theorem vals_agree {ks : List Key} (h : ∀ p ∈ vals σ ks, get σ' p.1 = some p.2) : ∀ k ∈ ks, Agree σ σ' k := fun k hk d hd =>
  h (k, d) (List.mem_filterMap.2 ⟨k, hk, by rw [hd]; rfl⟩)
theorem vals_get {ks : List Key} : ∀ p ∈ vals σ ks, get σ p.1 = some p.2 := fun p hp => by
  obtain ⟨k, _, e⟩ := List.mem_filterMap.1 hp
  cases hg : get σ k with
  | none => rw [hg] at e; cases e
  | some d => rw [hg] at e; cases e; exact hg
theorem vals_key {ks : List Key} : ∀ p ∈ vals σ ks, p.1 ∈ ks := fun p hp => by
  obtain ⟨k, hk, e⟩ := List.mem_filterMap.1 hp
  cases hg : get σ k with
  | none => rw [hg] at e; cases e
  | some d => rw [hg] at e; cases e; exact hk
theorem gd_mono {g : Option (Nat × Bool)} (h : ∀ k ∈ gr ops g, Agree σ σ' k) {b : Bool} (hg : gd ops σ g = some b) : gd ops σ' g = some b := by
  unfold gd at hg ⊢
  unfold gr at h
  split at hg
  · exact hg
  · rename_i j want
    cases hd : (ops[j]?).bind (·.dst) with
    | none => rw [hd] at hg; cases hg
    | some d =>
      rw [hd] at hg
      simp only [hd] at h hg ⊢
      cases hx : get σ (.t d) with
      | none => rw [hx] at hg; cases hg
      | some x =>
        have := h (.t d) (by simp) x hx
        rw [hx] at hg
        rw [this]; exact hg

theorem opT_skip {o : Oper} {nm : Nat} (hd : ∀ d, o.dst = some d → d < cx.nt) (hg : gd ops σ o.guard = some false) : OpT P cx ops Q o nm ⟨vals σ (gr ops o.guard), [], dW o.dst (.v undef)⟩ := by
  intro Fr m Im w a σ' hn h hv K hK
  have hg' := gd_mono (vals_agree hv) hg
  rw [gd_run h hg', if_neg (by simp)]
  refine hK m Im w _ ?_
  show St _ _ _ _ _ _ (puts (dropT [] σ') _)
  rw [dropT_nil]
  exact (h.less fun k hk => hk.1).putO hd (.v undef)
theorem opT_pval (hT : TabOk P T) {o : Oper} {nm : Nat} (hd : ∀ d, o.dst = some d → d < cx.nt) (hg : gd ops σ o.guard = some true) {V V' : D} (hV : pval T σ o = some V) (hle : VLe V V') : OpT P cx ops Q o nm ⟨vals σ (gr ops o.guard ++ trd o ++ mrd T σ o), [], dW o.dst V'⟩ := by
  intro Fr m Im w a σ' hn h hv K hK
  have hag := vals_agree hv
  have hg' := gd_mono (fun k hk => hag k (by simp [hk])) hg
  have hV'' := pval_mono (fun k hk => hag k (by rw [List.append_assoc]; exact List.mem_append_right _ hk)) hV
  rw [gd_run h hg', if_pos rfl]
  obtain ⟨v, r1, r2⟩ := pval_run (P := P) hT h hV''
  unfold Oper.wp
  rw [r1]
  refine hK m Im w _ ?_
  show St _ _ _ _ _ _ (puts (dropT [] σ') _)
  rw [dropT_nil]
  exact (h.less fun k hk => hk.1).putO hd (hle _ _ _ _ r2)
theorem opT_mop (hT : TabOk P T) {o : Oper} {nm : Nat} (hd : ∀ d, o.dst = some d → d < cx.nt) (hg : gd ops σ o.guard = some true) {V V' : D} {W : List (Key × D)} {R : List Key} (hV : mop T σ nm o = some (V, W, R)) (hle : VLe V V') : OpT P cx ops Q o nm ⟨vals σ (gr ops o.guard ++ trd o ++ R), [], W ++ dW o.dst V'⟩ := by
  intro Fr m Im w a σ' hn h hv K hK
  have hag := vals_agree hv
  have hg' := gd_mono (fun k hk => hag k (by simp [hk])) hg
  have hV'' := mop_mono hV (fun k hk => hag k (by rw [List.append_assoc]; exact List.mem_append_right _ hk))
  rw [gd_run h hg', if_pos rfl]
  obtain ⟨nx, v, w', m', Im', r1, r2, r3, r4, r5, r6, r7⟩ := mop_run (P := P) hT h hn hV''
  unfold Oper.wp
  rw [r1]
  have key : K (a.put o.dst v) w' := by
    refine hK m' Im' w' _ ?_
    show St _ _ _ _ _ _ (puts (dropT [] σ') _)
    rw [dropT_nil, puts_append]
    exact r7.putO hd (hle _ _ _ _ r6)
  rcases r2 with rfl | ⟨rfl, rfl⟩
  · exact key
  · exact key
theorem opT_call {o : Oper} {nm : Nat} (hd : ∀ d, o.dst = some d → d < cx.nt) (hg : gd ops σ o.guard = some true) {f : FuncId} {ars : List D} (hc : callD σ o = some (f, ars)) {R W : List (Key × D)} {V V' : D} (hC : CallX P f ars R nm W V) (hle : VLe V V') (hR : ∀ p ∈ R, get σ p.1 = some p.2 ∧ ckeyR p.1 = true) :
    OpT P cx ops Q o nm ⟨vals σ (gr ops o.guard ++ trd o ++ R.map (·.1)), R, W ++ dW o.dst V'⟩ := by
  intro Fr m Im w a σ' hn h hv K hK
  have hag := vals_agree hv
  have hg' := gd_mono (fun k hk => hag k (by simp [hk])) hg
  have hc' := callD_mono (fun k hk => hag k (by simp [hk])) hc
  have hR' : ∀ p ∈ R, get σ' p.1 = some p.2 := fun p hp => hag p.1 (List.mem_append_right _ (List.mem_map.2 ⟨p, hp, rfl⟩)) _ (hR p hp).1
  have hH : Holds cx m Im w R := h.holds hR' fun p hp => by
    have := (hR p hp).2
    obtain ⟨k, d⟩ := p
    cases k <;> first | trivial | cases this
  rw [gd_run h hg', if_pos rfl]
  obtain ⟨vs, r1, r2⟩ := call_exec (P := P) h hc' (hC.elim (fun h => h.1) fun h => h.1)
  unfold Oper.wp
  rw [r1, Oper.upon_enter]
  rcases hC.symm with hC | hC
  · refine (hC.2 cx _ m Im w a σ' vs hn h r2 hR').mono ?_
    rintro e w' ⟨v, m', Im', rfl, q1, q2⟩
    refine hK m' Im' w' _ ?_
    show St _ _ _ _ _ _ (puts (dropT R σ') _)
    rw [puts_append]
    exact q1.putO hd (hle _ _ _ _ q2)
  · refine (hC.2 cx _ m Im w vs h.mem r2 hH).mono ?_
    rintro e w' ⟨v, Im', rfl, q1, q2, q3, q4, q5, q6, q7⟩
    obtain ⟨s1, s2⟩ := h.called hH q1 q2 q3 q4 q5 q7
    refine hK m Im' w' _ ?_
    show St _ _ _ _ _ _ (puts (dropT R σ') _)
    rw [puts_append]
    exact (s1.less fun k hk => hk.1).putO hd (hle _ _ _ _ q6)

def EntOk (e : Ent) (s : RStep) : Prop := (∀ p ∈ s.Rv, p.1 ∈ e.1) ∧ e.2.1 = s.R ∧ e.2.2 = s.W.map (·.1)
theorem dk_map (d : Option Tmp) (V : D) : (dW d V).map (·.1) = dk d := by cases d <;> rfl
def Stp (P : Program) (cx : Cx) (ops : Array Oper) (Q : Exit → Act → World → Prop) (nm : Nat) (os : List Oper) (i : Nat) (σ : List (Key × D)) (lg : List Ent) (K : List (Key × D) → List Ent → Prop) : Prop :=
  ∃ (ss : List RStep) (es : List Ent), ss.length = os.length ∧ es.length = os.length ∧ (∀ j (h : j < os.length) (h' : j < ss.length), OpT P cx ops Q os[j] (nm + (i + j)) ss[j]) ∧ (∀ j (h : j < ss.length) (h' : j < es.length), EntOk es[j] ss[j]) ∧
      (∀ j (h : j < ss.length), ∀ p ∈ ss[j].Rv, get ((ss.take j).foldl (fun σ s => s.ap σ) σ) p.1 = some p.2) ∧ K (ss.foldl (fun σ s => s.ap σ) σ) (es.reverse ++ lg)
theorem drg_steps (hT : TabOk P T) {nm : Nat} {K : List (Key × D) → List Ent → Prop} : ∀ (os : List Oper) (i : Nat) (σ : List (Key × D)) (lg : List Ent), (∀ o ∈ os, ∀ d, o.dst = some d → d < cx.nt) → DRg P T ops nm os i σ lg K → Stp P cx ops Q nm os i σ lg K
  | [], i, σ, lg, _, h => ⟨[], [], rfl, rfl, fun j h => absurd h (by simp), fun j h => absurd h (by simp), fun j h => absurd h (by simp), h⟩
  | o :: os, i, σ, lg, hdst, h => by
    have one : ∀ (s : RStep) (e : Ent), OpT P cx ops Q o (nm + i) s → EntOk e s → (∀ p ∈ s.Rv, get σ p.1 = some p.2) → DRg P T ops nm os (i + 1) (s.ap σ) (e :: lg) K → Stp P cx ops Q nm (o :: os) i σ lg K := fun s e h1 h2 h3 h4 => by
      obtain ⟨ss, es, l1, l2, g1, g2, g3, g4⟩ := drg_steps hT os (i + 1) (s.ap σ) (e :: lg) (fun o ho => hdst o (by simp [ho])) h4
      refine ⟨s :: ss, e :: es, by simp [l1], by simp [l2], fun j h h' => ?_, fun j h h' => ?_, fun j h => ?_, by simpa using g4⟩
      · cases j with
        | zero => exact h1
        | succ j =>
          have := g1 j (by simpa using h) (by simpa using h')
          rw [show i + 1 + j = i + (j + 1) by omega] at this
          exact this
      · cases j with
        | zero => exact h2
        | succ j => exact g2 j (by simpa using h) (by simpa using h')
      · cases j with
        | zero => exact h3
        | succ j => exact g3 j (by simpa using h)
    have hdo := hdst o (by simp)
    rw [DRg] at h
    cases hg : gd ops σ o.guard with
    | none => rw [hg] at h; exact h.elim
    | some b =>
      rw [hg] at h
      cases b with
      | false =>
        refine one ⟨vals σ (gr ops o.guard), [], dW o.dst (.v undef)⟩ (gr ops o.guard, [], dk o.dst) (opT_skip hdo hg) ⟨vals_key, rfl, (dk_map _ _).symm⟩ vals_get ?_
        show DRg _ _ _ _ _ _ (puts (dropT [] σ) _) _ _
        rw [dropT_nil]; exact h
      | true =>
        simp only at h
        cases hp : pval T σ o with
        | some V =>
          rw [hp] at h
          obtain ⟨V', hle, h⟩ := h
          refine one ⟨vals σ (gr ops o.guard ++ trd o ++ mrd T σ o), [], dW o.dst V'⟩ (gr ops o.guard ++ trd o ++ mrd T σ o, [], dk o.dst) (opT_pval hT hdo hg hp hle) ⟨vals_key, rfl, (dk_map _ _).symm⟩ vals_get ?_
          show DRg _ _ _ _ _ _ (puts (dropT [] σ) _) _ _
          rw [dropT_nil]; exact h
        | none =>
          rw [hp] at h
          simp only at h
          cases hm : mop T σ (nm + i) o with
          | some r =>
            obtain ⟨V, W, R⟩ := r
            rw [hm] at h
            obtain ⟨V', hle, h⟩ := h
            refine one ⟨vals σ (gr ops o.guard ++ trd o ++ R), [], W ++ dW o.dst V'⟩ (gr ops o.guard ++ trd o ++ R, [], W.map (·.1) ++ dk o.dst) (opT_mop hT hdo hg hm hle) ⟨vals_key, rfl, by simp [dk_map]⟩ vals_get ?_
            show DRg _ _ _ _ _ _ (puts (dropT [] σ) _) _ _
            rw [dropT_nil]; exact h
          | none =>
            rw [hm] at h
            simp only at h
            cases hc : callD σ o with
            | none => rw [hc] at h; exact h.elim
            | some r =>
              obtain ⟨f, ars⟩ := r
              rw [hc] at h
              obtain ⟨R, W, V, hC, hR, V', hle, h⟩ := h
              exact one ⟨vals σ (gr ops o.guard ++ trd o ++ R.map (·.1)), R, W ++ dW o.dst V'⟩ (gr ops o.guard ++ trd o ++ R.map (·.1), R, W.map (·.1) ++ dk o.dst) (opT_call hdo hg hc hC hle hR) ⟨vals_key, rfl, by simp [dk_map]⟩ vals_get h
end
end Go.Proofs.Ytcblpjheoclkeaa

namespace Go.Proofs.Ytcblpjheoclkeaa
open Go.RowKit

def maskOf (es : List Edge) (acc : List Nat) : Nat := match es with
  | [] => 0
  | e :: r => if Region.binds .any e then maskOf r acc ||| (2 ^ e.on ||| acc.getD e.on 0) else maskOf r acc
def masks : List Oper → List Nat → List Nat
  | [], acc => acc
  | o :: r, acc => masks r (acc ++ [maskOf o.after.toList acc])
def idxOk : List Oper → Nat → Bool
  | [], _ => true
  | o :: r, i => o.after.toList.all (fun e => !Region.binds .any e || decide (e.on < i)) && idxOk r (i + 1)
def wkB (e : Ent) (k : Key) : Bool := touches e.2.1 k || e.2.2.any fun k' => Key.eq k' k
def cfB (s t : Ent) : Bool := t.1.all (fun k => !wkB s k) && s.1.all (fun k => !wkB t k) && s.2.2.all (fun k => !wkB t k) && t.2.2.all (fun k => !touches s.2.1 k) && s.2.1.all (fun p => !touches t.2.1 p.1)
def pairsB (ms : List Nat) (es : List Ent) : Bool := (List.range es.length).all fun j => (List.range j).all fun i => (ms.getD j 0).testBit i || (match es[i]?, es[j]? with | some s, some t => cfB s t | _, _ => false)
def chkB (ops : Array Oper) (lg : List Ent) : Bool := idxOk ops.toList 0 && pairsB (masks ops.toList []) lg.reverse

section
variable {P : Program} {T : List (Nat × TI)} {cx : Cx} {m m' : Mp} {Im Im' : Nat → Nat → Prop} {w w' : World} {a : Act} {σ σ' : List (Key × D)} {ops : Array Oper} {Q : Exit → Act → World → Prop}
theorem maskOf_bit {acc : List Nat} {i : Nat} : ∀ {es : List Edge}, (maskOf es acc).testBit i = true → ∃ e ∈ es, Region.binds .any e = true ∧ (e.on = i ∨ (acc.getD e.on 0).testBit i = true)
  | [], h => by simp [maskOf] at h
  | e :: es, h => by
    rw [maskOf] at h
    split at h
    · rename_i hb
      rw [Nat.testBit_or, Bool.or_eq_true, Nat.testBit_or, Bool.or_eq_true] at h
      rcases h with h | h | h
      · obtain ⟨e', h1, h2⟩ := maskOf_bit h
        exact ⟨e', by simp [h1], h2⟩
      · rw [Nat.testBit_two_pow] at h
        exact ⟨e, by simp, hb, .inl (by simpa using h)⟩
      · exact ⟨e, by simp, hb, .inr h⟩
    · obtain ⟨e', h1, h2⟩ := maskOf_bit h
      exact ⟨e', by simp [h1], h2⟩
theorem masks_anc : ∀ (r : List Oper) (acc : List Nat), (∀ j, acc.length ≤ j → ops[j]? = r[j - acc.length]?) → (∀ j i, (acc.getD j 0).testBit i = true → Anc ops j i) → ∀ j i, ((masks r acc).getD j 0).testBit i = true → Anc ops j i
  | [], acc, _, h => h
  | o :: r, acc, hr, h => by
    rw [masks]
    refine masks_anc r _ (fun j hj => ?_) fun j i hb => ?_
    · simp only [List.length_append, List.length_cons, List.length_nil] at hj ⊢
      rw [hr j (by omega)]
      rw [show j - acc.length = (j - (acc.length + (0 + 1))) + 1 by omega, List.getElem?_cons_succ]
    · rw [List.getD_eq_getElem?_getD] at hb
      by_cases hj : j < acc.length
      · rw [List.getElem?_append_left hj, ← List.getD_eq_getElem?_getD] at hb; exact h j i hb
      · rw [List.getElem?_append_right (by omega)] at hb
        by_cases hj0 : j = acc.length
        · subst hj0
          simp only [Nat.sub_self, List.getElem?_cons_zero, Option.getD_some] at hb
          obtain ⟨e, h1, h2, h3⟩ := maskOf_bit hb
          have hop : ops[acc.length]? = some o := by rw [hr _ (Nat.le_refl _)]; simp
          have he : Edg ops acc.length e.on := ⟨o, e, hop, by simpa using h1, h2, rfl⟩
          rcases h3 with h3 | h3
          · exact .one (h3 ▸ he)
          · exact .more he (h _ _ h3)
        · rw [List.getElem?_eq_none (by simp; omega)] at hb; simp at hb
theorem idxOk_edg : ∀ (r : List Oper) (n : Nat), (∀ j, n ≤ j → ops[j]? = r[j - n]?) → idxOk r n = true → ∀ j i, n ≤ j → Edg ops j i → i < j
  | [], n, hr, _, j, i, hj, he => by obtain ⟨o, e, h1, _⟩ := he; rw [hr j hj] at h1; cases h1
  | o :: r, n, hr, h, j, i, hj, he => by
    simp only [idxOk, Bool.and_eq_true] at h
    by_cases hjn : j = n
    · subst hjn
      obtain ⟨o', e, h1, h2, h3, rfl⟩ := he
      rw [hr j (Nat.le_refl _)] at h1
      simp only [Nat.sub_self, List.getElem?_cons_zero, Option.some.injEq] at h1
      subst h1
      have := List.all_eq_true.1 h.1 e (by simpa using h2)
      simpa [h3] using this
    · refine idxOk_edg r (n + 1) (fun j hj => ?_) h.2 j i (by omega) he
      rw [hr j (by omega), show j - n = (j - (n + 1)) + 1 by omega, List.getElem?_cons_succ]
theorem EntOk.wk {e : Ent} {s : RStep} (h : EntOk e s) (k : Key) : s.wk k = wkB e k := by
  obtain ⟨_, h2, h3⟩ := h
  unfold RStep.wk wkB
  rw [h2, h3, List.any_map]
  rfl
theorem touches_some {R : List (Key × D)} {k : Key} (h : touches R k = true) : ∃ p ∈ R, ∀ R' : List (Key × D), touches R' k = touches R' p.1 := by
  cases k with
  | c n o =>
    simp only [touches, List.any_eq_true] at h
    obtain ⟨p, hp, h⟩ := h
    refine ⟨p, hp, fun R' => ?_⟩
    obtain ⟨k, d⟩ := p
    cases k with
    | c k' o' => simp only [beq_iff_eq] at h; subst h; rfl
    | _ => cases h
  | j =>
    simp only [touches, List.any_eq_true] at h
    obtain ⟨p, hp, h⟩ := h
    refine ⟨p, hp, fun R' => ?_⟩
    obtain ⟨k, d⟩ := p
    cases k with
    | j => rfl
    | _ => cases h
  | o n =>
    simp only [touches, List.any_eq_true] at h
    obtain ⟨p, hp, h⟩ := h
    refine ⟨p, hp, fun R' => ?_⟩
    obtain ⟨k, d⟩ := p
    cases k with
    | o k' => simp only [beq_iff_eq] at h; subst h; rfl
    | _ => cases h
  | t x => cases h
  | r g => cases h
theorem cf_of {s t : RStep} {e f : Ent} (hs : EntOk e s) (ht : EntOk f t) (h : cfB e f = true) : Cf s t := by
  unfold cfB at h
  simp only [Bool.and_eq_true, List.all_eq_true, Bool.not_eq_true'] at h
  obtain ⟨⟨⟨⟨h1, h2⟩, h3⟩, h4⟩, h5⟩ := h
  refine ⟨fun p hp => ?_, fun p hp => ?_, fun k hk => ?_⟩
  · rw [hs.wk]; exact h1 _ (ht.1 p hp)
  · rw [ht.wk]; exact h2 _ (hs.1 p hp)
  · rw [hs.wk] at hk
    rw [ht.wk]
    unfold wkB at hk
    rw [Bool.or_eq_true] at hk
    rcases hk with hk | hk
    · obtain ⟨p, hp, he⟩ := touches_some hk
      unfold wkB
      rw [Bool.or_eq_false_iff]
      refine ⟨by rw [he]; exact h5 p hp, ?_⟩
      rw [List.any_eq_false]
      intro k' hk' e
      have := Key.eq_iff.1 e
      subst this
      rw [h4 _ hk'] at hk; cases hk
    · rw [List.any_eq_true] at hk
      obtain ⟨k', hk', e⟩ := hk
      have := Key.eq_iff.1 e
      subst this
      exact h3 _ hk'
instance : Inhabited RStep := ⟨⟨[], [], []⟩⟩
theorem canL_fold (ss : List RStep) (σ0 : List (Key × D)) : ∀ j, j ≤ ss.length → canL (fun i => ss.getD i default) σ0 all' j = (ss.take j).foldl (fun σ s => s.ap σ) σ0
  | 0, _ => rfl
  | j + 1, h => by
    rw [canL, if_pos (show all' j = true from rfl), canL_fold ss σ0 j (by omega), List.take_succ_eq_append_getElem (by omega), List.foldl_append, List.getD_eq_getElem?_getD, List.getElem?_eq_getElem (by omega)]
    rfl
theorem wp_regionD (hT : TabOk P T) (hm : P.follows .mixedOrders = true) {id : Nat} {draw : Bool} {N : Nat} (hd : ops.all (fun o => match o.dst with | none => true | some d => decide (d < cx.nt)) = true)
    {K : List (Key × D) → Prop} (hK : ∀ m Im w a σ', K σ' → St cx (fun k => N + ops.size ≤ k) m Im w a σ' → Q .normal a w)
    (h : DRg P T ops N ops.toList 0 σ [] (fun σ' lg => (draw = true → chkB ops lg = true) ∧ K σ')) (hst : St cx (fun k => N ≤ k) m Im w a σ) : (Code.region id ops draw).wp P Q a w := by
  have hdst : ∀ o ∈ ops.toList, ∀ d, o.dst = some d → d < cx.nt := fun o ho d e => by
    have := (Array.all_eq_true'.1 hd) o (by simpa using ho)
    rw [e] at this; simpa using this
  obtain ⟨ss, es, l1, l2, g1, g2, g3, g4, g5⟩ := drg_steps (cx := cx) (Q := Q) hT ops.toList 0 σ [] hdst h
  have hl1 : ss.length = ops.size := by simpa using l1
  have hl2 : es.length = ops.size := by simpa using l2
  have hop : ∀ i (h : i < ops.size), OpT P cx ops Q ops[i] (N + i) (ss.getD i default) := fun i hi => by
    have := g1 i (by simpa using hi) (by omega)
    rw [Nat.zero_add] at this
    rw [List.getD_eq_getElem?_getD, List.getElem?_eq_getElem (by omega)]
    simpa using this
  have hR : ∀ i, i < ops.size → ∀ p ∈ (ss.getD i default).Rv, get (canL (fun i => ss.getD i default) σ all' i) p.1 = some p.2 := fun i hi p hp => by
    rw [canL_fold ss σ i (by omega)]
    rw [List.getD_eq_getElem?_getD, List.getElem?_eq_getElem (by omega)] at hp
    exact g3 i (by omega) p hp
  have hfin : ∀ m Im w a, St cx (fun k => N ≤ k ∧ N + ops.size ≤ k) m Im w a (canL (fun i => ss.getD i default) σ all' ops.size) → Q .normal a w := fun m Im w a h => by
    rw [canL_fold ss σ _ (by omega), List.take_of_length_le (by omega)] at h
    exact hK m Im w a _ g5 (h.less fun k hk => ⟨by omega, hk⟩)
  cases draw with
  | false =>
    refine wp_region ?_
    rw [List.range_eq_range']
    refine region_seq hop hR (fun k hk => hk) hfin ops.size 0 (m := m) (Im := Im) (by omega) ?_
    exact hst.less fun k hk => hk.1
  | true =>
    have hchk := g4 rfl
    simp only [chkB, List.append_nil, List.reverse_reverse, Bool.and_eq_true] at hchk
    obtain ⟨hidx, hpairs⟩ := hchk
    refine wp_region_any hm ?_
    have hst' : St cx (fun k => N ≤ k) m Im w.drew a σ := hst.below0 (Below.refl _ _).drew
    refine region_any hop hR (fun i j hij hj => ?_) (fun j i he => idxOk_edg ops.toList 0 (fun j _ => by simp) hidx j i (Nat.zero_le _) he) (fun k hk => hk) hfin hst'
    simp only [pairsB, List.all_eq_true, List.mem_range] at hpairs
    have := hpairs j (by omega) i hij
    rw [Bool.or_eq_true] at this
    rcases this with h1 | h1
    · exact .inl (masks_anc ops.toList [] (fun j _ => by simp) (fun j i hb => by simp at hb) j i h1)
    · right
      have hi : i < es.length := by omega
      have hj' : j < es.length := by omega
      rw [List.getElem?_eq_getElem hi, List.getElem?_eq_getElem hj'] at h1
      rw [List.getD_eq_getElem?_getD, List.getElem?_eq_getElem (by omega), List.getD_eq_getElem?_getD, List.getElem?_eq_getElem (by omega)]
      exact cf_of (g2 i (by omega) hi) (g2 j (by omega) hj') h1
end
end Go.Proofs.Ytcblpjheoclkeaa

namespace Go.Proofs.Ytcblpjheoclkeaa
open Go.RowKit

def DW (P : Program) (cx : Cx) (c : Code) (σ : List (Key × D)) (N : Nat) (Q : Exit → List (Key × D) → Nat → Prop) : Prop :=
  ∀ m Im w a, St cx (fun k => N ≤ k) m Im w a σ → c.wp P (fun e a' w' => ∃ σ' N' m' Im', Q e σ' N' ∧ St cx (fun k => N' ≤ k) m' Im' w' a' σ') a w
def VS (cx : Cx) (σ : List (Key × D)) (N : Nat) (τ : List (Key × D)) (N' : Nat) : Prop :=
  ∀ m Im w a, St cx (fun k => N ≤ k) m Im w a σ → ∃ m', St cx (fun k => N' ≤ k) m' Im w a τ
def upto (N : Nat) : Nat → Bool := fun k => decide (k < N)
def keyOk (N : Nat) : Key → Bool
  | .c k _ => upto N k
  | .r g => upto N g
  | .o k => upto N k
  | _ => true

section
variable {P : Program} {T : List (Nat × TI)} {cx : Cx} {Fr Fr' : Nat → Prop} {m m' : Mp} {Im Im' : Nat → Nat → Prop} {w w' : World} {a : Act} {σ σ' τ : List (Key × D)} {N N' : Nat} {Q : Exit → List (Key × D) → Nat → Prop}
theorem VS.refl : VS cx σ N σ N := fun m _ _ _ h => ⟨m, h⟩
theorem VS.trans {σ1 σ2 σ3 : List (Key × D)} {N1 N2 N3 : Nat} (h : VS cx σ1 N1 σ2 N2) (h' : VS cx σ2 N2 σ3 N3) : VS cx σ1 N1 σ3 N3 := fun m Im w a hs => by
  obtain ⟨m1, h1⟩ := h m Im w a hs
  exact h' m1 Im w a h1
theorem Mp.cut_blk {f g : Nat → Bool} {k b : Nat} (h : (m.cut f g).blk k = some b) : f k = true ∧ m.blk k = some b := by
  by_cases hk : f k = true
  · exact ⟨hk, by simpa [Mp.cut, hk] using h⟩
  · simp [Mp.cut, hk] at h
theorem Mp.cut_row {f g : Nat → Bool} {r : Nat} {R : RowM} (h : (m.cut f g).row r = some R) : g r = true ∧ m.row r = some R := by
  by_cases hk : g r = true
  · exact ⟨hk, by simpa [Mp.cut, hk] using h⟩
  · simp [Mp.cut, hk] at h
theorem Mp.cut_obj {f g : Nat → Bool} {k b : Nat} (h : (m.cut f g).obj k = some b) : f k = true ∧ m.obj k = some b := by
  by_cases hk : f k = true
  · exact ⟨hk, by simpa [Mp.cut, hk] using h⟩
  · simp [Mp.cut, hk] at h
theorem ObOk.cut {b : Nat} {d : D} {f g : Nat → Bool} (h : ObOk m Im w b d) (hd : d.ok f g = true) : ObOk (m.cut f g) Im w b d := by
  cases h with
  | mp es clock l h1 h2 h3 h4 h5 => exact .mp es clock l h1 h2 h3 (fun i hi v hv => (h4 i hi v hv).cut (D.okm_get (by simpa only [D.ok] using hd) i hi)) h5
  | mq es clock l h1 h2 h3 h4 h5 => exact .mq es clock l h1 h2 h3 (fun i hi v hv => (h4 i hi v hv).cut (D.okm_get (by simpa only [D.ok] using hd) i hi)) h5
  | it k bm es clock rem last seen h1 h2 h3 h4 h5 h6 => exact .it k bm es clock rem last seen (by simp only [D.ok] at hd; simp only [Mp.cut, hd, if_true]; exact h1) h2 h3 h4 h5 h6
  | ob J h hs => exact .ob J h hs
theorem MemOk.cutN (h : MemOk cx Fr m Im w) (hN : cx.n0 ≤ N) : MemOk cx (fun k => N ≤ k) (m.cut (upto N) (upto N)) Im w where
  off := h.off
  im := h.im
  imb := h.imb
  im0 := h.im0
  own k b hk := h.own k b (Mp.cut_blk hk).2
  lt k b hk := h.lt k b (Mp.cut_blk hk).2
  free k b o hk := h.free k b o (Mp.cut_blk hk).2
  nim k b o hk := h.nim k b o (Mp.cut_blk hk).2
  inj k k' b hk hk' := h.inj k k' b (Mp.cut_blk hk).2 (Mp.cut_blk hk').2
  row g R hg := h.row g R (Mp.cut_row hg).2
  k0 := h.k0
  rown g R b hg := h.rown g R b (Mp.cut_row hg).2
  m0r g R hg := by
    obtain ⟨R', q1, q2⟩ := h.m0r g R hg
    have := cx.h0r g R hg
    have hlt : g < N := by omega
    exact ⟨R', by simp [Mp.cut, upto, hlt, q1], q2⟩
  rIm g R b o hg := h.rIm g R b o (Mp.cut_row hg).2
  rblk g R b k hg hb hk := h.rblk g R b k (Mp.cut_row hg).2 hb (Mp.cut_blk hk).2
  rinj g g' R R' b hg hg' := h.rinj g g' R R' b (Mp.cut_row hg).2 (Mp.cut_row hg').2
  fr k hk := by
    have : ¬ k < N := by omega
    simp [Mp.cut, upto, this]
  m0o k b hk := by
    have := cx.h0o k b hk
    have h2 := h.m0o k b hk
    have : k < N := by omega
    simp [Mp.cut, upto, this, h2]
  oown k b hk := h.oown k b (Mp.cut_obj hk).2
  olt k b hk := h.olt k b (Mp.cut_obj hk).2
  onim k b o hk := h.onim k b o (Mp.cut_obj hk).2
  oinj k k' b hk hk' := h.oinj k k' b (Mp.cut_obj hk).2 (Mp.cut_obj hk').2
  oblk k k' b hk hk' := h.oblk k k' b (Mp.cut_obj hk).2 (Mp.cut_blk hk').2
  orow k g R b hk hg := h.orow k g R b (Mp.cut_obj hk).2 (Mp.cut_row hg).2
  dis k b hk := by
    have := h.dis k b (Mp.cut_blk hk).2
    show (if _ then m.obj k else none) = none
    rw [this]; simp
  m0 k b hk := by
    have := cx.h0 k b hk
    have h2 := h.m0 k b hk
    have : k < N := by omega
    simp [Mp.cut, upto, this, h2]
theorem mem_of_get : ∀ {σ : List (Key × D)} {k : Key} {d : D}, get σ k = some d → (k, d) ∈ σ
  | [], _, _, h => by cases h
  | (k', d') :: σ, k, d, h => by
    simp only [get] at h
    split at h
    · rename_i he; rw [Key.eq_iff] at he; subst he; cases h; simp
    · exact List.mem_cons_of_mem _ (mem_of_get h)
theorem VS.to (hN : cx.n0 ≤ N') (h1 : τ.all (fun p => p.2.ok (upto N') (upto N') && keyOk N' p.1) = true) (h2 : ∀ p ∈ τ, get σ p.1 = some p.2 ∨ ∃ d, get σ p.1 = some d ∧ VLe d p.2 ∧ (match p.1 with | .r _ => False | .j => False | .o _ => False | _ => True)) : VS cx σ N τ N' := by
  intro m Im w a h
  refine ⟨m.cut (upto N') (upto N'), h.mem.cutN hN, h.df, h.nt, fun x d hx => ?_, fun k off d hx => ?_, fun g d hx => ?_, fun d hx => ?_, fun k d hx => ?_⟩
  all_goals
    have hm := mem_of_get hx
    have ho := List.all_eq_true.1 h1 _ hm
    simp only [Bool.and_eq_true] at ho
    have hg := h2 _ hm
    simp only at hg
  · refine Rel.cut ?_ ho.1
    rcases hg with hg | ⟨d', hg, e, _⟩
    · exact h.tm x d hg
    · exact e _ _ _ _ (h.tm x d' hg)
  · have hk : upto N' k = true := ho.2
    rcases hg with hg | ⟨d', hg, e, _⟩
    · obtain ⟨b, v, q1, q2, q3⟩ := h.ce k off d hg
      exact ⟨b, v, by simp only [Mp.cut, hk, if_true]; exact q1, q2, q3.cut ho.1⟩
    · obtain ⟨b, v, q1, q2, q3⟩ := h.ce k off d' hg
      refine ⟨b, v, by simp only [Mp.cut, hk, if_true]; exact q1, q2, Rel.cut ?_ ho.1⟩
      exact e _ _ _ _ q3
  · have hk : upto N' g = true := ho.2
    rcases hg with hg | ⟨d', hg, e, hf⟩
    · obtain ⟨R, q1, q2⟩ := h.ro g d hg
      exact ⟨R, by simp only [Mp.cut, hk, if_true]; exact q1, q2.cut ho.1⟩
    · exact hf.elim
  · rcases hg with hg | ⟨d', hg, e, hf⟩
    · obtain ⟨X, J, q1, q2⟩ := h.jk d hg
      exact ⟨X, J, q1, { q2 with blk := fun b k hb hk => q2.blk b k hb (Mp.cut_blk hk).2, row := fun b g R hb hk => q2.row b g R hb (Mp.cut_row hk).2, obj := fun b k hb hk => q2.obj b k hb (Mp.cut_obj hk).2 }⟩
    · exact hf.elim
  · have hk : upto N' k = true := ho.2
    rcases hg with hg | ⟨d', hg, e, hf⟩
    · obtain ⟨b, q1, q2⟩ := h.ok k d hg
      exact ⟨b, by simp only [Mp.cut, hk, if_true]; exact q1, q2.cut ho.1⟩
    · exact hf.elim
theorem VS.row {k off : Nat} (E n : Nat) (h : get σ (.c k off) = some (.v (.slice none 0 0))) : VS cx σ N (put1 (.r N) (.rw E n 0) (put1 (.c k off) (.sl n [] (some N)) σ)) (N + 1) := by
  intro m Im w a hs
  have h1 := hs.newRow (g := N) (Nat.le_refl _) E n
  obtain ⟨b, v, q1, q2, q3⟩ := hs.ce k off _ h
  have hv := rel_v.1 q3; subst hv
  have hg : (m.setR N ⟨.slice none 0 0, 0, E, n⟩).row N = some ⟨.slice none 0 0, 0, E, n⟩ := by simp [Mp.setR]
  have h2 := h1.putc (k := k) (off := off) (b := b) q1 q2 (rel_nil hg)
  refine ⟨_, (h2.sub fun k' d hd => ?_).less fun k hk => ⟨by omega, by omega⟩⟩
  simp only [get_put1] at hd ⊢
  by_cases e1 : Key.eq (.c k off) k' = true
  · rw [if_pos e1]
    rw [if_neg (by rw [Key.eq_iff] at e1; subst e1; simp [Key.eq]), if_pos e1] at hd; exact hd
  · rw [if_neg e1]; rw [if_neg e1] at hd; exact hd
theorem VS.rowT {x : Nat} (hx : x < cx.nt) (E n : Nat) (h : get σ (.t x) = some (.v (.slice none 0 0))) : VS cx σ N (put1 (.r N) (.rw E n 0) (put1 (.t x) (.sl n [] (some N)) σ)) (N + 1) := by
  intro m Im w a hs
  have h1 := hs.newRow (g := N) (Nat.le_refl _) E n
  have hv := rel_v.1 (hs.tm x _ h)
  have hg : (m.setR N ⟨.slice none 0 0, 0, E, n⟩).row N = some ⟨.slice none 0 0, 0, E, n⟩ := by simp [Mp.setR]
  have hr : Rel (m.setR N ⟨.slice none 0 0, 0, E, n⟩) Im w (a.tmps.getD x undef) (.sl n [] (some N)) := by rw [hv]; exact rel_nil hg
  refine ⟨_, { h1 with tm := ?_, ce := ?_, ro := ?_, jk := ?_, ok := ?_, mem := { h1.mem with fr := fun k hk => h1.mem.fr k ⟨by omega, by omega⟩ } }⟩
  all_goals intros
  · rename_i y d hy
    rw [get_put1, if_neg (by simp [Key.eq]), get_put1] at hy
    by_cases e : Key.eq (.t x) (.t y) = true
    · rw [if_pos e] at hy
      have := Key.eq_iff.1 e; cases this
      cases hy; exact hr
    · rw [if_neg e] at hy
      exact h1.tm y d (by rw [get_put1, if_neg (by simp [Key.eq])]; exact hy)
  · rename_i k off d hy
    rw [get_put1, if_neg (by simp [Key.eq]), get_put1, if_neg (by simp [Key.eq])] at hy
    exact h1.ce k off d (by rw [get_put1, if_neg (by simp [Key.eq])]; exact hy)
  · rename_i g d hy
    refine h1.ro g d ?_
    rw [get_put1] at hy ⊢
    split
    · rename_i e; rw [if_pos e] at hy; exact hy
    · rename_i e; rw [if_neg e, get_put1, if_neg (by simp [Key.eq])] at hy; exact hy
  · rename_i d hy
    rw [get_put1, if_neg (by simp [Key.eq]), get_put1, if_neg (by simp [Key.eq])] at hy
    exact h1.jk d (by rw [get_put1, if_neg (by simp [Key.eq])]; exact hy)
  · rename_i k d hy
    rw [get_put1, if_neg (by simp [Key.eq]), get_put1, if_neg (by simp [Key.eq])] at hy
    exact h1.ok k d (by rw [get_put1, if_neg (by simp [Key.eq])]; exact hy)

theorem DW.mono {c : Code} {Q' : Exit → List (Key × D) → Nat → Prop} (h : DW P cx c σ N Q) (hq : ∀ e σ' N', Q e σ' N' → Q' e σ' N') : DW P cx c σ N Q' := fun m Im w a hs =>
  Code.wp_mono (fun e a w ⟨σ', N', m', Im', h1, h2⟩ => ⟨σ', N', m', Im', hq _ _ _ h1, h2⟩) (h m Im w a hs)
theorem DW.vs {c : Code} (hv : VS cx σ N τ N') (h : DW P cx c τ N' Q) : DW P cx c σ N Q := fun m Im w a hs => by
  obtain ⟨m', h'⟩ := hv m Im w a hs
  exact h m' Im w a h'
def thenQ (K : List (Key × D) → Nat → Prop) (Q : Exit → List (Key × D) → Nat → Prop) : Exit → List (Key × D) → Nat → Prop
  | .normal, σ, N => K σ N
  | e, σ, N => Q e σ N
theorem dw_seq {x y : Code} (h : DW P cx x σ N (thenQ (fun σ' N' => DW P cx y σ' N' Q) Q)) : DW P cx (.seq x y) σ N Q := fun m Im w a hs =>
 wp_seq (Code.wp_mono (fun e a' w' ⟨σ', N', m', Im', h1, h2⟩ => by
  cases e with
  | normal => exact h1 m' Im' w' a' h2
  | _ => exact ⟨σ', N', m', Im', h1, h2⟩) (h m Im w a hs))
theorem dw_cond {c : Operand} {x y : Code} {t : Bool} (hc : ev σ c = some (.v (.bool t))) (h : DW P cx (if t then x else y) σ N Q) : DW P cx (.cond c x y) σ N Q := fun m Im w a hs =>
  wp_cond (rel_v.1 (hs.ev hc)) (h m Im w a hs)
def blockQ (id : Nat) (Q : Exit → List (Key × D) → Nat → Prop) : Exit → List (Key × D) → Nat → Prop
  | .exit id', σ, N => if id' = id then Q .normal σ N else Q (.exit id') σ N
  | e, σ, N => Q e σ N
theorem dw_block {id : Nat} {c : Code} (h : DW P cx c σ N (blockQ id Q)) : DW P cx (.block id c) σ N Q := fun m Im w a hs =>
  wp_block (Code.wp_mono (fun e a' w' ⟨σ', N', m', Im', h1, h2⟩ => by
    cases e with
    | exit id' =>
      simp only [blockQ] at h1
      show if id' = id then _ else _
      split
      · rename_i e; rw [if_pos e] at h1; exact ⟨σ', N', m', Im', h1, h2⟩
      · rename_i e; rw [if_neg e] at h1; exact ⟨σ', N', m', Im', h1, h2⟩
    | _ => exact ⟨σ', N', m', Im', h1, h2⟩) (h m Im w a hs))
theorem dw_skip (h : Q .normal σ N) : DW P cx .skip σ N Q := fun m Im _ _ hs => wp_skip ⟨σ, N, m, Im, h, hs⟩
theorem dw_exit {id : Nat} (h : Q (.exit id) σ N) : DW P cx (.exit id) σ N Q := fun m Im _ _ hs => wp_exit ⟨σ, N, m, Im, h, hs⟩
theorem dw_ret (h : Q .ret σ N) : DW P cx .ret σ N Q := fun m Im _ _ hs => wp_ret ⟨σ, N, m, Im, h, hs⟩
theorem dw_region (hT : TabOk P T) (hm : P.follows .mixedOrders = true) {id : Nat} {ops : Array Oper} {draw : Bool} (hd : ops.all (fun o => match o.dst with | none => true | some d => decide (d < cx.nt)) = true)
    (h : DRg P T ops N ops.toList 0 σ [] (fun σ' lg => (draw = true → chkB ops lg = true) ∧ Q .normal σ' (N + ops.size))) : DW P cx (.region id ops draw) σ N Q := fun m Im w a hs =>
  wp_regionD hT hm hd (K := fun σ' => Q .normal σ' (N + ops.size)) (fun m' Im' w' a' σ' hq hs' => ⟨σ', N + ops.size, m', Im', hq, hs'⟩) h hs
theorem dw_loop {ι : Type} {c : Code} (I : ι → List (Key × D)) (N0 : Nat) (μ : ι → Nat) (i0 : ι) (h0 : VS cx σ N (I i0) N0)
    (h : ∀ i, DW P cx c (I i) N0 (thenQ (fun σ' N' => ∃ i', μ i' < μ i ∧ VS cx σ' N' (I i') N0) Q)) : DW P cx (.loop c) σ N Q := fun m Im w a hs => by
  obtain ⟨m1, h1⟩ := h0 m Im w a hs
  have key : ∀ n i m Im w a, μ i < n → St cx (fun k => N0 ≤ k) m Im w a (I i) → Code.rounds P c (fun e a' w' => ∃ σ' N' m' Im', Q e σ' N' ∧ St cx (fun k => N' ≤ k) m' Im' w' a' σ') n a w := by
    intro n
    induction n with
    | zero => intro i m Im w a hn _; omega
    | succ n ih =>
      intro i m Im w a hn hs
      rw [rounds_succ]
      refine Code.wp_mono (fun e a' w' ⟨σ', N', m', Im', h1, h2⟩ => ?_) (h i m Im w a hs)
      cases e with
      | normal =>
        obtain ⟨i', hlt, hv⟩ := h1
        obtain ⟨m2, h3⟩ := hv m' Im' w' a' h2
        exact ih i' m2 Im' w' a' (by omega) h3
      | _ => exact ⟨σ', N', m', Im', h1, h2⟩
  exact wp_loop_rounds (μ i0 + 1) (key _ i0 m1 Im w a (by omega) h1)
end
end Go.Proofs.Ytcblpjheoclkeaa

namespace Go.Proofs.Ytcblpjheoclkeaa
open Go.RowKit

def resV (T : List (Nat × TI)) (σ : List (Key × D)) : ResultVar → Option D
  | .tmp t => get σ (.t t)
  | .cell x t => (get σ (.t x)).bind (ldD T σ t)
def resL (T : List (Nat × TI)) (σ : List (Key × D)) : List ResultVar → Option (List D)
  | [] => some []
  | r :: l => match resV T σ r with
    | some d => (resL T σ l).map (d :: ·)
    | none => none
def resD (T : List (Nat × TI)) (σ : List (Key × D)) (rs : List ResultVar) : Option D := match resL T σ rs with
  | some [d] => some d
  | some ds => some (.tu ds)
  | none => none
def rnames (R : List (Key × D)) : List Nat := R.filterMap fun p => match p.1 with | .c k _ => some k | .o k => some k | _ => none
def inN (R : List (Key × D)) : Nat → Bool := fun k => (rnames R).contains k
def noR : Nat → Bool := fun _ => false
def RetOk (T : List (Nat × TI)) (rs : List ResultVar) (V : D) (W : List (Key × D)) : Exit → List (Key × D) → Nat → Prop := fun e σ _ =>
  (e = .normal ∨ e = .ret) ∧ (∃ V', resD T σ rs = some V' ∧ VLe V' V) ∧ ∀ p ∈ W, get σ p.1 = some p.2 ∨ ∃ d, get σ p.1 = some d ∧ VLe d p.2 ∧ (match p.1 with | .c _ _ => True | _ => False)
def argsT : Nat → List D → List (Key × D) → List (Key × D)
  | _, [], R => R
  | i, d :: l, R => (.t i, d) :: argsT (i + 1) l R
def wordsOk (args : List D) (R W : List (Key × D)) (V : D) (N0 : Nat) : Bool :=
  args.all (fun d => d.ok (inN R) noR) && R.all (fun p => p.2.ok (inN R) noR && ckey p.1) && W.all (fun p => p.2.ok (inN R) noR && (match p.1 with | .c k _ => inN R k | .o k => inN R k | .j => R.any fun p => isJ p.1 | _ => false)) && V.ok (inN R) noR && (rnames R).all fun k => decide (k < N0)

section
variable {P : Program} {T : List (Nat × TI)} {cx : Cx} {Fr Fr' : Nat → Prop} {m m' : Mp} {Im Im' : Nat → Nat → Prop} {w w' : World} {a : Act} {σ σ' τ : List (Key × D)} {N N' : Nat}
theorem resV_run (hT : TabOk P T) (h : St cx Fr m Im w a σ) {r : ResultVar} {d : D} (hd : resV T σ r = some d) : ∃ v, (match r with | .tmp t => pure (a.tmps.getD t undef) | .cell x t => do loadVar t (← asAddr (a.tmps.getD x undef)) : Sem Value).run P w = .ok v w ∧ Rel m Im w v d := by
  cases r with
  | tmp t => exact ⟨_, by simp, h.tm t d hd⟩
  | cell x t =>
    obtain ⟨e, h1, h2⟩ := bind_some hd
    have hx := h.tm x e h1
    obtain ⟨v, r1, r2⟩ := ldD_run (P := P) hT h hx h2
    refine ⟨v, ?_, r2⟩
    unfold ldD at h2
    split at h2
    · cases h2
    · split at h2
      · obtain ⟨b, hb, ex⟩ := rel_p hx
        show (do loadVar t (← asAddr (a.tmps.getD x undef)) : Sem Value).run P w = _
        rw [ex] at r1 ⊢
        simpa [Instr.loadAt, Instr.sureAddr, asAddr] using r1
      · obtain ⟨b, o, ex, _⟩ := rel_q (bl := 0) (off := 0) hx
        show (do loadVar t (← asAddr (a.tmps.getD x undef)) : Sem Value).run P w = _
        rw [ex] at r1 ⊢
        simpa [Instr.loadAt, Instr.sureAddr, asAddr] using r1
      · show (do loadVar t (← asAddr (a.tmps.getD x undef)) : Sem Value).run P w = _
        generalize a.tmps.getD x undef = xv at hx r1 ⊢
        cases hx with
        | pr _ _ _ _ _ b hh => simpa [Instr.loadAt, Instr.sureAddr, asAddr] using r1
      · cases h2
theorem resL_run (hT : TabOk P T) (h : St cx Fr m Im w a σ) : ∀ {rs : List ResultVar} {ds : List D}, resL T σ rs = some ds → ∃ vs : List Value, (rs.mapM (fun (r : ResultVar) => (match r with | .tmp t => pure (a.tmps.getD t undef) | .cell x t => do loadVar t (← asAddr (a.tmps.getD x undef)) : Sem Value))).run P w = .ok vs w ∧ RelL m Im w vs ds
  | [], ds, hd => by cases hd; exact ⟨[], by simp, trivial⟩
  | r :: rs, ds, hd => by
    simp only [resL] at hd
    cases hv : resV T σ r with
    | none => rw [hv] at hd; cases hd
    | some d =>
      rw [hv] at hd
      cases hl : resL T σ rs with
      | none => rw [hl] at hd; cases hd
      | some ds' =>
        rw [hl] at hd
        cases hd
        obtain ⟨v, r1, r2⟩ := resV_run hT h hv
        obtain ⟨vs, q1, q2⟩ := resL_run hT h hl
        exact ⟨v :: vs, by simp only [List.mapM_cons, Sem.run_bind, r1, Result.andThen_ok, q1, Sem.run_pure], r2, q2⟩
theorem resD_run (hT : TabOk P T) (h : St cx Fr m Im w a σ) {fn : Func} {d : D} (hd : resD T σ fn.results.toList = some d) : ∃ v, (results fn a.tmps).run P w = .ok v w ∧ Rel m Im w v d := by
  unfold resD at hd
  have hrun : ∀ vs : List Value, (fn.results.toList.mapM (fun (r : ResultVar) => (match r with | .tmp t => pure (a.tmps.getD t undef) | .cell x t => do loadVar t (← asAddr (a.tmps.getD x undef)) : Sem Value))).run P w = .ok vs w →
      (results fn a.tmps).run P w = .ok (if h : vs.length = 1 then vs[0] else .tuple vs.toArray) w := fun vs hv => by
    unfold results
    rw [Array.mapM_eq_mapM_toList]
    simp only [Sem.run_bind, map_eq_pure_bind, bind_assoc]
    erw [hv]
    simp
  split at hd
  · rename_i d' hl
    cases hd
    obtain ⟨vs, q1, q2⟩ := resL_run hT h hl
    cases vs with
    | nil => exact q2.elim
    | cons v vs =>
      cases vs with
      | nil => exact ⟨v, by simpa using hrun _ q1, q2.1⟩
      | cons _ _ => exact q2.2.elim
  · rename_i ds hne hl
    cases hd
    obtain ⟨vs, q1, q2⟩ := resL_run hT h hl
    have hlen := (relL_iff.1 q2).1
    have : ¬ vs.length = 1 := fun e => by
      rw [e] at hlen
      match ds, hlen with
      | [d], _ => exact hne d rfl
    exact ⟨_, by simpa [this] using hrun _ q1, rel_tu.2 ⟨vs, rfl, q2⟩⟩
  · cases hd

theorem get_argsT {R : List (Key × D)} : ∀ (ds : List D) (i x : Nat) {d : D}, get (argsT i ds R) (.t x) = some d → (∃ j, x = i + j ∧ ds[j]? = some d) ∨ get R (.t x) = some d
  | [], i, x, d, h => .inr h
  | e :: ds, i, x, d, h => by
    simp only [argsT, get] at h
    split at h
    · rename_i he
      have := Key.eq_iff.1 he; cases this
      cases h
      exact .inl ⟨0, rfl, rfl⟩
    · rcases get_argsT ds (i + 1) x h with ⟨j, h1, h2⟩ | h
      · exact .inl ⟨j + 1, by omega, by simpa using h2⟩
      · exact .inr h
theorem get_argsN {R : List (Key × D)} {k : Key} (hk : ∀ x, k ≠ .t x) : ∀ (ds : List D) (i : Nat), get (argsT i ds R) k = get R k
  | [], i => rfl
  | e :: ds, i => by
    simp only [argsT, get]
    rw [if_neg (by rw [Key.eq_iff]; exact fun e => hk i e.symm)]
    exact get_argsN hk ds (i + 1)
theorem mem_rnames {R : List (Key × D)} {k off : Nat} {d : D} (h : (Key.c k off, d) ∈ R) : inN R k = true := by
  unfold inN
  rw [List.contains_iff_mem]
  exact List.mem_filterMap.2 ⟨_, h, rfl⟩
theorem mem_rnamesO {R : List (Key × D)} {k : Nat} {d : D} (h : (Key.o k, d) ∈ R) : inN R k = true := by
  unfold inN
  rw [List.contains_iff_mem]
  exact List.mem_filterMap.2 ⟨_, h, rfl⟩
theorem of_rnames {R : List (Key × D)} {k : Nat} (h : inN R k = true) : (∃ off d, (Key.c k off, d) ∈ R) ∨ ∃ d, (Key.o k, d) ∈ R := by
  unfold inN at h
  rw [List.contains_iff_mem] at h
  obtain ⟨p, hp, e⟩ := List.mem_filterMap.1 h
  obtain ⟨key, d⟩ := p
  cases key with
  | c k' off => simp at e; subst e; exact .inl ⟨off, d, hp⟩
  | o k' => simp at e; subst e; exact .inr ⟨d, hp⟩
  | _ => cases e

theorem call_of_dw {f : FuncId} {fn : Func} {c : Code} {args : List D} {R W : List (Key × D)} {V : D} (N0 nt : Nat) (rs : List ResultVar) (hT : TabOk P T) (hen : entersB P f = true) (hf : P.funcs[f]? = some fn) (hb : fn.body = some c) (hnt : fn.ntmps = nt) (hrs : fn.results.toList = rs)
    (hal : args.length ≤ nt) (hw : wordsOk args R W V N0 = true) (h : ∀ cx : Cx, cx.nt = nt → cx.n0 = N0 → DW P cx c (argsT 0 args R) N0 (RetOk T rs V W)) : CallC P f args R W V := by
  refine ⟨hen, fun cx Fr m Im w vs hmem hargs hR => ?_⟩
  simp only [wordsOk, Bool.and_eq_true, List.all_eq_true, decide_eq_true_eq] at hw
  obtain ⟨⟨⟨⟨w1, w2⟩, w3⟩, w4⟩, w5⟩ := hw
  have hin : ∀ k b, inN R k = true → m.blk k = some b → Tch m R b := fun k b hk hb => by
    rcases of_rnames hk with ⟨off, d, hm⟩ | ⟨d, hm⟩
    · exact .inl ⟨k, off, d, hm, hb⟩
    · obtain ⟨b', q1, _⟩ := hR _ hm
      have := hmem.dis k b hb
      rw [this] at q1; cases q1
  have hino : ∀ k b, inN R k = true → m.obj k = some b → Tch m R b := fun k b hk hb => by
    rcases of_rnames hk with ⟨off, d, hm⟩ | ⟨d, hm⟩
    · obtain ⟨b', v, q1, _⟩ := hR _ hm
      have := hmem.dis k b' q1
      rw [this] at hb; cases hb
    · exact .inr (.inr ⟨k, d, hm, hb⟩)
  have hlt : ∀ k, inN R k = true → k < N0 := fun k hk => w5 k (by unfold inN at hk; rwa [List.contains_iff_mem] at hk)
  have hX : ∀ X J, (Key.j, D.j X J) ∈ R → XOk cx m Im w X J := fun X J hm => by
    obtain ⟨X', J', e, hx⟩ := hR _ hm
    cases e; exact hx
  have hle := Mp.cut_le m (inN R) noR
  refine calls_of_wp hf hb ?_
  let cx' : Cx := { w0 := w, C := Tch m R, Im0 := Im, m0 := m.cut (inN R) noR, nt := nt, n0 := N0, h0 := fun k b hk => hlt k (Mp.cut_blk hk).1, h0o := fun k b hk => hlt k (Mp.cut_obj hk).1, h0r := fun g R hg => absurd (Mp.cut_row hg).1 (by simp [noR]) }
  have hvl : vs.length = args.length := (relL_iff.1 hargs).1
  have hst : St cx' (fun k => N0 ≤ k) (m.cut (inN R) noR) Im w { tmps := vs.toArray ++ Array.replicate (fn.ntmps - vs.toArray.size) undef, defers := [] } (argsT 0 args R) := by
    refine ⟨⟨Off.refl _ _, hmem.im, fun b o hi => .inl hi, fun b o hi => hi, fun k b hk => ?_, fun k b hk => hmem.lt k b (Mp.cut_blk hk).2, fun k b o hk => hmem.free k b o (Mp.cut_blk hk).2, fun k b o hk => hmem.nim k b o (Mp.cut_blk hk).2, fun k k' b hk hk' => hmem.inj k k' b (Mp.cut_blk hk).2 (Mp.cut_blk hk').2,
        fun g R' hg => ?_, fun g R' b o hg => ?_, fun g R' b k hg => ?_, fun g g' R' R'' b hg => ?_, fun k hk => ⟨?_, ?_, ?_⟩, fun k b hk => hk, fun k b hk => hk, fun k b hk => .inl (hino k b (Mp.cut_obj hk).1 (Mp.cut_obj hk).2), fun k b hk => hmem.olt k b (Mp.cut_obj hk).2, fun k b o hk => hmem.onim k b o (Mp.cut_obj hk).2, fun k k' b hk hk' => hmem.oinj k k' b (Mp.cut_obj hk).2 (Mp.cut_obj hk').2, fun k k' b hk hk' => hmem.oblk k k' b (Mp.cut_obj hk).2 (Mp.cut_blk hk').2, fun k g R' b hk hg => absurd (Mp.cut_row hg).1 (by simp [noR]), fun k b hk => ?_, KeepI.refl _ _, fun g R b hg => absurd (Mp.cut_row hg).1 (by simp [noR]), fun g R hg => absurd (Mp.cut_row hg).1 (by simp [noR])⟩, rfl, ?_, fun x d hx => ?_, fun k off d hx => ?_, fun g d hx => ?_, fun d hx => ?_, fun k d hx => ?_⟩
    · obtain ⟨h1, h2⟩ := Mp.cut_blk hk
      exact .inl (hin k b h1 h2)
    · exact absurd (Mp.cut_row hg).1 (by simp [noR])
    · exact absurd (Mp.cut_row hg).1 (by simp [noR])
    · exact absurd (Mp.cut_row hg).1 (by simp [noR])
    · exact absurd (Mp.cut_row hg).1 (by simp [noR])
    · by_cases hk2 : inN R k = true
      · have := hlt k hk2; omega
      · simp [Mp.cut, hk2]
    · simp [Mp.cut, noR]
    · by_cases hk2 : inN R k = true
      · have := hlt k hk2; omega
      · simp [Mp.cut, hk2]
    · have := hmem.dis k b (Mp.cut_blk hk).2
      show (if _ then m.obj k else none) = none
      rw [this]; simp
    · simp [cx', hvl, hnt]; omega
    · rcases get_argsT args 0 x hx with ⟨j, h1, h2⟩ | hx
      · have hj : j < args.length := by
          rcases Nat.lt_or_ge j args.length with h' | h'
          · exact h'
          · rw [List.getElem?_eq_none h'] at h2; cases h2
        rw [List.getElem?_eq_getElem hj] at h2
        cases h2
        have hr := (relL_iff.1 hargs).2 j hj
        have hx' : x = j := by omega
        subst hx'
        have : (vs.toArray ++ Array.replicate (fn.ntmps - vs.toArray.size) undef).getD x undef = vs.getD x undef := by
          have hx2 : x < vs.length := by omega
          rw [Array.getD_eq_getD_getElem?, Array.getElem?_append_left (by simpa using hx2), List.getD_eq_getElem?_getD]
          simp
        show Rel _ _ _ ((vs.toArray ++ Array.replicate (fn.ntmps - vs.toArray.size) undef).getD x undef) _
        rw [this]
        exact hr.cut (w1 _ (List.getElem_mem hj))
      · have := (w2 _ (mem_of_get hx)).2
        cases this
    · rw [get_argsN (fun x => by simp) args 0] at hx
      have hm := mem_of_get hx
      obtain ⟨b, v, q1, q2, q3⟩ := hR _ hm
      exact ⟨b, v, by simp only [Mp.cut, mem_rnames hm, if_true]; exact q1, q2, q3.cut (w2 _ hm).1⟩
    · rw [get_argsN (fun x => by simp) args 0] at hx
      have := (w2 _ (mem_of_get hx)).2
      cases this
    · rw [get_argsN (fun x => by simp) args 0] at hx
      have hm := mem_of_get hx
      obtain ⟨X, J, e, hx⟩ := hR _ hm
      refine ⟨X, J, e, { hx with own := fun b hb => .inl (.inr (.inl ⟨X, J, e ▸ hm, hb⟩)), blk := fun b k hb hk => hx.blk b k hb (Mp.cut_blk hk).2, row := fun b g R' hb hg => hx.row b g R' hb (Mp.cut_row hg).2, obj := fun b k hb hk => hx.obj b k hb (Mp.cut_obj hk).2 }⟩
    · rw [get_argsN (fun x => by simp) args 0] at hx
      have hm := mem_of_get hx
      obtain ⟨b, q1, q2⟩ := hR _ hm
      exact ⟨b, by simp only [Mp.cut, mem_rnamesO hm, if_true]; exact q1, q2.cut (w2 _ hm).1⟩
  have hwp := h cx' rfl rfl _ Im w _ hst
  refine Code.wp_mono (fun e a' w' ⟨σ', N', m', Im', ⟨hq1, ⟨V', hq2, hq3⟩, hq4⟩, hs⟩ => ?_) hwp
  obtain ⟨v, r1, r2⟩ := resD_run (P := P) (fn := fn) hT hs (by rw [hrs]; exact hq2)
  have hm' : ∀ k b, inN R k = true → m'.blk k = some b → m.blk k = some b := fun k b hk hb => by
    rcases of_rnames hk with ⟨off, d, hm⟩ | ⟨d, hm⟩
    · obtain ⟨b', _, q1, _⟩ := hR _ hm
      have := hs.mem.m0 k b' (by show (m.cut (inN R) noR).blk k = some b'; simp [Mp.cut, hk, q1])
      rw [this] at hb; cases hb; exact q1
    · obtain ⟨b', q1, _⟩ := hR _ hm
      have := hs.mem.m0o k b' (by show (m.cut (inN R) noR).obj k = some b'; simp [Mp.cut, hk, q1])
      rw [hs.mem.dis k b hb] at this; cases this
  have hmo' : ∀ k b, inN R k = true → m'.obj k = some b → m.obj k = some b := fun k b hk hb => by
    rcases of_rnames hk with ⟨off, d, hm⟩ | ⟨d, hm⟩
    · obtain ⟨b', _, q1, _⟩ := hR _ hm
      have := hs.mem.m0 k b' (by show (m.cut (inN R) noR).blk k = some b'; simp [Mp.cut, hk, q1])
      rw [hs.mem.dis k b' this] at hb; cases hb
    · obtain ⟨b', q1, _⟩ := hR _ hm
      have := hs.mem.m0o k b' (by show (m.cut (inN R) noR).obj k = some b'; simp [Mp.cut, hk, q1])
      rw [this] at hb; cases hb; exact q1
  have hcutle : (m'.cut (inN R) noR).le m := ⟨fun k b hk => hm' k b (Mp.cut_blk hk).1 (Mp.cut_blk hk).2, fun g R' hg => absurd (Mp.cut_row hg).1 (by simp [noR]), fun k b hk => hmo' k b (Mp.cut_obj hk).1 (Mp.cut_obj hk).2⟩
  have hrel : ∀ {x d}, Rel m' Im' w' x d → d.ok (inN R) noR = true → Rel m Im' w' x d := fun hx hd => (hx.cut hd).mono hcutle (KeepI.refl _ _) fun _ _ h => h
  have hV : Rel m Im' w' v V := by
    exact hrel (hq3 _ _ _ _ r2) w4
  have hnT : ∀ k b, m.blk k = some b → inN R k = false → ¬ Tch m R b := fun k b hk hn ht => by
    rcases ht with ⟨k', off, d, hm, hb⟩ | ⟨X, J, hm, hb⟩ | ⟨k', d, hm, hb⟩
    · have := hmem.inj k k' b hk hb
      subst this
      rw [mem_rnames hm] at hn; cases hn
    · exact (hX X J hm).blk b k hb hk
    · exact hmem.oblk k' k b hb hk
  have hfin : ∃ v' Im'', Ending.returned v = .returned v' ∧ Off (Tch m R) w w' ∧ (∀ b o, Im b o → Im'' b o) ∧ (∀ b o, Im'' b o → Im b o ∨ w.heap.size ≤ b) ∧ (∀ b o, Im'' b o → ∃ v, w'.cell? ⟨b, o, none⟩ = some v) ∧
      (∀ k b o, m.blk k = some b → w'.frozen? ⟨b, o, none⟩ = false) ∧ Rel m Im'' w' v' V ∧ Holds cx m Im'' w' W := by
    refine ⟨v, Im', rfl, hs.mem.off, fun b o hi => hs.mem.im0 b o hi, fun b o hi => (hs.mem.imb b o hi).imp id fun h => h.elim id fun h => h.elim, hs.mem.im, fun k b o hk => ?_, hV, fun p hp => ?_⟩
    · by_cases hn : inN R k = true
      · have := hs.mem.m0 k b (by show (m.cut (inN R) noR).blk k = some b; simp [Mp.cut, hn, hk])
        exact hs.mem.free k b o this
      · have hn : inN R k = false := by simpa using hn
        exact (World.frozen?_of_block (a := ⟨b, o, none⟩) (hs.mem.off.block b (hmem.lt k b hk) (hnT k b hk hn))).trans (hmem.free k b o hk)
    · have hok := w3 p hp
      have hg := hq4 p hp
      obtain ⟨key, d⟩ := p
      cases key with
      | c k off =>
        have hk : inN R k = true := hok.2
        rcases hg with hg | ⟨d', hg, e, _⟩
        · obtain ⟨b, x, q1, q2, q3⟩ := hs.ce k off d hg
          exact ⟨b, x, hm' k b hk q1, q2, hrel q3 hok.1⟩
        · obtain ⟨b, x, q1, q2, q3⟩ := hs.ce k off d' hg
          exact ⟨b, x, hm' k b hk q1, q2, hrel (e _ _ _ _ q3) hok.1⟩
      | o k =>
        have hk : inN R k = true := hok.2
        rcases hg with hg | ⟨d', hg, e, hf⟩
        · obtain ⟨b, q1, q2⟩ := hs.ok k d hg
          exact ⟨b, hmo' k b hk q1, (q2.cut hok.1).mono rfl hcutle (KeepI.refl _ _) fun _ _ h => h⟩
        · exact hf.elim
      | j =>
        rcases hg with hg | ⟨d', hg, e, hf⟩
        · obtain ⟨X, J, e, hx⟩ := hs.jk d hg
          have hold : ∀ b, X b → b < w.heap.size → ∃ X0 J0, (Key.j, D.j X0 J0) ∈ R ∧ X0 b := fun b hb hlt => by
            rcases hx.own b hb with hc | hc
            · rcases hc with ⟨k', off, d', hm, hb'⟩ | hc | ⟨k', d', hm, hb'⟩
              · have hk := mem_rnames hm
                have := hs.mem.m0 k' b (by show (m.cut (inN R) noR).blk k' = some b; simp [Mp.cut, hk, hb'])
                exact absurd this (hx.blk b k' hb)
              · exact hc
              · have hk := mem_rnamesO hm
                have := hs.mem.m0o k' b (by show (m.cut (inN R) noR).obj k' = some b; simp [Mp.cut, hk, hb'])
                exact absurd this (hx.obj b k' hb)
            · exact absurd hc (Nat.not_le.2 hlt)
          refine ⟨X, J, e, { hx with own := fun b hb => ?_, blk := fun b k hb hk => ?_, row := fun b g R' hb hg e2 => ?_, obj := fun b k hb hk => ?_ }⟩
          · by_cases hlt : b < w.heap.size
            · obtain ⟨X0, J0, hm, hb0⟩ := hold b hb hlt
              exact (hX X0 J0 hm).own b hb0
            · exact .inr (Nat.le_trans hmem.off.size (Nat.le_of_not_lt hlt))
          · obtain ⟨X0, J0, hm, hb0⟩ := hold b hb (hmem.lt k b hk)
            exact (hX X0 J0 hm).blk b k hb0 hk
          · obtain ⟨xs, hxs⟩ := hmem.row g R' hg
            obtain ⟨X0, J0, hm, hb0⟩ := hold b hb (row_lt hxs e2).2
            exact (hX X0 J0 hm).row b g R' hb0 hg e2
          · obtain ⟨X0, J0, hm, hb0⟩ := hold b hb (hmem.olt k b hk)
            exact (hX X0 J0 hm).obj b k hb0 hk
        · exact hf.elim
      | t x => cases hok.2
      | r g => cases hok.2
  rcases hq1 with rfl | rfl
  · exact ⟨hs.df, v, r1, hfin⟩
  · exact ⟨hs.df, v, r1, hfin⟩
end
end Go.Proofs.Ytcblpjheoclkeaa

namespace Go.Proofs.Ytcblpjheoclkeaa
open Go.RowKit

mutual
def eTy : Ty → List D
  | .mk a b => [.sl 2 (eTys a) none, .v (.int .i64 b)]
def eTys : List Ty → List (List D)
  | [] => []
  | t :: l => eTy t :: eTys l
end
mutual
def eTm : Tm → List D
  | .mk bs k i a => [.sl 2 (eTys bs) none, .v (.int .i64 k), .v (.int .i64 i), .sl 4 (eTms a) none]
def eTms : List Tm → List (List D)
  | [] => []
  | t :: l => eTm t :: eTms l
end
theorem eTys_map (l : List Ty) : eTys l = l.map eTy := by
  induction l with
  | nil => rfl
  | cons t l ih => rw [eTys, ih]; rfl
theorem eTms_map (l : List Tm) : eTms l = l.map eTm := by
  induction l with
  | nil => rfl
  | cons t l ih => rw [eTms, ih]; rfl
theorem eTy_eq (t : Ty) : eTy t = [.sl 2 (eTys t.args) none, .v (.int .i64 t.base)] := by cases t; rfl
theorem eTm_eq (t : Tm) : eTm t = [.sl 2 (eTys t.binds) none, .v (.int .i64 t.kind), .v (.int .i64 t.index), .sl 4 (eTms t.args) none] := by cases t; rfl
theorem eTy_len (t : Ty) : (eTy t).length = 2 := by cases t; rfl
theorem eTm_len (t : Tm) : (eTm t).length = 4 := by cases t; rfl
theorem eTys_len (l : List Ty) : (eTys l).length = l.length := by rw [eTys_map, List.length_map]
theorem eTms_len (l : List Tm) : (eTms l).length = l.length := by rw [eTms_map, List.length_map]
theorem eTys_getD (l : List Ty) (i : Nat) (h : i < l.length) : (eTys l).getD i [] = eTy l[i] := by
  rw [eTys_map, List.getD_eq_getElem?_getD, List.getElem?_map, List.getElem?_eq_getElem h]; rfl
theorem eTms_getD (l : List Tm) (i : Nat) (h : i < l.length) : (eTms l).getD i [] = eTm l[i] := by
  rw [eTms_map, List.getD_eq_getElem?_getD, List.getElem?_map, List.getElem?_eq_getElem h]; rfl
theorem eTys_append (l r : List Ty) : eTys (l ++ r) = eTys l ++ eTys r := by simp [eTys_map]
theorem eTms_append (l r : List Tm) : eTms (l ++ r) = eTms l ++ eTms r := by simp [eTms_map]
section
variable (f g : Nat → Bool)
@[simp] theorem eTy_ok (t : Ty) : D.oks f g (eTy t) = true := by
  induction t using Ty.ind with
  | h a b ih =>
    rw [eTy_eq]
    simp only [D.oks, D.ok, Bool.and_true, eTys_map, Ty.args]
    exact D.okss_map _ _ ih
@[simp] theorem eTys_ok (l : List Ty) : D.okss f g (eTys l) = true := by rw [eTys_map]; exact D.okss_map _ _ fun t _ => eTy_ok f g t
@[simp] theorem eTm_ok (t : Tm) : D.oks f g (eTm t) = true := by
  induction t using Tm.ind with
  | h bs k i a ih =>
    rw [eTm_eq]
    simp only [D.oks, D.ok, Bool.and_true, Tm.args, Bool.and_eq_true]
    exact ⟨eTys_ok f g _, trivial, trivial, by rw [eTms_map]; exact D.okss_map _ _ ih⟩
@[simp] theorem eTms_ok (l : List Tm) : D.okss f g (eTms l) = true := by rw [eTms_map]; exact D.okss_map _ _ fun t _ => eTm_ok f g t
end

section
variable {m : Mp} {Im : Nat → Nat → Prop} {w w' : World}
def blkI (Im : Nat → Nat → Prop) : Nat → Prop := fun b => ∃ o, Im b o
theorem sl_of_rel {α : Type} {r : Rp α} {e : α → List D} (hlen : ∀ a, (e a).length = r.n) (hr : ∀ (x : List Value) (a : α), RelL m Im w x (e a) → (∀ u ∈ x, u.oneCell' = true) → r.R (blkI Im) w x a) {v : Value} {l : List α} (hn : 0 < r.n) (h : Rel m Im w v (.sl r.n (l.map e) none)) : IsSl r (blkI Im) w v l := by
  obtain ⟨a, c, bl, off, X, rfl, h1, ha, hc, hn2, ho, hr2, _⟩ := rel_sl h
  rw [List.length_map] at h1 ha hc ho ⊢
  refine ⟨a, c, bl, off, fun i => (List.range r.n).map (X i), rfl, h1, fun h0 => ⟨ha h0, ?_⟩, fun i j u hi hu => ?_, fun i hi => ?_⟩
  · exact ⟨_, (hc 0 0 h0 hn).2⟩
  · rw [List.getElem?_map] at hu
    by_cases hj : j < r.n
    · rw [List.getElem?_range hj] at hu
      cases hu
      exact (hc i j hi hj).1
    · rw [List.getElem?_eq_none (by simpa using hj)] at hu; cases hu
  · refine hr _ _ (relL_iff.2 ⟨by simp [hlen], fun j hj => ?_⟩) fun u hu => ?_
    · have hi' : i < (l.map e).length := by simpa using hi
      have hj' : j < (l.map e)[i].length := by simpa using hj
      have := hr2 i hi' j hj'
      have hjn : j < r.n := by rw [← hlen l[i]]; exact hj
      simpa [List.getD_eq_getElem?_getD, List.getElem?_map, List.getElem?_range hjn] using this
    · obtain ⟨j, hj, rfl⟩ := List.mem_map.1 hu
      exact ho i j hi (List.mem_range.1 hj)
theorem rel_of_sl {α : Type} {r : Rp α} {e : α → List D} {F : Nat → Prop} (hIm : ∀ b o v, F b → w.cell? ⟨b, o, none⟩ = some v → Im b o) (hlen : ∀ a, (e a).length = r.n) (hr : ∀ (x : List Value) (a : α), r.R F w x a → RelL m Im w x (e a)) {v : Value} {l : List α} (h : IsSl r F w v l) : Rel m Im w v (.sl r.n (l.map e) none) := by
  obtain ⟨a, c, bl, off, X, rfl, h1, ha, h2, h3⟩ := h
  have hx : ∀ i (hi : i < l.length), (X i).length = r.n := fun i hi => r.len (h3 i hi)
  have key : Rel m Im w (.slice a (l.map e).length c) (.sl r.n (l.map e) none) := by
    refine .sl a c bl off r.n (fun i j => (X i).getD j undef) (l.map e) none (by simpa using h1) (fun h0 => (ha (by simpa using h0)).1) (fun i j hi hj => ?_) (fun i hi => by simp [hlen]) (fun i j hi hj => ?_) (fun i hi j hj => ?_) (fun r e => by cases e)
    · have hi' : i < l.length := by simpa using hi
      have hj2 : j < (X i).length := by rw [hx i hi']; exact hj
      have := h2 i j _ hi' (List.getElem?_eq_getElem hj2)
      rw [List.getD_eq_getElem?_getD, List.getElem?_eq_getElem hj2]
      exact ⟨this, hIm _ _ _ (ha (by omega)).2 this⟩
    · have hi' : i < l.length := by simpa using hi
      have hj2 : j < (X i).length := by rw [hx i hi']; exact hj
      rw [List.getD_eq_getElem?_getD, List.getElem?_eq_getElem hj2]
      exact r.one (h3 i hi') _ (List.getElem_mem _)
    · have hi' : i < l.length := by simpa using hi
      have h4 := relL_iff.1 (hr _ _ (h3 i hi'))
      have hj' : j < (e l[i]).length := by simpa using hj
      have := h4.2 j hj'
      simpa using this
  simpa using key
theorem ty_of_rel : ∀ (t : Ty) {x : List Value}, RelL m Im w x (eTy t) → ∃ s b, x = [s, b] ∧ IsTy (blkI Im) w s b t := by
  intro t
  induction t using Ty.ind with
  | h a b ih =>
    intro x hx
    rw [eTy_eq] at hx
    match x, hx with
    | [s, b'], ⟨h1, h2, _⟩ =>
      have := rel_v.1 h2
      subst this
      refine ⟨s, _, rfl, isTy_mk ?_ _⟩
      have h1 : Rel m Im w s (.sl 2 (a.map eTy) none) := by rw [eTys_map] at h1; exact h1
      obtain ⟨ad, c, bl, off, X, rfl, g1, ha, hc, hn2, ho, hr2, _⟩ := rel_sl h1
      simp only [List.length_map, Ty.args] at g1 ha hc ho ⊢
      refine ⟨ad, c, bl, off, fun i => [X i 0, X i 1], rfl, g1, fun h0 => ⟨ha h0, ⟨_, (hc 0 0 h0 (by omega)).2⟩⟩, fun i j u hi hu => ?_, fun i hi => ?_⟩
      · match j with
        | 0 => cases hu; exact (hc i 0 hi (by omega)).1
        | 1 => cases hu; exact (hc i 1 hi (by omega)).1
        | j + 2 => simp at hu
      · have hi' : i < (a.map eTy).length := by simpa using hi
        have q : (a.map eTy)[i] = eTy a[i] := by simp
        have hl : (a.map eTy)[i].length = 2 := by rw [q]; exact eTy_len _
        have q0 := hr2 i hi' 0 (by omega)
        have q1 := hr2 i hi' 1 (by omega)
        refine ih a[i] (List.getElem_mem _) ?_
        rw [eTy_eq]
        simp only [q] at q0 q1
        have e0 : (eTy a[i])[0]'(by rw [eTy_len]; omega) = .sl 2 (eTys a[i].args) none := by simp [eTy_eq]
        have e1 : (eTy a[i])[1]'(by rw [eTy_len]; omega) = .v (.int .i64 a[i].base) := by simp [eTy_eq]
        rw [e0] at q0; rw [e1] at q1
        exact ⟨q0, q1, trivial⟩
theorem rel_of_ty {F : Nat → Prop} (hIm : ∀ b o v, F b → w.cell? ⟨b, o, none⟩ = some v → Im b o) : ∀ (t : Ty) {s b : Value}, IsTy F w s b t → RelL m Im w [s, b] (eTy t) := by
  intro t
  induction t using Ty.ind with
  | h a b ih =>
    intro s b' h
    obtain ⟨rfl, hs⟩ := h.inv
    rw [eTy_eq, eTys_map]
    refine ⟨?_, .v _, trivial⟩
    let r2 : Rp {t : Ty // t ∈ a} := { n := 2, R := fun F w x t => rpTy.R F w x t.1, len := fun h => rpTy.len h, one := fun h => rpTy.one h, keep := fun h => rpTy.keep h, weaken := fun h => rpTy.weaken h }
    have h2 : IsSl r2 F w s (a.attach) := by
      obtain ⟨ad, c, bl, off, X, rfl, g1, ha, g2, g3⟩ := hs
      refine ⟨ad, c, bl, off, X, by simp [Ty.args], by simpa [Ty.args] using g1, fun h0 => ha (by simpa [Ty.args] using h0), fun i j u hi hu => g2 i j u (by simpa [Ty.args] using hi) hu, fun i hi => ?_⟩
      have hi' : i < a.length := by simpa using hi
      have := g3 i hi'
      simpa [r2, Ty.args] using this
    have h3 := rel_of_sl (m := m) (Im := Im) (r := r2) (e := fun t => eTy t.1) hIm (fun t => eTy_len t.1) (fun x t hx => by
      obtain ⟨s, b, rfl, ht⟩ := hx
      exact ih t.1 t.2 ht) h2
    have e : (a.attach.map fun t => eTy t.1) = a.map eTy := by simp
    rw [e] at h3
    exact h3
theorem tm_of_rel : ∀ (t : Tm) {x : List Value}, RelL m Im w x (eTm t) → ∃ b k i a, x = [b, k, i, a] ∧ IsTm (blkI Im) w b k i a t := by
  intro t
  induction t using Tm.ind with
  | h bs k i a ih =>
    intro x hx
    rw [eTm_eq] at hx
    match x, hx with
    | [b', k', i', a'], ⟨h1, h2, h3, h4, _⟩ =>
      have := rel_v.1 h2
      subst this
      have := rel_v.1 h3
      subst this
      have hb : IsSl rpTy (blkI Im) w b' bs := sl_of_rel (r := rpTy) (e := eTy) eTy_len (fun x t hx _ => ty_of_rel t hx) (by decide) (by rw [eTys_map] at h1; exact h1)
      refine ⟨b', _, _, a', rfl, isTm_mk hb ?_ _ _⟩
      have h4 : Rel m Im w a' (.sl 4 (a.map eTm) none) := by rw [eTms_map] at h4; exact h4
      obtain ⟨ad, c, bl, off, X, rfl, g1, ha, hc, hn2, ho, hr2, _⟩ := rel_sl h4
      simp only [List.length_map, Tm.args] at g1 ha hc ho ⊢
      refine ⟨ad, c, bl, off, fun i => [X i 0, X i 1, X i 2, X i 3], rfl, g1, fun h0 => ⟨ha h0, ⟨_, (hc 0 0 h0 (by omega)).2⟩⟩, fun i j u hi hu => ?_, fun i hi => ?_⟩
      · match j with
        | 0 => cases hu; exact (hc i 0 hi (by omega)).1
        | 1 => cases hu; exact (hc i 1 hi (by omega)).1
        | 2 => cases hu; exact (hc i 2 hi (by omega)).1
        | 3 => cases hu; exact (hc i 3 hi (by omega)).1
        | j + 4 => simp at hu
      · have hi' : i < (a.map eTm).length := by simpa using hi
        have q : (a.map eTm)[i] = eTm a[i] := by simp
        have hl : (a.map eTm)[i].length = 4 := by rw [q]; exact eTm_len _
        have q0 := hr2 i hi' 0 (by omega)
        have q1 := hr2 i hi' 1 (by omega)
        have q2 := hr2 i hi' 2 (by omega)
        have q3 := hr2 i hi' 3 (by omega)
        refine ih a[i] (List.getElem_mem _) ?_
        rw [eTm_eq]
        simp only [q] at q0 q1 q2 q3
        have e0 : (eTm a[i])[0]'(by rw [eTm_len]; omega) = .sl 2 (eTys a[i].binds) none := by simp [eTm_eq]
        have e1 : (eTm a[i])[1]'(by rw [eTm_len]; omega) = .v (.int .i64 a[i].kind) := by simp [eTm_eq]
        have e2 : (eTm a[i])[2]'(by rw [eTm_len]; omega) = .v (.int .i64 a[i].index) := by simp [eTm_eq]
        have e3 : (eTm a[i])[3]'(by rw [eTm_len]; omega) = .sl 4 (eTms a[i].args) none := by simp [eTm_eq]
        rw [e0] at q0; rw [e1] at q1; rw [e2] at q2; rw [e3] at q3
        exact ⟨q0, q1, q2, q3, trivial⟩
theorem rel_of_tm {F : Nat → Prop} (hIm : ∀ b o v, F b → w.cell? ⟨b, o, none⟩ = some v → Im b o) : ∀ (t : Tm) {b k i a : Value}, IsTm F w b k i a t → RelL m Im w [b, k, i, a] (eTm t) := by
  intro t
  induction t using Tm.ind with
  | h bs k i a ih =>
    intro b' k' i' a' h
    obtain ⟨rfl, rfl, hb, hs⟩ := h.inv
    rw [eTm_eq, eTms_map, eTys_map]
    have h1 := rel_of_sl (m := m) (Im := Im) (r := rpTy) (e := eTy) hIm eTy_len (fun x t hx => by
      obtain ⟨s, b, rfl, ht⟩ := hx
      exact rel_of_ty hIm t ht) hb
    refine ⟨h1, .v _, .v _, ?_, trivial⟩
    let r2 : Rp {t : Tm // t ∈ a} := { n := 4, R := fun F w x t => rpTm.R F w x t.1, len := fun h => rpTm.len h, one := fun h => rpTm.one h, keep := fun h => rpTm.keep h, weaken := fun h => rpTm.weaken h }
    have h2 : IsSl r2 F w a' (a.attach) := by
      obtain ⟨ad, c, bl, off, X, rfl, g1, ha, g2, g3⟩ := hs
      refine ⟨ad, c, bl, off, X, by simp [Tm.args], by simpa [Tm.args] using g1, fun h0 => ha (by simpa [Tm.args] using h0), fun i j u hi hu => g2 i j u (by simpa [Tm.args] using hi) hu, fun i hi => ?_⟩
      have hi' : i < a.length := by simpa using hi
      have := g3 i hi'
      simpa [r2, Tm.args] using this
    have h3 := rel_of_sl (m := m) (Im := Im) (r := r2) (e := fun t => eTm t.1) hIm (fun t => eTm_len t.1) (fun x t hx => by
      obtain ⟨b, k, i, a, rfl, ht⟩ := hx
      exact ih t.1 t.2 ht) h2
    have e : (a.attach.map fun t => eTm t.1) = a.map eTm := by simp
    rw [e] at h3
    exact h3
end
end Go.Proofs.Ytcblpjheoclkeaa

namespace Go.Proofs.Ytcblpjheoclkeaa
open Go.RowKit

section
variable {P : Program} {T : List (Nat × TI)} {cx : Cx} {σ : List (Key × D)} {N : Nat} {Q : Exit → List (Key × D) → Nat → Prop} {nt N1 : Nat}
def dstOk (nt : Nat) (ops : Array Oper) : Bool := ops.all (fun o => match o.dst with | none => true | some d => decide (d < nt))
def notR : Key → Prop
  | .r _ => False
  | .j => False
  | .o _ => False
  | _ => True
def kV (N' : Nat) (σ : List (Key × D)) : List (Key × D) → Prop
  | [] => True
  | (k, d) :: r => ((d.ok (upto N') (upto N') && keyOk N' k) = true ∧ (get σ k = some d ∨ ∃ d', get σ k = some d' ∧ VLe d' d ∧ notR k)) ∧ kV N' σ r
theorem kV_all {N' : Nat} {σ : List (Key × D)} : ∀ {τ : List (Key × D)}, kV N' σ τ → ∀ p ∈ τ, (p.2.ok (upto N') (upto N') && keyOk N' p.1) = true ∧ (get σ p.1 = some p.2 ∨ ∃ d', get σ p.1 = some d' ∧ VLe d' p.2 ∧ notR p.1)
  | [], _, p, hp => by cases hp
  | (k, d) :: r, h, p, hp => by
    rcases List.mem_cons.1 hp with rfl | hp
    · exact h.1
    · exact kV_all h.2 p hp
theorem VS.toK {cx : Cx} {σ τ : List (Key × D)} {N N' : Nat} (hN : cx.n0 ≤ N') (h : kV N' σ τ) : VS cx σ N τ N' :=
  VS.to hN (List.all_eq_true.2 fun p hp => (kV_all h p hp).1) fun p hp => by
    rcases (kV_all h p hp).2 with h1 | ⟨d', h1, h2, h3⟩
    · exact .inl h1
    · refine .inr ⟨d', h1, h2, ?_⟩
      obtain ⟨k, d⟩ := p
      cases k <;> first | trivial | exact h3
def cutQ (cx : Cx) (τ : List (Key × D)) (N1 : Nat) : Exit → List (Key × D) → Nat → Prop
  | .normal, σ, N => VS cx σ N τ N1
  | _, _, _ => False
theorem cut_ok {τ : List (Key × D)} {N1 : Nat} (h : VS cx σ N τ N1) : cutQ cx τ N1 .normal σ N := h
theorem dw_cut {x y : Code} {τ : List (Key × D)} {N1 : Nat} (h : DW P cx x σ N (cutQ cx τ N1)) (h2 : DW P cx y τ N1 Q) : DW P cx (.seq x y) σ N Q :=
 dw_seq (h.mono fun e σ' N' hh => by
  cases e with
  | normal => exact h2.vs hh
  | _ => exact hh.elim)
def cutE {ι : Type} (cx : Cx) (τ : ι → List (Key × D)) (N1 : Nat) (Q : Exit → List (Key × D) → Nat → Prop) : Exit → List (Key × D) → Nat → Prop
  | .normal, σ, N => ∃ i, VS cx σ N (τ i) N1
  | e, σ, N => Q e σ N
theorem cutE_ok {ι : Type} {τ : ι → List (Key × D)} {N1 : Nat} (i : ι) (h : VS cx σ N (τ i) N1) : cutE cx τ N1 Q .normal σ N := ⟨i, h⟩
theorem dw_cutE {ι : Type} {x y : Code} (τ : ι → List (Key × D)) (N1 : Nat) (h : DW P cx x σ N (cutE cx τ N1 Q)) (h2 : ∀ i, DW P cx y (τ i) N1 Q) : DW P cx (.seq x y) σ N Q :=
 dw_seq (h.mono fun e σ' N' hh => by
  cases e with
  | normal => obtain ⟨i, hv⟩ := hh; exact (h2 i).vs hv
  | _ => exact hh)
end
end Go.Proofs.Ytcblpjheoclkeaa

namespace Go.Proofs.Ytcblpjheoclkeaa
open Go.RowKit

abbrev Env := List (Key × D)
def kget (σ : Env) (k : Key) (c : D → Prop) : Prop := match get σ k with
  | some d => c d
  | none => False
def kev (σ : Env) (x : Operand) (c : D → Prop) : Prop := match x with
  | .tmp t => kget σ (.t t) c
  | .const v => c (.v v)
  | .func f => c (.fn f [])
  | .global _ => False
def kevs (σ : Env) : List Operand → (List D → Prop) → Prop
  | [], c => c []
  | x :: r, c => kev σ x fun d => kevs σ r fun l => c (d :: l)
def kcells (σ : Env) (k : Nat) : Nat → Nat → (List D → Prop) → Prop
  | _, 0, c => c []
  | o, n + 1, c => kget σ (.c k o) fun d => kcells σ k (o + 1) n fun l => c (d :: l)
def ktake : Nat → List D → (List D → Prop) → Prop
  | 0, _, c => c []
  | n + 1, d :: l, c => ktake n l fun r => c (d :: r)
  | _ + 1, [], _ => False
def kdrop : Nat → List D → (List D → Prop) → Prop
  | 0, l, c => c l
  | n + 1, _ :: l, c => kdrop n l c
  | _ + 1, [], _ => False
def kT (T : List (Nat × TI)) (t : Nat) (c : TI → Prop) : Prop := match tget T t with
  | some ti => c ti
  | none => False
def kOf (ti : TI) (l : List D) (c : D → Prop) : Prop := match ti.ag with
  | true => (match Nat.beq l.length ti.sz with | true => c (.ag l) | false => False)
  | false => (match l with | [d] => c d | _ => False)
def kOfP (ti : TI) (r : List D) (j n : Nat) (c : D → Prop) : Prop := match ti.ag with
  | true => (match Nat.beq j 0 && Nat.beq ti.sz n with | true => c (.ag r) | false => c (.ag ((r.drop j).take ti.sz)))
  | false => (match Nat.beq ti.sz 1 with | true => c (r.getD j (.v undef)) | false => False)
def kld (T : List (Nat × TI)) (σ : Env) (t : Nat) (x : D) (c : D → Prop) : Prop := kT T t fun ti => match x with
  | .p k o => kcells σ k o ti.sz fun l => kOf ti l c
  | .q l => ktake ti.sz l fun l => kOf ti l c
  | .pr g len n i j => kget σ (.r g) fun d => (match d with
    | .rp _ n' l => (match Nat.beq n' n && Nat.ble (j + ti.sz) n with
      | true => (l.length = len ∧ i < len ∧ (l.getD i []).length = n) ∧ kOfP ti (l.getD i []) j n c
      | false => False)
    | _ => False)
  | _ => False
def kfield (T : List (Nat × TI)) (t : Nat) (x : D) (f : Nat) (c : D → Prop) : Prop := kT T t fun ti => match x, ti.fs[f]? with
  | .ag l, some (off, sz, ag) => kdrop off l fun l => ktake sz l fun l => (match ag with | true => c (.ag l) | false => (match l with | [d] => c d | _ => False))
  | _, _ => False
def kfaddr (T : List (Nat × TI)) (t : Nat) (x : D) (f : Nat) (c : D → Prop) : Prop := kT T t fun ti => match x, ti.fs[f]? with
  | .p k o, some (off, _, _) => c (.p k (o + off))
  | .q l, some (off, _, _) => kdrop off l fun l => c (.q l)
  | .pr g len n i j, some (off, _, _) => c (.pr g len n i (j + off))
  | _, _ => False
def kiaddr (T : List (Nat × TI)) (t : Nat) (x y : D) (c : D → Prop) : Prop := kT T t fun ti => match ti.el with
  | none => False
  | some e => kT T e fun te => match x, y with
    | .sl n l _, .v (.int _ i) => (match Nat.beq te.sz n && Nat.ble 1 n with | true => (0 ≤ i ∧ i < (l.length : Int)) ∧ c (.q (l.getD i.toNat [])) | false => False)
    | .ps g len, .v (.int _ i) => (match Nat.ble 1 te.sz with | true => (0 ≤ i ∧ i < (len : Int)) ∧ c (.pr g len te.sz i.toNat 0) | false => False)
    | _, _ => False
def klen (T : List (Nat × TI)) (t : Nat) (x : D) (c : D → Prop) : Prop := kT T t fun ti => match x with
  | .sl _ l _ => (match Nat.beq ti.kd 5 with | true => c (.v (.int .i64 l.length)) | false => False)
  | .v (.slice _ n _) => (match Nat.beq ti.kd 5 with | true => c (.v (.int .i64 n)) | false => False)
  | .v (.string s) => (match Nat.beq ti.kd 3 with | true => c (.v (.int .i64 s.size)) | false => False)
  | .ps _ len => (match Nat.beq ti.kd 5 with | true => c (.v (.int .i64 len)) | false => False)
  | _ => False
def kevI (σ : Env) (x : Option Operand) (c : Option Int → Prop) : Prop := match x with
  | none => c none
  | some x => kev σ x fun d => (match d with | .v (.int .i64 i) => c (some i) | _ => False)
def kbnd (lo hi mx : Option Int) (n : Nat) (c : Prop) : Prop := match lo, hi, mx with
  | none, none, none => c
  | some l, none, none => (0 ≤ l ∧ l ≤ n) ∧ c
  | none, some h, none => (0 ≤ h ∧ h ≤ n) ∧ c
  | some l, some h, none => (0 ≤ l ∧ l ≤ h ∧ h ≤ n) ∧ c
  | none, some h, some m => (0 ≤ h ∧ h = m ∧ m ≤ n) ∧ c
  | some l, some h, some m => (0 ≤ l ∧ l ≤ h ∧ h = m ∧ m ≤ n) ∧ c
  | _, none, some _ => False
def ksl (T : List (Nat × TI)) (t : Nat) (x : D) (lo hi mx : Option Int) (c : D → Prop) : Prop := kT T t fun ti => match ti.el with
  | none => False
  | some E => kT T E fun te => match x with
    | .sl n l _ => (match Nat.beq te.sz n with
      | true => kbnd lo hi mx l.length (c (match mx with | none => .sl n ((l.take (hi.getD l.length).toNat).drop (lo.getD 0).toNat) none | some _ => .cl n ((l.take (hi.getD l.length).toNat).drop (lo.getD 0).toNat)))
      | false => False)
    | .v (.slice none 0 0) => kbnd lo hi mx 0 (c (.v (.slice none 0 0)))
    | .ps g len => (match lo, hi, mx with
      | some i, none, none => (match Nat.ble 1 te.sz with | true => (0 ≤ i ∧ i ≤ (len : Int)) ∧ c (.pt g len te.sz i.toNat) | false => False)
      | _, _, _ => False)
    | _ => False
def kdc (ti : TI) (d : D) (c : List D → Prop) : Prop := match dcells ti d with
  | some l => c l
  | none => False
def kapp : List D → List D → (List D → Prop) → Prop
  | [], r, c => c r
  | d :: l, r, c => kapp l r fun x => c (d :: x)
def kpartD (ti : TI) (f : Nat) (d : D) (c : Nat → Nat → List D → Prop) : Prop := match ti.fs[f]? with
  | none => False
  | some (off, sz, ag) => match ag with
    | true => (match d with | .ag ds => (match Nat.beq ds.length sz with | true => c off sz ds | false => False) | _ => False)
    | false => (match Nat.beq sz 1 && d.one with | true => c off sz [d] | false => False)
def kfill (ti : TI) : List D → List (Nat × Operand) → List D → (List D → Prop) → Prop
  | l, [], _, c => c l
  | _, _ :: _, [], _ => False
  | l, (f, _) :: ps, d :: ds, c => kpartD ti f d fun off sz vs => ktake off l fun l1 => kdrop (off + sz) l fun l2 => kapp vs l2 fun l3 => kapp l1 l3 fun l4 => kfill ti l4 ps ds c
def kzs : List Value → (List D → Prop) → Prop
  | [], c => c []
  | v :: l, c => kzs l fun r => c (.v v :: r)
def kbuild (T : List (Nat × TI)) (σ : Env) (t : Nat) (parts : List (Nat × Operand)) (c : D → Prop) : Prop := kT T t fun ti => match Nat.beq ti.kd 6 with
  | false => False
  | true => kevs σ (parts.map (·.2)) fun ds => kzs ti.z fun z => kfill ti z parts ds fun l => c (.ag l)
def kbin (T : List (Nat × TI)) (t : Nat) (op : BinOp) (x y : D) (c : D → Prop) : Prop := kT T t fun ti => match binD ti op x y with
  | some d => c d
  | none => False
def kopt {α : Type} (x : Option α) (c : α → Prop) : Prop := match x with
  | some d => c d
  | none => False
theorem kopt_some {α : Type} {x : Option α} {c : α → Prop} (h : kopt x c) : ∃ d, x = some d ∧ c d := by
  cases x with
  | none => exact h.elim
  | some d => exact ⟨d, rfl, h⟩

section sound
variable {σ : Env} {T : List (Nat × TI)}
theorem kget_some {k : Key} {c : D → Prop} (h : kget σ k c) : ∃ d, get σ k = some d ∧ c d := by
  unfold kget at h
  cases hg : get σ k with
  | none => rw [hg] at h; exact h.elim
  | some d => rw [hg] at h; exact ⟨d, rfl, h⟩
theorem kev_some {x : Operand} {c : D → Prop} (h : kev σ x c) : ∃ d, ev σ x = some d ∧ c d := by
  cases x with
  | tmp t => exact kget_some h
  | const v => exact ⟨_, rfl, h⟩
  | func f => exact ⟨_, rfl, h⟩
  | global g => exact h.elim
theorem kevs_some : ∀ {xs : List Operand} {c : List D → Prop}, kevs σ xs c → ∃ ds, evs σ xs = some ds ∧ c ds
  | [], c, h => ⟨[], rfl, h⟩
  | x :: xs, c, h => by
    obtain ⟨d, h1, h2⟩ := kev_some h
    obtain ⟨ds, h3, h4⟩ := kevs_some h2
    exact ⟨d :: ds, by simp [evs, h1, h3], h4⟩
theorem kcells_some {k : Nat} : ∀ {n o : Nat} {c : List D → Prop}, kcells σ k o n c → ∃ l, cellsAt σ k o n = some l ∧ c l
  | 0, _, c, h => ⟨[], rfl, h⟩
  | n + 1, o, c, h => by
    obtain ⟨d, h1, h2⟩ := kget_some h
    obtain ⟨l, h3, h4⟩ := kcells_some h2
    exact ⟨d :: l, by simp [cellsAt, h1, h3], h4⟩
theorem ktake_some : ∀ {n : Nat} {l : List D} {c : List D → Prop}, ktake n l c → n ≤ l.length ∧ c (l.take n)
  | 0, l, c, h => ⟨Nat.zero_le _, by simpa [ktake] using h⟩
  | n + 1, d :: l, c, h => by
    obtain ⟨h1, h2⟩ := ktake_some (n := n) (l := l) h
    exact ⟨by simp; omega, by simpa using h2⟩
  | _ + 1, [], _, h => h.elim
theorem kdrop_some : ∀ {n : Nat} {l : List D} {c : List D → Prop}, kdrop n l c → n ≤ l.length ∧ c (l.drop n)
  | 0, l, c, h => ⟨Nat.zero_le _, by simpa [kdrop] using h⟩
  | n + 1, d :: l, c, h => by
    obtain ⟨h1, h2⟩ := kdrop_some (n := n) (l := l) h
    exact ⟨by simp; omega, by simpa using h2⟩
  | _ + 1, [], _, h => h.elim
theorem kapp_some : ∀ {l r : List D} {c : List D → Prop}, kapp l r c → c (l ++ r)
  | [], _, _, h => h
  | _ :: l, r, c, h => kapp_some (l := l) (r := r) h
theorem kzs_some : ∀ {l : List Value} {c : List D → Prop}, kzs l c → c (l.map .v)
  | [], _, h => h
  | _ :: l, c, h => kzs_some (l := l) h
theorem kT_some {t : Nat} {c : TI → Prop} (h : kT T t c) : ∃ ti, tget T t = some ti ∧ c ti := by
  unfold kT at h
  cases hg : tget T t with
  | none => rw [hg] at h; exact h.elim
  | some d => rw [hg] at h; exact ⟨d, rfl, h⟩
theorem kOf_some {ti : TI} {l : List D} {c : D → Prop} (h : kOf ti l c) : ∃ d, ofCells ti l = some d ∧ c d := by
  unfold kOf at h
  unfold ofCells
  cases hag : ti.ag with
  | true =>
    rw [hag] at h
    cases hl : Nat.beq l.length ti.sz with
    | true =>
      rw [hl] at h
      exact ⟨.ag l, by simp [Nat.eq_of_beq_eq_true hl], h⟩
    | false => rw [hl] at h; exact h.elim
  | false =>
    rw [hag] at h
    match l, h with
    | [d], h => exact ⟨d, by simp, h⟩
theorem kOfP_some {ti : TI} {r : List D} {j n : Nat} {c : D → Prop} (hr : r.length = n) (hj : j + ti.sz ≤ n) (h : kOfP ti r j n c) : ∃ d, ofCells ti ((r.drop j).take ti.sz) = some d ∧ c d := by
  unfold kOfP at h
  unfold ofCells
  have hl : ((r.drop j).take ti.sz).length = ti.sz := by simp; omega
  cases hag : ti.ag with
  | true =>
    rw [hag] at h
    dsimp only at h ⊢
    split at h
    · rename_i hb
      simp only [Bool.and_eq_true] at hb
      have e1 := Nat.eq_of_beq_eq_true hb.1
      have e2 := Nat.eq_of_beq_eq_true hb.2
      refine ⟨_, ?_, h⟩
      subst e1
      rw [List.drop_zero, e2, ← hr, List.take_length]
      simp
    · refine ⟨_, ?_, h⟩
      simp [hl]
  | false =>
    rw [hag] at h
    dsimp only at h ⊢
    split at h
    · rename_i hb
      have e1 := Nat.eq_of_beq_eq_true hb
      have hlt : j < r.length := by omega
      rw [e1, List.drop_eq_getElem_cons hlt, List.take_succ_cons]
      refine ⟨_, ?_, h⟩
      simp [List.getD_eq_getElem?_getD, List.getElem?_eq_getElem hlt]
    · exact h.elim
theorem kld_some {t : Nat} {x : D} {c : D → Prop} (h : kld T σ t x c) : ∃ e, ldD T σ t x = some e ∧ c e := by
  obtain ⟨ti, h1, h⟩ := kT_some h
  unfold ldD
  rw [h1]
  split at h
  · obtain ⟨l, h2, h3⟩ := kcells_some h
    obtain ⟨d, h4, h5⟩ := kOf_some h3
    exact ⟨d, by simp [h2, h4], h5⟩
  · obtain ⟨h2, h3⟩ := ktake_some h
    obtain ⟨d, h4, h5⟩ := kOf_some h3
    exact ⟨d, by simp [h2, h4], h5⟩
  · obtain ⟨d, h2, h⟩ := kget_some h
    split at h
    · split at h
      · rename_i hb
        simp only [Bool.and_eq_true] at hb
        have e1 := Nat.eq_of_beq_eq_true hb.1
        have e2 := Nat.le_of_ble_eq_true hb.2
        obtain ⟨⟨a1, a2, a3⟩, h⟩ := h
        obtain ⟨e, h4, h5⟩ := kOfP_some a3 e2 h
        refine ⟨e, ?_, h5⟩
        simp only [h2]
        rw [if_pos ⟨e1, a1, a2, e2⟩]
        exact h4
      · exact h.elim
    · exact h.elim
  · exact h.elim
theorem kfield_some {t : Nat} {x : D} {f : Nat} {c : D → Prop} (h : kfield T t x f c) : ∃ e, fieldD T t x f = some e ∧ c e := by
  obtain ⟨ti, h1, h⟩ := kT_some h
  unfold fieldD
  rw [h1]
  split at h
  · rename_i l off sz ag _ _
    have hf : ti.fs[f]? = some (off, sz, ag) := by assumption
    obtain ⟨h2, h3⟩ := kdrop_some h
    obtain ⟨h4, h5⟩ := ktake_some h3
    rw [List.length_drop] at h4
    have hle : off + sz ≤ l.length := by omega
    cases ag with
    | true => exact ⟨_, by simp [hf, hle], h5⟩
    | false =>
      cases sz with
      | zero => exact h5.elim
      | succ n =>
        have hlt : off < l.length := by omega
        rw [List.drop_eq_getElem_cons hlt, List.take_succ_cons] at h5
        simp only at h5
        split at h5
        · rename_i d he
          injection he with e1 e2
          exact ⟨d, by simp [hf, hle, hlt, e1], h5⟩
        · exact h5.elim
  · exact h.elim
theorem kfaddr_some {t : Nat} {x : D} {f : Nat} {c : D → Prop} (h : kfaddr T t x f c) : ∃ e, faddrD T t x f = some e ∧ c e := by
  obtain ⟨ti, h1, h⟩ := kT_some h
  unfold faddrD
  rw [h1]
  split at h
  · rename_i k o off a b _ _
    have hf : ti.fs[f]? = some (off, a, b) := by assumption
    exact ⟨_, by simp [hf], h⟩
  · rename_i l off a b _ _
    have hf : ti.fs[f]? = some (off, a, b) := by assumption
    obtain ⟨h2, h3⟩ := kdrop_some h
    exact ⟨_, by simp [hf, h2], h3⟩
  · rename_i g len n i j off a b _ _
    have hf : ti.fs[f]? = some (off, a, b) := by assumption
    exact ⟨_, by simp [hf], h⟩
  · exact h.elim
theorem kiaddr_some {t : Nat} {x y : D} {c : D → Prop} (h : kiaddr T t x y c) : ∃ e, iaddrD T t x y = some e ∧ c e := by
  obtain ⟨ti, h1, h⟩ := kT_some h
  unfold iaddrD
  rw [h1]
  cases hel : ti.el with
  | none => rw [hel] at h; exact h.elim
  | some e =>
    rw [hel] at h
    obtain ⟨te, h2, h⟩ := kT_some h
    simp only [hel, h2]
    split at h
    · split at h
      · rename_i hb
        simp only [Bool.and_eq_true] at hb
        have e1 := Nat.eq_of_beq_eq_true hb.1
        have e2 := Nat.le_of_ble_eq_true hb.2
        refine ⟨_, ?_, h.2⟩
        dsimp only
        rw [if_pos (by simp [e1]; omega), if_pos h.1]
      · exact h.elim
    · split at h
      · rename_i hb
        have e2 := Nat.le_of_ble_eq_true hb
        exact ⟨_, if_pos ⟨by omega, h.1.1, h.1.2⟩, h.2⟩
      · exact h.elim
    · exact h.elim
theorem kevI_some {x : Option Operand} {c : Option Int → Prop} (h : kevI σ x c) : ∃ i, evI σ x = some i ∧ c i := by
  cases x with
  | none => exact ⟨none, rfl, h⟩
  | some x =>
    obtain ⟨d, h1, h⟩ := kev_some h
    split at h
    · exact ⟨_, by simp [evI, h1], h⟩
    · exact h.elim
theorem kbnd_some {lo hi mx : Option Int} {n : Nat} {c : Prop} (h : kbnd lo hi mx n c) : (0 ≤ lo.getD 0 ∧ lo.getD 0 ≤ hi.getD n ∧ hi.getD n ≤ mx.getD n ∧ (mx.isSome → hi.isSome) ∧ mx.getD n ≤ n) ∧ (∀ m', mx = some m' → m' = hi.getD n) ∧ c := by
  match lo, hi, mx, h with
  | none, none, none, h => exact ⟨⟨Int.le_refl _, by simp, by simp, by simp, by simp⟩, nofun, h⟩
  | some l, none, none, h => exact ⟨⟨h.1.1, h.1.2, by simp, by simp, by simp⟩, nofun, h.2⟩
  | none, some k, none, h => exact ⟨⟨Int.le_refl _, h.1.1, h.1.2, by simp, by simp⟩, nofun, h.2⟩
  | some l, some k, none, h => exact ⟨⟨h.1.1, h.1.2.1, h.1.2.2, by simp, by simp⟩, nofun, h.2⟩
  | none, some k, some m, h => exact ⟨⟨Int.le_refl _, h.1.1, Int.le_of_eq h.1.2.1, by simp, h.1.2.2⟩, (fun m' e => by cases e; exact h.1.2.1.symm), h.2⟩
  | some l, some k, some m, h => exact ⟨⟨h.1.1, h.1.2.1, Int.le_of_eq h.1.2.2.1, by simp, h.1.2.2.2⟩, (fun m' e => by cases e; exact h.1.2.2.1.symm), h.2⟩
  | none, none, some m, h => exact h.elim
  | some l, none, some m, h => exact h.elim
theorem ksl_some {t : Nat} {x : D} {lo hi mx : Option Int} {c : D → Prop} (h : ksl T t x lo hi mx c) : ∃ e, sliceD T t x lo hi mx = some e ∧ c e := by
  obtain ⟨ti, h1, h⟩ := kT_some h
  unfold sliceD
  rw [h1]
  cases hel : ti.el with
  | none => rw [hel] at h; exact h.elim
  | some e =>
    rw [hel] at h
    obtain ⟨te, h2, h⟩ := kT_some h
    simp only [hel, h2]
    split at h
    · split at h
      · rename_i hb
        obtain ⟨⟨q1, q2, q3, q4, q5⟩, q6, h⟩ := kbnd_some h
        refine ⟨_, ?_, h⟩
        dsimp only
        rw [if_pos ⟨Nat.eq_of_beq_eq_true hb, q1, q2, q3, q4, q5⟩]
        cases mx with
        | none => rfl
        | some m => dsimp only; rw [if_pos (q6 m rfl)]
      · exact h.elim
    · obtain ⟨⟨q1, q2, q3, q4, q5⟩, _, h⟩ := kbnd_some h
      have z : ((0 : Nat) : Int) = 0 := rfl
      rw [z] at q2 q3 q5
      exact ⟨_, if_pos ⟨by omega, by omega, by omega, q4⟩, h⟩
    · split at h
      · split at h
        · rename_i hb
          have := Nat.le_of_ble_eq_true hb
          exact ⟨_, if_pos ⟨by omega, h.1.1, h.1.2⟩, h.2⟩
        · exact h.elim
      · exact h.elim
    · exact h.elim
theorem klen_some {t : Nat} {x : D} {c : D → Prop} (h : klen T t x c) : ∃ e, lenD T t x = some e ∧ c e := by
  obtain ⟨ti, h1, h⟩ := kT_some h
  unfold lenD
  rw [h1]
  split at h
  · split at h
    · rename_i hb; exact ⟨_, by simp [Nat.eq_of_beq_eq_true hb], h⟩
    · exact h.elim
  · split at h
    · rename_i hb; exact ⟨_, by simp [Nat.eq_of_beq_eq_true hb], h⟩
    · exact h.elim
  · split at h
    · rename_i hb; exact ⟨_, by simp [Nat.eq_of_beq_eq_true hb], h⟩
    · exact h.elim
  · split at h
    · rename_i hb; exact ⟨_, by simp [Nat.eq_of_beq_eq_true hb], h⟩
    · exact h.elim
  · exact h.elim
theorem kpartD_some {ti : TI} {f : Nat} {d : D} {c : Nat → Nat → List D → Prop} (h : kpartD ti f d c) : ∃ off sz ag ds, ti.fs[f]? = some (off, sz, ag) ∧ partD sz ag d = some ds ∧ c off sz ds := by
  unfold kpartD at h
  split at h
  · exact h.elim
  · rename_i off sz ag hf
    cases ag with
    | true =>
      simp only at h
      split at h
      · rename_i ds
        split at h
        · rename_i hb; exact ⟨off, sz, true, ds, hf, by simp [partD, Nat.eq_of_beq_eq_true hb], h⟩
        · exact h.elim
      · exact h.elim
    | false =>
      simp only at h
      split at h
      · rename_i hb
        simp only [Bool.and_eq_true] at hb
        exact ⟨off, sz, false, [d], hf, by simp [partD, Nat.eq_of_beq_eq_true hb.1, hb.2], h⟩
      · exact h.elim
theorem kfill_some {ti : TI} : ∀ {l : List D} {ps : List (Nat × Operand)} {ds : List D} {c : List D → Prop}, kfill ti l ps ds c → ∃ l', fillD ti l ((ps.map (·.1)).zip ds) = some l' ∧ c l'
  | l, [], ds, c, h => ⟨l, by simp [fillD], by cases ds <;> exact h⟩
  | l, _ :: _, [], c, h => h.elim
  | l, (f, x) :: ps, d :: ds, c, h => by
    obtain ⟨off, sz, ag, vs, h1, h2, h3⟩ := kpartD_some h
    obtain ⟨h4, h5⟩ := ktake_some h3
    obtain ⟨h6, h7⟩ := kdrop_some h5
    obtain ⟨l', h8, h9⟩ := kfill_some (kapp_some (kapp_some h7))
    refine ⟨l', ?_, h9⟩
    simp only [List.map_cons, List.zip_cons_cons, fillD, h1, h2]
    rw [if_pos h6, List.append_assoc]
    exact h8
theorem kbuild_some {t : Nat} {parts : List (Nat × Operand)} {c : D → Prop} (h : kbuild T σ t parts c) : ∃ e, buildD T σ t parts = some e ∧ c e := by
  obtain ⟨ti, h1, h⟩ := kT_some h
  unfold buildD
  rw [h1]
  split at h
  · exact h.elim
  · rename_i hb
    obtain ⟨ds, h2, h3⟩ := kevs_some h
    obtain ⟨l, h4, h5⟩ := kfill_some (kzs_some h3)
    exact ⟨.ag l, by simp [Nat.eq_of_beq_eq_true hb, h2, h4], h5⟩
theorem kbin_some {t : Nat} {op : BinOp} {x y : D} {c : D → Prop} (h : kbin T t op x y c) : ∃ e, bin2 T t op (some x) (some y) = some e ∧ c e := by
  obtain ⟨ti, h1, h⟩ := kT_some h
  cases hb : binD ti op x y with
  | none => rw [hb] at h; exact h.elim
  | some e => rw [hb] at h; exact ⟨e, by simp [bin2, h1, hb], h⟩
end sound

def kval (T : List (Nat × TI)) (σ : Env) (o : Op) (c : D → Prop) (other : Prop) : Prop := match o with
  | .move x => kev σ x c
  | .assign x => kev σ x c
  | .pick x y z => kev σ x fun d => (match d with | .v (.bool t) => (match t with | true => kev σ y c | false => kev σ z c) | _ => False)
  | .load t x => kev σ x fun d => kld T σ t d c
  | .nilCheck x => kev σ x fun d => kopt (nilD d) c
  | .binOp op t x y _ => kev σ x fun d => kev σ y fun e => kbin T t op d e c
  | .unOp op _ x => kev σ x fun d => kopt (unD op d) c
  | .convert s t x => kev σ x fun d => kopt (convD T s t d) c
  | .field t x f => kev σ x fun d => kfield T t d f c
  | .fieldAddr t x f => kev σ x fun d => kfaddr T t d f c
  | .indexAddr t x y => kev σ x fun d => kev σ y fun e => kiaddr T t d e c
  | .extract x i => kev σ x fun d => kopt (extractD d i) c
  | .makeFunc f first caps => (match f, first.toList with | .func f, [] => kevs σ caps.toList fun ds => c (.fn f ds) | _, _ => False)
  | .build t parts => kbuild T σ t parts.toList c
  | .slice t x lo hi mx => kev σ x fun d => kevI σ lo fun lo => kevI σ hi fun hi => kevI σ mx fun mx => ksl T t d lo hi mx c
  | .call cl => (match cl.callee, cl.args.toList, cl.argTypes.toList with
    | .builtin .len, [x], [t] => kev σ x fun d => klen T t d c
    | .builtin .min, [x, y], [_, _] => kev σ x fun d => kev σ y fun e => kopt (minD d e) c
    | .builtin .max, [x, y], [_, _] => kev σ x fun d => kev σ y fun e => kopt (maxD d e) c
    | _, _, _ => other)
  | _ => other
theorem kval_some {T : List (Nat × TI)} {σ : Env} {o : Oper} {c : D → Prop} {other : Prop} (h : kval T σ o.op c other) : (∃ V, pval T σ o = some V ∧ c V) ∨ other := by
  unfold kval at h
  unfold pval
  split at h
  · rename_i x ho; rw [ho]; exact .inl (kev_some h)
  · rename_i x ho; rw [ho]; exact .inl (kev_some h)
  · rename_i x y z ho
    rw [ho]
    obtain ⟨d, h1, h2⟩ := kev_some h
    split at h2
    · rename_i t
      cases t with
      | true => obtain ⟨e, h3, h4⟩ := kev_some h2; exact .inl ⟨e, by simp [pickD, h1, h3], h4⟩
      | false => obtain ⟨e, h3, h4⟩ := kev_some h2; exact .inl ⟨e, by simp [pickD, h1, h3], h4⟩
    · exact h2.elim
  · rename_i t x ho
    rw [ho]
    obtain ⟨d, h1, h2⟩ := kev_some h
    obtain ⟨e, h3, h4⟩ := kld_some h2
    exact .inl ⟨e, by simp [h1, h3], h4⟩
  · rename_i x ho
    rw [ho]
    obtain ⟨d, h1, h2⟩ := kev_some h
    obtain ⟨e, h3, h4⟩ := kopt_some h2
    exact .inl ⟨e, by simp [h1, h3], h4⟩
  · rename_i op t x y _ ho
    rw [ho]
    obtain ⟨d, h1, h2⟩ := kev_some h
    obtain ⟨e, h3, h4⟩ := kev_some h2
    obtain ⟨f, h5, h6⟩ := kbin_some h4
    exact .inl ⟨f, by simp [h1, h3, h5], h6⟩
  · rename_i op t x ho
    rw [ho]
    obtain ⟨d, h1, h2⟩ := kev_some h
    obtain ⟨e, h3, h4⟩ := kopt_some h2
    exact .inl ⟨e, by simp [h1, h3], h4⟩
  · rename_i t t2 x ho
    rw [ho]
    obtain ⟨d, h1, h2⟩ := kev_some h
    obtain ⟨e, h3, h4⟩ := kopt_some h2
    exact .inl ⟨e, by simp [h1, h3], h4⟩
  · rename_i t x f ho
    rw [ho]
    obtain ⟨d, h1, h2⟩ := kev_some h
    obtain ⟨e, h3, h4⟩ := kfield_some h2
    exact .inl ⟨e, by simp [h1, h3], h4⟩
  · rename_i t x f ho
    rw [ho]
    obtain ⟨d, h1, h2⟩ := kev_some h
    obtain ⟨e, h3, h4⟩ := kfaddr_some h2
    exact .inl ⟨e, by simp [h1, h3], h4⟩
  · rename_i t x y ho
    rw [ho]
    obtain ⟨d, h1, h2⟩ := kev_some h
    obtain ⟨e, h3, h4⟩ := kev_some h2
    obtain ⟨f, h5, h6⟩ := kiaddr_some h4
    exact .inl ⟨f, by simp [h1, h3, h5], h6⟩
  · rename_i x i ho
    rw [ho]
    obtain ⟨d, h1, h2⟩ := kev_some h
    obtain ⟨e, h3, h4⟩ := kopt_some h2
    exact .inl ⟨e, by simp [h1, h3], h4⟩
  · rename_i f first caps ho
    rw [ho]
    split at h
    · rename_i f' hf
      obtain ⟨ds, h1, h2⟩ := kevs_some h
      exact .inl ⟨_, by simp [makeFnD, hf, h1], h2⟩
    · exact h.elim
  · rename_i t parts ho
    rw [ho]
    obtain ⟨e, h1, h2⟩ := kbuild_some h
    exact .inl ⟨e, h1, h2⟩
  · rename_i t x lo hi mx ho
    rw [ho]
    obtain ⟨d, h1, h⟩ := kev_some h
    obtain ⟨i, h2, h⟩ := kevI_some h
    obtain ⟨j, h3, h⟩ := kevI_some h
    obtain ⟨k, h4, h⟩ := kevI_some h
    obtain ⟨e, h5, h⟩ := ksl_some h
    exact .inl ⟨e, by simp only [slD, h1, h2, h3, h4]; exact h5, h⟩
  · rename_i cl ho
    rw [ho]
    split at h
    · rename_i x t h1 h2 h3
      obtain ⟨d, q1, q2⟩ := kev_some h
      obtain ⟨e, q3, q4⟩ := klen_some q2
      exact .inl ⟨e, by simp [h1, h2, h3, q1, q3], q4⟩
    · rename_i x y t t' h1 h2 h3
      obtain ⟨d, q1, h⟩ := kev_some h
      obtain ⟨e, q2, h⟩ := kev_some h
      obtain ⟨f, q3, h⟩ := kopt_some h
      exact .inl ⟨f, by simp [h1, h2, h3, q1, q2, q3], h⟩
    · rename_i x y t t' h1 h2 h3
      obtain ⟨d, q1, h⟩ := kev_some h
      obtain ⟨e, q2, h⟩ := kev_some h
      obtain ⟨f, q3, h⟩ := kopt_some h
      exact .inl ⟨f, by simp [h1, h2, h3, q1, q2, q3], h⟩
    · exact .inr h
  · exact .inr h
theorem pval_none_of_mop {T : List (Nat × TI)} {σ : Env} {nm : Nat} {o : Oper} {V : D} {W : List (Key × D)} {R : List Key} (h : mop T σ nm o = some (V, W, R)) : pval T σ o = none := by
  unfold mop at h
  unfold pval
  split at h
  · rename_i t ho; rw [ho]
  · rename_i t x ho; rw [ho]
  · rename_i t x y ho; rw [ho]
  · rename_i t len parts ho; rw [ho]
  · rename_i t l x ho; rw [ho]
  · rename_i ho; rw [ho]
  · rename_i ho; rw [ho]
  · rename_i ho; rw [ho]
  · rename_i ho; rw [ho]
  · rename_i cl ho
    rw [ho]
    split at h
    · rename_i x y t t' h1 h2 h3; simp [h1]
    · rename_i x t h1 h2 h3; simp [h1]
    · cases h
  · cases h
theorem none_of_call {T : List (Nat × TI)} {σ : Env} {nm : Nat} {o : Oper} {r : FuncId × List D} (h : callD σ o = some r) : pval T σ o = none ∧ mop T σ nm o = none := by
  unfold callD at h
  split at h
  · rename_i cl ho
    split at h
    · rename_i x hc
      unfold pval mop
      rw [ho]
      simp [hc]
    · cases h
  · cases h
end Go.Proofs.Ytcblpjheoclkeaa

