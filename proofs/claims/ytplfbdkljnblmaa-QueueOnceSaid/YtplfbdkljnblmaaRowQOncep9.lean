/-
  Queue.Next: the next one is taken.
-/
import Derived.Test.YtplfbdkljnblmaaRowQOncep8
set_option linter.unusedVariables false
set_option linter.unusedSimpArgs false
namespace Go.Proofs.Ytplfbdkljnblmaa
open Go.RowKit Go.Maps

theorem oper_delete_eq {P : Program} {w w' : World} {o : Oper} {a : Act} {K : Act → World → Prop} {Q : Exit → Act → World → Prop} (s x : Operand) (ta tb : TypeId) (v' : Value)
    (ho : o.op = .call { callee := .builtin .delete, args := #[s, x], argTypes := #[ta, tb] }) (hr : (Builtin.delete_ #[ta, tb] o.type #[a.eval s, a.eval x]).run P w = .ok v' w')
    (h : K (a.put o.dst v') w') : o.wp P a w K Q := by
  unfold Oper.wp execOp
  simp only [ho, resolve, invoke, builtin, Sem.run_bind, Sem.run_pure, Result.andThen_ok, List.map_toArray, List.map_cons, List.map_nil, hr]
  exact h

def QS.took (s : QS) (k : Int) : QS := { s with taken := s.taken + 1, L := MapOf.less s.L k }
def NextRes (s : QS) (e : Ending) (s' : QS) : Prop :=
  (s.L = [] ∧ e = .returned (.tuple #[Hp.z0.v, .bool false]) ∧ s' = s) ∨ ∃ x ∈ s.L, (∀ y ∈ s.L, s.lt y x = false) ∧ e = .returned (.tuple #[x.v, .bool true]) ∧ s' = s.took x.key

theorem QInv.took {s : QS} {light old : List Ent} (h : QInv s light old) (ht : s.taken ≤ 799999) (k : Int) : QInv (s.took k) light old :=
  have hs : ∀ e ∈ (s.took k).L, e ∈ s.L := fun e he => (List.mem_filter.1 he).1
  { per := h.per, tak := ⟨by show 0 ≤ s.taken + 1; have := h.tak.1; omega, by show s.taken + 1 ≤ 800000; omega⟩, many := h.many, keys := h.keys.sublist (List.Sublist.map _ List.filter_sublist), ages := h.ages.sublist List.filter_sublist
    inl := fun e he => h.inl e (hs e he), ino := fun e he => h.ino e (hs e he), wkl := h.wkl, wko := h.wko, last := fun e he => h.last e (hs e he), lenl := h.lenl, leno := h.leno }

set_option maxRecDepth 100000 in
set_option maxHeartbeats 4000000 in
theorem next_q {F : Nat → Prop} {w : World} {q : Nat} {s : QS} (h : QueueAt F w q s) (ht : s.taken ≤ 799999) :
    Calls Try.prog 9 #[.pointer (some ⟨q, 0, none⟩)] w fun e w' => ∃ s', NextRes s e s' ∧ QueueAt F w' q s' ∧ Off F w w' := by
  obtain ⟨wB, hwB⟩ : ∃ wB, w.alloc (.cells #[.int .i64 0, .int .i64 0, .int .i64 0] 30) = wB := ⟨_, rfl⟩
  have B0 : Below w.heap.size w wB := by rw [← hwB]; exact (Below.refl _ _).alloc (Nat.le_refl _) _
  have x0 : Blk wB w.heap.size #[.int .i64 0, .int .i64 0, .int .i64 0] 30 := by rw [← hwB]; exact Blk.new _ _ _ rfl
  have hA : QueueAt (fun k => F k ∧ k < w.heap.size) w q s := by
    obtain ⟨lv, ov, m, n, light, old, h⟩ := h
    exact ⟨lv, ov, m, n, light, old, { h with fq := h.qb (.inl rfl) |>.symm, fm := h.qb (.inr (.inl rfl)) |>.symm, fl := fun g hg => (h.qb (.inr (.inr (.inl hg)))).symm, fo := fun g hg => (h.qb (.inr (.inr (.inr hg)))).symm }⟩
  have Hht := Lib.hid ht; clear ht
  go_enter Try.func9, Try.ntmps9
  go_wp2_with fail
  try rw [hwB]
  clear hwB
  refine (peek_q (hA.below B0)).mono ?_
  rintro e w1 ⟨hres, hQ, hO⟩
  have x1 := hO.blk x0 (fun hf => by have := hf.2; omega)
  have B1 : Off F w w1 := (Off.of_below F B0).trans (hO.mono fun k _ hk => hk.1)
  clear hO x0 B0 hA h
  have hqlt : w.heap.size < w1.heap.size := x1.lt
  obtain ⟨lv, ov, m, n, light, old, hM⟩ := hQ
  obtain ⟨per, tak, put, L⟩ := s
  rcases hres with ⟨hL, rfl⟩ | ⟨x, hx, hmin, rfl⟩
  · have HL := Lib.hid hL; clear hL
    unfold Ent.v Hp.z0
    dsimp only
    have f1 := x1.free 0; have f2 := x1.free 1; have f3 := x1.free 2
    have d0 := x1.cell (i := 0) rfl; have d1 := x1.cell (i := 1) rfl; have d2 := x1.cell (i := 2) rfl
    go_wp2_with fail
    have z := (((x1.set 0 (.int .i64 0)).set 1 (.int .i64 0)).set 2 (.int .i64 0)).alloc (.cells #[.int .i64 0, .int .i64 0, .int .i64 0] 30)
    have hW : Off (fun k => k = w.heap.size) w1 ((((w1.setCell ⟨w.heap.size, 0, none⟩ (.int .i64 0)).setCell ⟨w.heap.size, 1, none⟩ (.int .i64 0)).setCell ⟨w.heap.size, 2, none⟩ (.int .i64 0)).alloc (.cells #[.int .i64 0, .int .i64 0, .int .i64 0] 30)) :=
      ((((Off.refl (fun k => k = w.heap.size) w1).set ⟨w.heap.size, 0, none⟩ (.int .i64 0) (.inl rfl)).set ⟨w.heap.size, 1, none⟩ (.int .i64 0) (.inl rfl)).set ⟨w.heap.size, 2, none⟩ (.int .i64 0) (.inl rfl)).alloc _
    have hq' := hM.off hW fun k hk e => by have := (hM.qb hk).2.2; omega
    have hB' : Off F w _ := ((((B1.set ⟨w.heap.size, 0, none⟩ (.int .i64 0) (.inr (Nat.le_refl _))).set ⟨w.heap.size, 1, none⟩ (.int .i64 0) (.inr (Nat.le_refl _))).set ⟨w.heap.size, 2, none⟩ (.int .i64 0) (.inr (Nat.le_refl _))).alloc (.cells #[.int .i64 0, .int .i64 0, .int .i64 0] 30))
    (try simp only [Exit.inBlock, Exit.then]); refine bodyPost_ret (results_ent rfl _ _ rfl (e := ⟨0, 0, 0⟩) z) rfl ?_
    exact ⟨_, .inl ⟨HL.out, rfl, rfl⟩, QueueAt.weaken ⟨_, _, _, _, _, _, hq'⟩ fun k hk => hk.1, hB'⟩
  · have HX := Lib.hid hx; have HM := Lib.hid hmin; clear hx hmin
    obtain ⟨xk, xw, xg⟩ := x
    unfold Ent.v
    dsimp only
    go_wp2_with fail
    obtain ⟨w2, hw2⟩ : ∃ w2, w1.alloc (.cells #[.int .i64 xk, .int .i64 xw, .int .i64 xg] 30) = w2 := ⟨_, rfl⟩
    have y2 : Blk w2 w1.heap.size #[.int .i64 xk, .int .i64 xw, .int .i64 xg] 30 := by rw [← hw2]; exact Blk.new _ _ _ rfl
    have hb12 : Below w1.heap.size w1 w2 := by rw [← hw2]; exact (Below.refl _ _).alloc (Nat.le_refl _) _
    have x2 := x1.below hb12
    have B2 := B1.below hb12
    have hM2 := hM.off (Off.of_below (fun _ => False) hb12) fun _ _ h => h
    rw [hw2]
    clear hw2
    have hxin : (⟨xk, xw, xg⟩ : Ent) ∈ L := HX.out
    have hxk : W64 xk := hM.inv.wkl _ (hM.inv.inl _ hxin)
    obtain ⟨Y, hY⟩ : ∃ Y, w1.heap.size = Y := ⟨_, rfl⟩
    rw [hY] at y2 hqlt ⊢
    have hYnew : ∀ k, QB q m lv ov k → k ≠ Y ∧ k ≠ w.heap.size := fun k hk => by have h1 := hM.qb hk; refine ⟨by omega, by have := h1.2.2; omega⟩
    have HYnew := Lib.hid hYnew
    clear hY hb12 x1 B1 hM hYnew hxin
    have c7 : w2.cell? ⟨q, 7, none⟩ = some (.map (some m)) := hM2.blk.cell rfl
    have cy := y2.cell (i := 0) rfl
    refine wp_region_noPanic (wp_region_need (S := fun w' => w'.cell? ⟨q, 7, none⟩ = some (.map (some m)) ∧ w'.cell? ⟨Y, 0, none⟩ = some (.int .i64 xk)) (by kernel_rfl) ?_)
    have hS : (w2.drew).cell? ⟨q, 7, none⟩ = some (.map (some m)) ∧ (w2.drew).cell? ⟨Y, 0, none⟩ = some (.int .i64 xk) := ⟨c7, cy⟩
    refine wpN_take (i := 0) (v := ?v1) rfl (by kernel_rfl) (fun _ _ _ h => h) hS (Or.inl ⟨by rfl, ?hy1⟩) ?hr1
    case hy1 => (intro wS hSw; (try dsimp only at hSw); go_simp; (try with_reducible rfl))
    try simp only [Act.put, List.setIfInBounds_toArray, List.set_cons_zero, List.set_cons_succ, List.getElem_toArray, List.getElem_cons_zero, List.getElem_cons_succ]
    refine wpN_take (i := 1) (v := ?v2) rfl (by kernel_rfl) (fun _ _ _ h => h) hS (Or.inl ⟨by rfl, ?hy2⟩) ?hr2
    case hy2 => (intro wS hSw; (try dsimp only at hSw); go_simp; (try with_reducible rfl))
    try simp only [Act.put, List.setIfInBounds_toArray, List.set_cons_zero, List.set_cons_succ, List.getElem_toArray, List.getElem_cons_zero, List.getElem_cons_succ]
    refine wpN_take (i := 2) (v := ?v3) rfl (by kernel_rfl) (fun _ _ _ h => h) hS (Or.inl ⟨by rfl, ?hy3⟩) ?hr3
    case hy3 => (intro wS hSw; (try dsimp only at hSw); go_simp; (try with_reducible rfl))
    try simp only [Act.put, List.setIfInBounds_toArray, List.set_cons_zero, List.set_cons_succ, List.getElem_toArray, List.getElem_cons_zero, List.getElem_cons_succ]
    refine wpN_take (i := 3) (v := ?v4) rfl (by kernel_rfl) (fun _ _ _ h => h) hS (Or.inl ⟨by rfl, ?hy4⟩) ?hr4
    case hy4 => (intro wS hSw; (try dsimp only at hSw); go_simp; (try with_reducible rfl))
    try simp only [Act.put, List.setIfInBounds_toArray, List.set_cons_zero, List.set_cons_succ, List.getElem_toArray, List.getElem_cons_zero, List.getElem_cons_succ]
    refine wpN_take (i := 4) (v := ?v5) rfl (by kernel_rfl) (fun _ _ _ h => h) hS (Or.inl ⟨by rfl, ?hy5⟩) ?hr5
    case hy5 => (intro wS hSw; (try dsimp only at hSw); go_simp; (try with_reducible rfl))
    try simp only [Act.put, List.setIfInBounds_toArray, List.set_cons_zero, List.set_cons_succ, List.getElem_toArray, List.getElem_cons_zero, List.getElem_cons_succ]
    refine wpN_take (i := 5) (v := ?v6) rfl (by kernel_rfl) (fun _ _ _ h => h) hS (Or.inl ⟨by rfl, ?hy6⟩) ?hr6
    case hy6 => (intro wS hSw; (try dsimp only at hSw); go_simp; (try with_reducible rfl))
    try simp only [Act.put, List.setIfInBounds_toArray, List.set_cons_zero, List.set_cons_succ, List.getElem_toArray, List.getElem_cons_zero, List.getElem_cons_succ]
    have y3 := y2.drew
    have x3 := x2.drew
    have B3 := B2.drew
    have hM3 := hM2.off ((Off.refl (fun _ => False) w2).drew) fun _ _ h => h
    obtain ⟨w3, hw3⟩ : ∃ w3, w2.drew = w3 := ⟨_, rfl⟩
    rw [hw3] at y3 x3 B3 hM3 ⊢
    clear hw3 y2 x2 B2 hM2 hS c7 cy
    refine wpN_step (i := 6) (by kernel_rfl) rfl (fun K hK => ?_)
    obtain ⟨w4, hrun, hmap, hg⟩ := hM3.mp.drop hM3.inv.keys hxk 1
    rw [if_pos (by rfl)]
    refine oper_delete_eq (.tmp 15) (.tmp 17) _ _ _ rfl hrun ?_
    try simp only [Act.put, List.setIfInBounds_toArray, List.set_cons_zero, List.set_cons_succ, List.getElem_toArray, List.getElem_cons_zero, List.getElem_cons_succ]
    have hO4 : Off (fun k => k = m) w3 w4 := (Off.refl _ _).grown hg fun k e => by cases e; rfl
    have hmn := HYnew.out m (.inr (.inl rfl))
    have y4 := hO4.blk y3 (Ne.symm hmn.1)
    have x4 := hO4.blk x3 (Ne.symm hmn.2)
    have q4 := hO4.blk hM3.blk (Ne.symm hM3.mq)
    have B4 : Off F w w4 := B3.grown hg fun k e => by cases e; exact hM3.fm.1
    have rl4 := hM3.rl.off hO4 (fun g hg e => hM3.lm (by rw [hg, e]))
    have ro4 := hM3.ro.off hO4 (fun g hg e => hM3.om (by rw [hg, e]))
    clear hrun hg
    have hS : (w4).cell? ⟨q, 7, none⟩ = some (.map (some m)) ∧ (w4).cell? ⟨Y, 0, none⟩ = some (.int .i64 xk) := ⟨q4.cell rfl, y4.cell rfl⟩
    refine hK.out _ _ (fun _ => hS) ?_
    clear hK K
    try simp only [Act.put, List.setIfInBounds_toArray, List.set_cons_zero, List.set_cons_succ, List.getElem_toArray, List.getElem_cons_zero, List.getElem_cons_succ]
    refine wpN_done (by kernel_rfl) ?_
    refine NoPanic.normal ?_
    have c1 : w4.cell? ⟨q, 1, none⟩ = some (.int .i64 tak) := q4.cell rfl
    have g1 := q4.free 1
    have t1 : (tak : Int) ≤ 799999 := Hht.out
    have t2 : (0 : Int) ≤ tak := hM3.inv.tak.1
    have t3 : IntKind.i64.wrap (tak + 1) = tak + 1 := IntWalk.i64_in _ (by omega)
    have hqn := HYnew.out q (.inl rfl)
    have n1 : ¬ q = Y := hqn.1
    have n2 : ¬ Y = q := Ne.symm hqn.1
    have n3 : ¬ q = w.heap.size := hqn.2
    have n4 : ¬ w.heap.size = q := Ne.symm hqn.2
    have n5 : ¬ Y = w.heap.size := by omega
    have n6 : ¬ w.heap.size = Y := by omega
    have e0 := y4.cell (i := 0) rfl; have e1 := y4.cell (i := 1) rfl; have e2 := y4.cell (i := 2) rfl
    have d0 := x4.cell (i := 0) rfl; have d1 := x4.cell (i := 1) rfl; have d2 := x4.cell (i := 2) rfl
    have f1 := x4.free 0; have f2 := x4.free 1; have f3 := x4.free 2
    go_wp2_with fail
    have hM5 : QMem (fun k => F k ∧ k < w.heap.size) (w4.setCell ⟨q, 1, none⟩ (.int .i64 (tak + 1))) q (QS.took ⟨per, tak, put, L⟩ xk) lv ov m n light old :=
      { hM3 with
        inv := hM3.inv.took t1 xk
        blk := q4.set 1 (.int .i64 (tak + 1))
        rl := rl4.far ⟨q, 1, none⟩ _ hM3.lq
        ro := ro4.far ⟨q, 1, none⟩ _ hM3.oq
        mp := hmap.far ⟨q, 1, none⟩ _ hM3.mq }
    have x5 := x4.far ⟨q, 1, none⟩ (.int .i64 (tak + 1)) n4
    have B5 := B4.set ⟨q, 1, none⟩ (.int .i64 (tak + 1)) (.inl hM3.fq.1)
    have hW : Off (fun k => k = w.heap.size) (w4.setCell ⟨q, 1, none⟩ (.int .i64 (tak + 1))) ((((w4.setCell ⟨q, 1, none⟩ (.int .i64 (tak + 1))).setCell ⟨w.heap.size, 0, none⟩ (.int .i64 xk)).setCell ⟨w.heap.size, 1, none⟩ (.int .i64 xw)).setCell ⟨w.heap.size, 2, none⟩ (.int .i64 xg)) :=
      (((Off.refl (fun k => k = w.heap.size) _).set ⟨w.heap.size, 0, none⟩ _ (.inl rfl)).set ⟨w.heap.size, 1, none⟩ _ (.inl rfl)).set ⟨w.heap.size, 2, none⟩ _ (.inl rfl)
    have hM6 := hM5.off hW fun k hk e => (HYnew.out k hk).2 e
    have z := ((x5.set 0 (.int .i64 xk)).set 1 (.int .i64 xw)).set 2 (.int .i64 xg)
    have B6 : Off F w _ := ((B5.set ⟨w.heap.size, 0, none⟩ (.int .i64 xk) (.inr (Nat.le_refl _))).set ⟨w.heap.size, 1, none⟩ (.int .i64 xw) (.inr (Nat.le_refl _))).set ⟨w.heap.size, 2, none⟩ (.int .i64 xg) (.inr (Nat.le_refl _))
    (try simp only [Exit.inBlock, Exit.then]); refine bodyPost_ret (results_ent rfl _ _ rfl (e := ⟨xk, xw, xg⟩) z) rfl ?_
    exact ⟨_, .inr ⟨⟨xk, xw, xg⟩, HX.out, HM.out, rfl, rfl⟩, QueueAt.weaken ⟨_, _, _, _, _, _, hM6⟩ fun k hk => hk.1, B6⟩
end Go.Proofs.Ytplfbdkljnblmaa

