/-
  heap.push: one more entry, sifted up. heap.pop: the first one goes; the last one is sifted down from its place. The queue's map, as a list of the entries that wait.
-/
import Derived.Test.YtplfbdkljnblmaaRowQPlaysp1
import Derived.Maps.OwnSet
set_option linter.unusedVariables false
set_option linter.unusedSimpArgs false
namespace Go.Proofs.Ytplfbdkljnblmaa
open Go.RowKit

theorem infoE : (Try.prog.info? 30).map (fun i => (i.zero, i.size, i.bytes)) = some (some (.agg #[.int .i64 0, .int .i64 0, .int .i64 0]), 3, 24) := by kernel_rfl

theorem encs_flat (l : List Ent) : encs l = (l.map fun e => [Value.int .i64 e.key, .int .i64 e.weight, .int .i64 e.age]).flatten := by simp [encs, List.flatMap]
theorem row_acc {w : World} {base : Nat} {v : Value} {l : List Ent} (h : Row w base v l) : Acc rpE 30 base (fun _ => True) w v l :=
  ⟨l.map fun e => [.int .i64 e.key, .int .i64 e.weight, .int .i64 e.age], by simp, by rw [← encs_flat]; exact h, fun i hi => ⟨[.int .i64 l[i].key, .int .i64 l[i].weight, .int .i64 l[i].age], by simp [hi], rfl⟩⟩
theorem acc_row {F : Nat → Prop} {w : World} {base : Nat} {v : Value} {l : List Ent} (h : Acc rpE 30 base F w v l) : Row w base v l := by
  obtain ⟨X, h1, h2, h3⟩ := h
  have : X = l.map fun e => [.int .i64 e.key, .int .i64 e.weight, .int .i64 e.age] := by
    apply List.ext_getElem (by simpa using h1)
    intro i hi hi2
    obtain ⟨x, hx, hr⟩ := h3 i (by omega)
    rw [List.getElem?_eq_getElem hi] at hx
    cases hx
    have hr' : X[i] = [.int .i64 l[i].key, .int .i64 l[i].weight, .int .i64 l[i].age] := hr
    simpa using hr'
  subst this
  unfold Row
  rw [encs_flat]
  exact h2

theorem oper_append_eq {P : Program} {w w' : World} {o : Oper} {a : Act} {K : Act → World → Prop} {Q : Exit → Act → World → Prop} (s x : Operand) (ta tb : TypeId) (v' : Value)
    (ho : o.op = .call { callee := .builtin .append, args := #[s, x], argTypes := #[ta, tb] }) (hr : (Builtin.append_ #[ta, tb] o.type #[a.eval s, a.eval x]).run P w = .ok v' w')
    (h : K (a.put o.dst v') w') : o.wp P a w K Q := by
  unfold Oper.wp execOp
  simp only [ho, resolve, invoke, builtin, Sem.run_bind, Sem.run_pure, Result.andThen_ok, List.map_toArray, List.map_cons, List.map_nil, hr]
  exact h

def Turn (q : Nat) (v : Value) (k : Nat) : Prop := k = q ∨ v.ownBlock = some k

set_option maxRecDepth 100000 in
set_option maxHeartbeats 4000000 in
theorem push_q {f : FuncId} {lt : Ent → Ent → Bool} (hf : Fst f lt) (O : Hp.Ord lt) {w : World} {q o : Nat} {cs : Array Value} {t : TypeId} {v : Value} {l : List Ent} {base : Nat} (hq : Blk w q cs t) (ho : cs[o]? = some v) (hf' : cs[o + 1]? = some (.func (.func f) #[] #[]))
    (hr : Row w base v l) (hh : Hp.Heap lt l) (hv : v.ownBlock ≠ some q) (hb : base ≤ w.heap.size) (hl : l.length ≤ 900000) (x : Ent) :
    Calls Try.prog 24 #[.pointer (some ⟨q, o, none⟩), x.v] w fun e w' => e = .returned (.tuple #[]) ∧ ∃ v' l', Blk w' q (cs.setIfInBounds o v') t ∧ Row w' base v' l' ∧ l'.Perm (x :: l) ∧ Hp.Heap lt l' ∧
      (∀ g, v'.ownBlock = some g → v.ownBlock = some g ∨ w.heap.size ≤ g) ∧ Off (Turn q v) w w' := by
  obtain ⟨i0, hi0, hz0, hz1, hz2⟩ := info_parts infoE
  unfold Ent.v
  obtain ⟨wB, hwB⟩ : ∃ wB, w.alloc (.cells #[.int .i64 x.key, .int .i64 x.weight, .int .i64 x.age] 30) = wB := ⟨_, rfl⟩
  have B0 : Below w.heap.size w wB := by rw [← hwB]; exact (Below.refl _ _).alloc (Nat.le_refl _) _
  have x0 : Blk wB w.heap.size #[.int .i64 x.key, .int .i64 x.weight, .int .i64 x.age] 30 := by rw [← hwB]; exact Blk.new _ _ _ rfl
  have hqB := hq.below B0
  have hrB := hr.below B0
  have hz : wB.heap.size = w.heap.size + 1 := by rw [← hwB]; simp
  go_enter Try.func24, Try.ntmps24
  go_wp2_with fail
  try rw [hwB]
  clear hwB
  refine wp_region_noPanic (wp_region_need (S := fun w' => w'.cell? ⟨q, o, none⟩ = some v ∧ w'.cell? ⟨w.heap.size, 0, none⟩ = some (.int .i64 x.key) ∧ w'.cell? ⟨w.heap.size, 1, none⟩ = some (.int .i64 x.weight) ∧ w'.cell? ⟨w.heap.size, 2, none⟩ = some (.int .i64 x.age)) (by kernel_rfl) ?_)
  have hS : (wB.drew).cell? ⟨q, o, none⟩ = some v ∧ (wB.drew).cell? ⟨w.heap.size, 0, none⟩ = some (.int .i64 x.key) ∧ (wB.drew).cell? ⟨w.heap.size, 1, none⟩ = some (.int .i64 x.weight) ∧ (wB.drew).cell? ⟨w.heap.size, 2, none⟩ = some (.int .i64 x.age) := ⟨hqB.drew.cell ho, x0.drew.cell rfl, x0.drew.cell rfl, x0.drew.cell rfl⟩
  refine wpN_take (i := 0) (v := ?v1) rfl (by kernel_rfl) (fun _ _ _ h => h) hS (Or.inl ⟨by rfl, ?hy1⟩) ?hr1
  case hy1 => (intro wS hSw; (try dsimp only at hSw); go_simp; (try with_reducible rfl))
  try simp only [Act.put, List.setIfInBounds_toArray, List.set_cons_zero, List.set_cons_succ, List.getElem_toArray, List.getElem_cons_zero, List.getElem_cons_succ]
  refine wpN_take (i := 1) (v := ?v2) rfl (by kernel_rfl) (fun _ _ _ h => h) hS (Or.inl ⟨by rfl, ?hy2⟩) ?hr2
  case hy2 => (intro wS hSw; (try dsimp only at hSw); go_simp; (try with_reducible rfl))
  try simp only [Act.put, List.setIfInBounds_toArray, List.set_cons_zero, List.set_cons_succ, List.getElem_toArray, List.getElem_cons_zero, List.getElem_cons_succ]
  refine wpN_take (i := 2) (v := ?v3) rfl (by kernel_rfl) (fun _ _ _ h => h) hS (Or.inl ⟨by rfl, ?hy3⟩) ?hr3
  case hy3 => (intro wS hSw; (try dsimp only at hSw); go_simp; (try with_reducible rfl))
  try simp only [Act.put, List.setIfInBounds_toArray, List.set_cons_zero, List.set_cons_succ, List.getElem_toArray, List.getElem_cons_zero, List.getElem_cons_succ]
  refine wpN_take (i := 3) (v := ?v4) rfl (by kernel_rfl) (fun _ _ _ h => h) hS (Or.inl ⟨by rfl, ?hy4⟩) ?hr4
  case hy4 => (intro wS hSw; (try dsimp only at hSw); go_simp; (try with_reducible rfl))
  try simp only [Act.put, List.setIfInBounds_toArray, List.set_cons_zero, List.set_cons_succ, List.getElem_toArray, List.getElem_cons_zero, List.getElem_cons_succ]
  refine wpN_take (i := 4) (v := ?v5) rfl (by kernel_rfl) (fun _ _ _ h => h) hS (Or.inl ⟨by rfl, ?hy5⟩) ?hr5
  case hy5 => (intro wS hSw; (try dsimp only at hSw); go_simp; (try with_reducible rfl))
  try simp only [Act.put, List.setIfInBounds_toArray, List.set_cons_zero, List.set_cons_succ, List.getElem_toArray, List.getElem_cons_zero, List.getElem_cons_succ]
  refine wpN_take (i := 5) (v := ?v6) rfl (by kernel_rfl) (fun _ _ _ h => h) hS (Or.inl ⟨by rfl, ?hy6⟩) ?hr6
  case hy6 => (intro wS hSw; (try dsimp only at hSw); go_simp; (try with_reducible rfl))
  try simp only [Act.put, List.setIfInBounds_toArray, List.set_cons_zero, List.set_cons_succ, List.getElem_toArray, List.getElem_cons_zero, List.getElem_cons_succ]
  refine wpN_step (i := 6) (by kernel_rfl) rfl (fun K hK => ?_)
  go_simp
  obtain ⟨wC, hwC⟩ : ∃ wC, wB.alloc (.cells #[.int .i64 x.key, .int .i64 x.weight, .int .i64 x.age] 30) = wC := ⟨_, rfl⟩
  have B1 : Below w.heap.size w wC := by rw [← hwC]; exact B0.alloc B0.size _
  have y0 : Blk wC (w.heap.size + 1) #[.int .i64 x.key, .int .i64 x.weight, .int .i64 x.age] 30 := by rw [← hwC]; exact Blk.new _ _ _ hz.symm
  have x1 : Blk wC w.heap.size #[.int .i64 x.key, .int .i64 x.weight, .int .i64 x.age] 30 := by rw [← hwC]; exact x0.alloc _
  have hq1 := hq.below B1
  have hr1 := hr.below B1
  have hzC : wC.heap.size = w.heap.size + 2 := by rw [← hwC]; simp [hz]
  have hwC' : (wB.alloc (.cells #[.int .i64 x.key, .int .i64 x.weight, .int .i64 x.age] 30)).drew = wC.drew := by rw [hwC]
  rw [hwC']
  obtain ⟨wD, hwD⟩ : ∃ wD, wC.drew = wD := ⟨_, rfl⟩
  have B2 : Below w.heap.size w wD := by rw [← hwD]; exact B1.drew
  have y1 : Blk wD (w.heap.size + 1) #[.int .i64 x.key, .int .i64 x.weight, .int .i64 x.age] 30 := by rw [← hwD]; exact y0.drew
  have x2 : Blk wD w.heap.size #[.int .i64 x.key, .int .i64 x.weight, .int .i64 x.age] 30 := by rw [← hwD]; exact x1.drew
  have hq2 := hq.below B2
  have hr2 := hr.below B2
  have hzD : wD.heap.size = w.heap.size + 2 := by rw [← hwD]; simp [hzC]
  rw [hwD]
  clear hwD hwC hwC' B1 y0 x1 hq1 hr1 hzC
  have hS : (wD).cell? ⟨q, o, none⟩ = some v ∧ (wD).cell? ⟨w.heap.size, 0, none⟩ = some (.int .i64 x.key) ∧ (wD).cell? ⟨w.heap.size, 1, none⟩ = some (.int .i64 x.weight) ∧ (wD).cell? ⟨w.heap.size, 2, none⟩ = some (.int .i64 x.age) := ⟨hq2.cell ho, x2.cell rfl, x2.cell rfl, x2.cell rfl⟩
  refine hK.out _ _ (fun _ => hS) ?_
  clear hK K
  try simp only [Act.put, List.setIfInBounds_toArray, List.set_cons_zero, List.set_cons_succ, List.getElem_toArray, List.getElem_cons_zero, List.getElem_cons_succ]
  refine wpN_step (i := 7) (by kernel_rfl) rfl (fun K hK => ?_)
  have hsl : IsSl2 rpE (fun _ => True) (fun k => True ∧ v.ownBlock ≠ some k) wD (.slice (some ⟨w.heap.size + 1, 0, none⟩) 1 1) [x] :=
    ⟨_, 1, w.heap.size + 1, 0, fun _ => [.int .i64 x.key, .int .i64 x.weight, .int .i64 x.age], rfl, ⟨by simp [maxLen], by simp⟩, fun _ => ⟨rfl, trivial⟩, fun i j u hi hu => by
      obtain rfl : i = 0 := by simp at hi; omega
      exact y1.cell (by simpa using hu), fun i hi => by
      obtain rfl : i = 0 := by simp at hi; omega
      rfl⟩
  obtain ⟨v', w3, hrun, hacc, hg, hloc⟩ := run_append_sl rpE (by decide) (P := Try.prog) wD 53 53 base 30 i0 _ 24 Try.underlying53 hi0 hz0 hz1 hz2 rfl (by decide) (fun _ => True) v l (row_acc hr2) _ [x] hsl (by simp; omega) (by omega)
  rw [if_pos (by rfl)]
  refine oper_append_eq (.tmp 10) (.tmp 12) _ _ v' rfl hrun ?_
  try simp only [Act.put, List.setIfInBounds_toArray, List.set_cons_zero, List.set_cons_succ, List.getElem_toArray, List.getElem_cons_zero, List.getElem_cons_succ]
  have B3 : Off (Turn q v) w w3 := (Off.of_below _ B2).grown hg (fun k hk => .inr hk)
  have hq3 : Blk w3 q cs t := hq2.grown hg hv
  have hx3 : Blk w3 w.heap.size _ _ := x2.grown hg (fun e => by have := (hr.base_le _ e).2; omega)
  have hr3 := acc_row hacc
  clear hrun hsl hr2 hrB y1 hacc
  obtain ⟨g, cap, hv', hgb, hlc, hcm, -, -⟩ := hr3.open_ (by simp)
  obtain ⟨N, hN⟩ : ∃ N, (l ++ [x]).length = N := ⟨_, rfl⟩
  rw [hN] at hv' hlc
  subst hv'
  have HNl := Lib.hid (show N = l.length + 1 by rw [← hN]; simp)
  have HN := Lib.hid hN; clear hN
  have hS : (w3).cell? ⟨q, o, none⟩ = some v ∧ (w3).cell? ⟨w.heap.size, 0, none⟩ = some (.int .i64 x.key) ∧ (w3).cell? ⟨w.heap.size, 1, none⟩ = some (.int .i64 x.weight) ∧ (w3).cell? ⟨w.heap.size, 2, none⟩ = some (.int .i64 x.age) := ⟨hq3.cell ho, hx3.cell rfl, hx3.cell rfl, hx3.cell rfl⟩
  refine hK.out _ _ (fun _ => hS) ?_
  clear hK K
  try simp only [Act.put, List.setIfInBounds_toArray, List.set_cons_zero, List.set_cons_succ, List.getElem_toArray, List.getElem_cons_zero, List.getElem_cons_succ]
  refine wpN_pure (i := 8) (v := ?v7) rfl (by kernel_rfl) (fun _ _ _ h => h) (Or.inl ⟨by rfl, ?hy7⟩) ?hr7
  case hy7 => (intro wS hSw; go_simp; (try with_reducible rfl))
  try simp only [Act.put, List.setIfInBounds_toArray, List.set_cons_zero, List.set_cons_succ, List.getElem_toArray, List.getElem_cons_zero, List.getElem_cons_succ]
  refine wpN_pure (i := 9) (v := ?v8) rfl (by kernel_rfl) (fun _ _ _ h => h) (Or.inl ⟨by rfl, ?hy8⟩) ?hr8
  case hy8 => (intro wS hSw; go_simp; (try with_reducible rfl))
  try simp only [Act.put, List.setIfInBounds_toArray, List.set_cons_zero, List.set_cons_succ, List.getElem_toArray, List.getElem_cons_zero, List.getElem_cons_succ]
  have f0 := hq3.free o
  refine wpN_step (i := 10) (by kernel_rfl) rfl (fun K hK => ?_)
  go_simp
  refine hK.out _ _ (fun h => absurd h (by decide)) ?_
  clear hK K
  try simp only [Act.put, List.setIfInBounds_toArray, List.set_cons_zero, List.set_cons_succ, List.getElem_toArray, List.getElem_cons_zero, List.getElem_cons_succ]
  refine wpN_done (by kernel_rfl) ?_
  refine NoPanic.normal ?_
  have hgq : g ≠ q := by
    rintro rfl
    rcases hloc with h | h
    · exact hv (by rw [← h]; rfl)
    · have h2 : g = wD.heap.size := Option.some.inj h
      have := hq.lt
      omega
  have hgx : w.heap.size ≠ g := by
    rintro rfl
    rcases hloc with h | h
    · have := (hr.base_le w.heap.size (by rw [← h]; rfl)).2; omega
    · have h2 : w.heap.size = wD.heap.size := Option.some.inj h
      omega
  have hgl : ∀ k, (Value.slice (some ⟨g, 0, none⟩) N cap).ownBlock = some k → v.ownBlock = some k ∨ w.heap.size ≤ k := fun k hk => by
    rcases hloc with h | h
    · exact .inl (by rw [← h]; exact hk)
    · have h2 : k = wD.heap.size := by rw [hk] at h; exact Option.some.inj h
      exact .inr (by omega)
  have hq4 := hq3.set o (.slice (some ⟨g, 0, none⟩) N cap)
  have hr4 := hr3.far ⟨q, o, none⟩ (.slice (some ⟨g, 0, none⟩) N cap) (fun e => hgq (by cases e; rfl))
  have B4 := B3.set ⟨q, o, none⟩ (.slice (some ⟨g, 0, none⟩) N cap) (.inl (.inl rfl))
  obtain ⟨w4, hw4⟩ : ∃ w4, w3.setCell ⟨q, o, none⟩ (.slice (some ⟨g, 0, none⟩) N cap) = w4 := ⟨_, rfl⟩
  rw [hw4] at hq4 hr4 B4
  rw [hw4]
  clear hw4 hq3 hr3 B3 hx3 hq2 x2 x0 hqB B0 B2 f0 hg hloc
  obtain ⟨cs4, hcs⟩ : ∃ cs4, cs.setIfInBounds o (.slice (some ⟨g, 0, none⟩) N cap) = cs4 := ⟨_, rfl⟩
  have ho4 : cs4[o]? = some (.slice (some ⟨g, 0, none⟩) N cap) := by
    rw [← hcs, Array.getElem?_setIfInBounds_self_of_lt (Array.getElem?_eq_some_iff.1 ho).1]
  have hf4 : cs4[o + 1]? = some (.func (.func f) #[] #[]) := by rw [← hcs, Array.getElem?_setIfInBounds_ne (by omega)]; exact hf'
  rw [hcs] at hq4
  have c0 := hq4.cell ho4
  have hup := Hp.Up.start (x := x) hh
  have hUp := Lib.hid hup; clear hup hh
  have hN0 : N ≤ 900001 := by have := HNl.out; omega
  have hw1 : (1 : Int) ≤ N := by have := HNl.out; omega
  have hw2 : (N : Int) ≤ 900001 := by omega
  go_wp2_with fail
  go_loopw [4] (fun iv wr => ∃ (i : Nat) (l' : List Ent), iv = .int .i64 i ∧ i < N ∧ Hid (l'.length = N) ∧ Hid (l'.Perm (x :: l)) ∧ Hid (Hp.Up lt l' i) ∧ Row wr base (.slice (some ⟨g, 0, none⟩) N cap) l' ∧ Blk wr q cs4 t ∧ Off (Turn q v) w wr) (fun iv _ => (intOf iv).toNat)
  case atStart =>
    refine ⟨N - 1, l ++ [x], by rw [show ((N - 1 : Nat) : Int) = (N : Int) - 1 by omega], by have := HNl.out; omega, HN.out, ?_, ?_, hr4, hq4, B4⟩
    · exact List.perm_append_comm
    · have := HNl.out
      rw [show N - 1 = l.length by omega]
      exact hUp.out
  case round =>
    obtain ⟨i, l', rfl, hi, hl', hpm, hu, hr5, hq5, B5⟩ := hrel
    have c0 := hq5.cell ho4
    have c1 := hq5.cell hf4
    obtain ⟨g', cap', hve, -, -, -, hcell, hfree⟩ := hr5.open_ (by rw [hl'.out]; omega)
    have hge : g' = g := by injection hve with q1 q2 q3; cases q1; rfl
    subst hge
    clear hve
    by_cases h0 : 0 < i
    · have h0I : (0 : Int) < i := by omega
      go_wp2_with fail
      obtain ⟨p, hp⟩ : ∃ p, Hp.par i = p := ⟨_, rfl⟩
      have hpI : ((i : Int) - 1) / 2 = (p : Int) := by rw [← hp]; unfold Hp.par; omega
      have hpi : p < i := by rw [← hp]; exact Hp.par_lt h0
      rw [hpI]
      have HpI := Lib.hid hpI; clear hpI
      have Hp' := Lib.hid hp; clear hp
      obtain ⟨a, ha⟩ : ∃ a, Hp.at_ l' i = a := ⟨_, rfl⟩
      obtain ⟨b, hb'⟩ : ∃ b, Hp.at_ l' p = b := ⟨_, rfl⟩
      obtain ⟨a0, a1, a2⟩ := hcell i (by rw [hl'.out]; omega)
      obtain ⟨b0, b1, b2⟩ := hcell p (by rw [hl'.out]; omega)
      rw [← Hp.at_get, ha] at a0 a1 a2
      rw [← Hp.at_get, hb'] at b0 b1 b2
      clear hcell
      have Ha := Lib.hid ha; have Hb := Lib.hid hb'; clear ha hb'
      have i1 : (i : Int) < N := by omega
      have i2 : (p : Int) < N := by omega
      have i3 : (0 : Int) ≤ p := by omega
      obtain ⟨ak, aw, ag⟩ := a
      obtain ⟨bk, bw, bg⟩ := b
      dsimp only at a0 a1 a2 b0 b1 b2
      refine wp_region_noPanic (wp_region_need (S := fun w' => w'.cell? ⟨q, o, none⟩ = some (.slice (some ⟨g', 0, none⟩) N cap) ∧ w'.cell? ⟨q, o + 1, none⟩ = some (.func (.func f) #[] #[]) ∧ w'.cell? ⟨g', i * 3, none⟩ = some (.int .i64 ak) ∧ w'.cell? ⟨g', i * 3 + 1, none⟩ = some (.int .i64 aw) ∧ w'.cell? ⟨g', i * 3 + 2, none⟩ = some (.int .i64 ag) ∧ w'.cell? ⟨g', p * 3, none⟩ = some (.int .i64 bk) ∧ w'.cell? ⟨g', p * 3 + 1, none⟩ = some (.int .i64 bw) ∧ w'.cell? ⟨g', p * 3 + 2, none⟩ = some (.int .i64 bg)) (by kernel_rfl) ?_)
      have hS : (wr.drew).cell? ⟨q, o, none⟩ = some (.slice (some ⟨g', 0, none⟩) N cap) ∧ (wr.drew).cell? ⟨q, o + 1, none⟩ = some (.func (.func f) #[] #[]) ∧ (wr.drew).cell? ⟨g', i * 3, none⟩ = some (.int .i64 ak) ∧ (wr.drew).cell? ⟨g', i * 3 + 1, none⟩ = some (.int .i64 aw) ∧ (wr.drew).cell? ⟨g', i * 3 + 2, none⟩ = some (.int .i64 ag) ∧ (wr.drew).cell? ⟨g', p * 3, none⟩ = some (.int .i64 bk) ∧ (wr.drew).cell? ⟨g', p * 3 + 1, none⟩ = some (.int .i64 bw) ∧ (wr.drew).cell? ⟨g', p * 3 + 2, none⟩ = some (.int .i64 bg) := ⟨c0, c1, a0, a1, a2, b0, b1, b2⟩
      refine wpN_take (i := 0) (v := ?v9) rfl (by kernel_rfl) (fun _ _ _ h => h) hS (Or.inl ⟨by rfl, ?hy9⟩) ?hr9
      case hy9 => (intro wS hSw; (try dsimp only at hSw); go_simp; (try with_reducible rfl))
      try simp only [Act.put, List.setIfInBounds_toArray, List.set_cons_zero, List.set_cons_succ, List.getElem_toArray, List.getElem_cons_zero, List.getElem_cons_succ]
      refine wpN_take (i := 1) (v := ?v10) rfl (by kernel_rfl) (fun _ _ _ h => h) hS (Or.inl ⟨by rfl, ?hy10⟩) ?hr10
      case hy10 => (intro wS hSw; (try dsimp only at hSw); go_simp; (try with_reducible rfl))
      try simp only [Act.put, List.setIfInBounds_toArray, List.set_cons_zero, List.set_cons_succ, List.getElem_toArray, List.getElem_cons_zero, List.getElem_cons_succ]
      refine wpN_take (i := 2) (v := ?v11) rfl (by kernel_rfl) (fun _ _ _ h => h) hS (Or.inl ⟨by rfl, ?hy11⟩) ?hr11
      case hy11 => (intro wS hSw; (try dsimp only at hSw); go_simp; (try with_reducible rfl))
      try simp only [Act.put, List.setIfInBounds_toArray, List.set_cons_zero, List.set_cons_succ, List.getElem_toArray, List.getElem_cons_zero, List.getElem_cons_succ]
      refine wpN_take (i := 3) (v := ?v12) rfl (by kernel_rfl) (fun _ _ _ h => h) hS (Or.inl ⟨by rfl, ?hy12⟩) ?hr12
      case hy12 => (intro wS hSw; (try dsimp only at hSw); go_simp; (try with_reducible rfl))
      try simp only [Act.put, List.setIfInBounds_toArray, List.set_cons_zero, List.set_cons_succ, List.getElem_toArray, List.getElem_cons_zero, List.getElem_cons_succ]
      refine wpN_take (i := 4) (v := ?v13) rfl (by kernel_rfl) (fun _ _ _ h => h) hS (Or.inl ⟨by rfl, ?hy13⟩) ?hr13
      case hy13 => (intro wS hSw; (try dsimp only at hSw); go_simp; (try with_reducible rfl))
      try simp only [Act.put, List.setIfInBounds_toArray, List.set_cons_zero, List.set_cons_succ, List.getElem_toArray, List.getElem_cons_zero, List.getElem_cons_succ]
      refine wpN_take (i := 5) (v := ?v14) rfl (by kernel_rfl) (fun _ _ _ h => h) hS (Or.inl ⟨by rfl, ?hy14⟩) ?hr14
      case hy14 => (intro wS hSw; (try dsimp only at hSw); go_simp; (try with_reducible rfl))
      try simp only [Act.put, List.setIfInBounds_toArray, List.set_cons_zero, List.set_cons_succ, List.getElem_toArray, List.getElem_cons_zero, List.getElem_cons_succ]
      refine wpN_take (i := 6) (v := ?v15) rfl (by kernel_rfl) (fun _ _ _ h => h) hS (Or.inl ⟨by rfl, ?hy15⟩) ?hr15
      case hy15 => (intro wS hSw; (try dsimp only at hSw); go_simp; (try with_reducible rfl))
      try simp only [Act.put, List.setIfInBounds_toArray, List.set_cons_zero, List.set_cons_succ, List.getElem_toArray, List.getElem_cons_zero, List.getElem_cons_succ]
      refine wpN_take (i := 7) (v := ?v16) rfl (by kernel_rfl) (fun _ _ _ h => h) hS (Or.inl ⟨by rfl, ?hy16⟩) ?hr16
      case hy16 => (intro wS hSw; (try dsimp only at hSw); go_simp; (try with_reducible rfl))
      try simp only [Act.put, List.setIfInBounds_toArray, List.set_cons_zero, List.set_cons_succ, List.getElem_toArray, List.getElem_cons_zero, List.getElem_cons_succ]
      refine wpN_take (i := 8) (v := ?v17) rfl (by kernel_rfl) (fun _ _ _ h => h) hS (Or.inl ⟨by rfl, ?hy17⟩) ?hr17
      case hy17 => (intro wS hSw; (try dsimp only at hSw); go_simp; (try with_reducible rfl))
      try simp only [Act.put, List.setIfInBounds_toArray, List.set_cons_zero, List.set_cons_succ, List.getElem_toArray, List.getElem_cons_zero, List.getElem_cons_succ]
      refine wpN_take (i := 9) (v := ?v18) rfl (by kernel_rfl) (fun _ _ _ h => h) hS (Or.inl ⟨by rfl, ?hy18⟩) ?hr18
      case hy18 => (intro wS hSw; (try dsimp only at hSw); go_simp; (try with_reducible rfl))
      try simp only [Act.put, List.setIfInBounds_toArray, List.set_cons_zero, List.set_cons_succ, List.getElem_toArray, List.getElem_cons_zero, List.getElem_cons_succ]
      refine wpN_take (i := 10) (v := ?v19) rfl (by kernel_rfl) (fun _ _ _ h => h) hS (Or.inl ⟨by rfl, ?hy19⟩) ?hr19
      case hy19 => (intro wS hSw; (try dsimp only at hSw); go_simp; (try with_reducible rfl))
      try simp only [Act.put, List.setIfInBounds_toArray, List.set_cons_zero, List.set_cons_succ, List.getElem_toArray, List.getElem_cons_zero, List.getElem_cons_succ]
      refine wpN_take (i := 11) (v := ?v20) rfl (by kernel_rfl) (fun _ _ _ h => h) hS (Or.inl ⟨by rfl, ?hy20⟩) ?hr20
      case hy20 => (intro wS hSw; (try dsimp only at hSw); go_simp; (try with_reducible rfl))
      try simp only [Act.put, List.setIfInBounds_toArray, List.set_cons_zero, List.set_cons_succ, List.getElem_toArray, List.getElem_cons_zero, List.getElem_cons_succ]
      refine wpN_take (i := 12) (v := ?v21) rfl (by kernel_rfl) (fun _ _ _ h => h) hS (Or.inl ⟨by rfl, ?hy21⟩) ?hr21
      case hy21 => (intro wS hSw; (try dsimp only at hSw); go_simp; (try with_reducible rfl))
      try simp only [Act.put, List.setIfInBounds_toArray, List.set_cons_zero, List.set_cons_succ, List.getElem_toArray, List.getElem_cons_zero, List.getElem_cons_succ]
      refine wpN_take (i := 13) (v := ?v22) rfl (by kernel_rfl) (fun _ _ _ h => h) hS (Or.inl ⟨by rfl, ?hy22⟩) ?hr22
      case hy22 => (intro wS hSw; (try dsimp only at hSw); go_simp; (try with_reducible rfl))
      try simp only [Act.put, List.setIfInBounds_toArray, List.set_cons_zero, List.set_cons_succ, List.getElem_toArray, List.getElem_cons_zero, List.getElem_cons_succ]
      refine wpN_take (i := 14) (v := ?v23) rfl (by kernel_rfl) (fun _ _ _ h => h) hS (Or.inl ⟨by rfl, ?hy23⟩) ?hr23
      case hy23 => (intro wS hSw; (try dsimp only at hSw); go_simp; (try with_reducible rfl))
      try simp only [Act.put, List.setIfInBounds_toArray, List.set_cons_zero, List.set_cons_succ, List.getElem_toArray, List.getElem_cons_zero, List.getElem_cons_succ]
      refine wpN_take (i := 15) (v := ?v24) rfl (by kernel_rfl) (fun _ _ _ h => h) hS (Or.inl ⟨by rfl, ?hy24⟩) ?hr24
      case hy24 => (intro wS hSw; (try dsimp only at hSw); go_simp; (try with_reducible rfl))
      try simp only [Act.put, List.setIfInBounds_toArray, List.set_cons_zero, List.set_cons_succ, List.getElem_toArray, List.getElem_cons_zero, List.getElem_cons_succ]
      refine wpN_take (i := 16) (v := ?v25) rfl (by kernel_rfl) (fun _ _ _ h => h) hS (Or.inl ⟨by rfl, ?hy25⟩) ?hr25
      case hy25 => (intro wS hSw; (try dsimp only at hSw); go_simp; (try with_reducible rfl))
      try simp only [Act.put, List.setIfInBounds_toArray, List.set_cons_zero, List.set_cons_succ, List.getElem_toArray, List.getElem_cons_zero, List.getElem_cons_succ]
      refine wpN_take (i := 17) (v := ?v26) rfl (by kernel_rfl) (fun _ _ _ h => h) hS (Or.inl ⟨by rfl, ?hy26⟩) ?hr26
      case hy26 => (intro wS hSw; (try dsimp only at hSw); go_simp; (try with_reducible rfl))
      try simp only [Act.put, List.setIfInBounds_toArray, List.set_cons_zero, List.set_cons_succ, List.getElem_toArray, List.getElem_cons_zero, List.getElem_cons_succ]
      refine wpN_step (i := 18) (by kernel_rfl) rfl (fun K hK => ?_)
      have hen := hf.enters
      go_simp
      clear hen
      refine (hf.calls ⟨ak, aw, ag⟩ ⟨bk, bw, bg⟩ _).mono ?_
      rintro e w6 ⟨rfl, hb6⟩
      have hb6' : Below wr.heap.size wr w6 := (Below.refl _ _).drew.trans hb6
      have q0 := (hq5.below hb6').cell ho4
      have q1 := (hq5.below hb6').cell hf4
      have hr6 := hr5.below hb6'
      have hq6 := hq5.below hb6'
      have B6 := B5.below hb6'
      have K6 := (Keep.refl (fun _ => True) wr).below hb6'
      have a0 := K6 _ _ _ trivial a0; have a1 := K6 _ _ _ trivial a1; have a2 := K6 _ _ _ trivial a2
      have b0 := K6 _ _ _ trivial b0; have b1 := K6 _ _ _ trivial b1; have b2 := K6 _ _ _ trivial b2
      have hS : (w6).cell? ⟨q, o, none⟩ = some (.slice (some ⟨g', 0, none⟩) N cap) ∧ (w6).cell? ⟨q, o + 1, none⟩ = some (.func (.func f) #[] #[]) ∧ (w6).cell? ⟨g', i * 3, none⟩ = some (.int .i64 ak) ∧ (w6).cell? ⟨g', i * 3 + 1, none⟩ = some (.int .i64 aw) ∧ (w6).cell? ⟨g', i * 3 + 2, none⟩ = some (.int .i64 ag) ∧ (w6).cell? ⟨g', p * 3, none⟩ = some (.int .i64 bk) ∧ (w6).cell? ⟨g', p * 3 + 1, none⟩ = some (.int .i64 bw) ∧ (w6).cell? ⟨g', p * 3 + 2, none⟩ = some (.int .i64 bg) := ⟨q0, q1, a0, a1, a2, b0, b1, b2⟩
      refine hK.out _ _ (fun _ => hS) ?_
      clear hK K
      try simp only [Act.put, List.setIfInBounds_toArray, List.set_cons_zero, List.set_cons_succ, List.getElem_toArray, List.getElem_cons_zero, List.getElem_cons_succ]
      refine wpN_pure (i := 19) (v := ?v27) rfl (by kernel_rfl) (fun _ _ _ h => h) (Or.inl ⟨by rfl, ?hy27⟩) ?hr27
      case hy27 => (intro wS hSw; go_simp; (try with_reducible rfl))
      try simp only [Act.put, List.setIfInBounds_toArray, List.set_cons_zero, List.set_cons_succ, List.getElem_toArray, List.getElem_cons_zero, List.getElem_cons_succ]
      refine wpN_done (by kernel_rfl) ?_
      refine NoPanic.normal ?_
      obtain ⟨r, hrr⟩ : ∃ r, lt ⟨ak, aw, ag⟩ ⟨bk, bw, bg⟩ = r := ⟨_, rfl⟩
      rw [hrr]
      have Hrr := Lib.hid hrr; clear hrr
      cases r
      · go_wp2_with fail
        (try simp only [Exit.inBlock, Exit.then]); refine bodyPost_ret (results_none rfl _ _ _) rfl ?_
        refine ⟨rfl, _, l', by rw [hcs]; exact hq6, hr6, hpm.out, ?_, hgl, B6⟩
        exact hu.out.done fun _ => by rw [Hp'.out, Ha.out, Hb.out]; exact Hrr.out
      · go_wp2_with fail
        refine wp_region_noPanic (wp_region_need (S := fun w' => w'.cell? ⟨q, o, none⟩ = some (.slice (some ⟨g', 0, none⟩) N cap) ∧ w'.cell? ⟨g', i * 3, none⟩ = some (.int .i64 ak) ∧ w'.cell? ⟨g', i * 3 + 1, none⟩ = some (.int .i64 aw) ∧ w'.cell? ⟨g', i * 3 + 2, none⟩ = some (.int .i64 ag) ∧ w'.cell? ⟨g', p * 3, none⟩ = some (.int .i64 bk) ∧ w'.cell? ⟨g', p * 3 + 1, none⟩ = some (.int .i64 bw) ∧ w'.cell? ⟨g', p * 3 + 2, none⟩ = some (.int .i64 bg)) (by kernel_rfl) ?_)
        have hS : (w6.drew).cell? ⟨q, o, none⟩ = some (.slice (some ⟨g', 0, none⟩) N cap) ∧ (w6.drew).cell? ⟨g', i * 3, none⟩ = some (.int .i64 ak) ∧ (w6.drew).cell? ⟨g', i * 3 + 1, none⟩ = some (.int .i64 aw) ∧ (w6.drew).cell? ⟨g', i * 3 + 2, none⟩ = some (.int .i64 ag) ∧ (w6.drew).cell? ⟨g', p * 3, none⟩ = some (.int .i64 bk) ∧ (w6.drew).cell? ⟨g', p * 3 + 1, none⟩ = some (.int .i64 bw) ∧ (w6.drew).cell? ⟨g', p * 3 + 2, none⟩ = some (.int .i64 bg) := ⟨q0, a0, a1, a2, b0, b1, b2⟩
        refine wpN_pure (i := 0) (v := ?v28) rfl (by kernel_rfl) (fun _ _ _ h => h) (Or.inl ⟨by rfl, ?hy28⟩) ?hr28
        case hy28 => (intro wS hSw; go_simp; (try with_reducible rfl))
        try simp only [Act.put, List.setIfInBounds_toArray, List.set_cons_zero, List.set_cons_succ, List.getElem_toArray, List.getElem_cons_zero, List.getElem_cons_succ]
        refine wpN_pure (i := 1) (v := ?v29) rfl (by kernel_rfl) (fun _ _ _ h => h) (Or.inl ⟨by rfl, ?hy29⟩) ?hr29
        case hy29 => (intro wS hSw; go_simp; (try with_reducible rfl))
        try simp only [Act.put, List.setIfInBounds_toArray, List.set_cons_zero, List.set_cons_succ, List.getElem_toArray, List.getElem_cons_zero, List.getElem_cons_succ]
        refine wpN_pure (i := 2) (v := ?v30) rfl (by kernel_rfl) (fun _ _ _ h => h) (Or.inl ⟨by rfl, ?hy30⟩) ?hr30
        case hy30 => (intro wS hSw; go_simp; (try with_reducible rfl))
        try simp only [Act.put, List.setIfInBounds_toArray, List.set_cons_zero, List.set_cons_succ, List.getElem_toArray, List.getElem_cons_zero, List.getElem_cons_succ]
        refine wpN_take (i := 3) (v := ?v31) rfl (by kernel_rfl) (fun _ _ _ h => h) hS (Or.inl ⟨by rfl, ?hy31⟩) ?hr31
        case hy31 => (intro wS hSw; (try dsimp only at hSw); go_simp; (try with_reducible rfl))
        try simp only [Act.put, List.setIfInBounds_toArray, List.set_cons_zero, List.set_cons_succ, List.getElem_toArray, List.getElem_cons_zero, List.getElem_cons_succ]
        refine wpN_pure (i := 4) (v := ?v32) rfl (by kernel_rfl) (fun _ _ _ h => h) (Or.inl ⟨by rfl, ?hy32⟩) ?hr32
        case hy32 => (intro wS hSw; go_simp; (try with_reducible rfl))
        try simp only [Act.put, List.setIfInBounds_toArray, List.set_cons_zero, List.set_cons_succ, List.getElem_toArray, List.getElem_cons_zero, List.getElem_cons_succ]
        refine wpN_pure (i := 5) (v := ?v33) rfl (by kernel_rfl) (fun _ _ _ h => h) (Or.inl ⟨by rfl, ?hy33⟩) ?hr33
        case hy33 => (intro wS hSw; go_simp; (try with_reducible rfl))
        try simp only [Act.put, List.setIfInBounds_toArray, List.set_cons_zero, List.set_cons_succ, List.getElem_toArray, List.getElem_cons_zero, List.getElem_cons_succ]
        refine wpN_pure (i := 6) (v := ?v34) rfl (by kernel_rfl) (fun _ _ _ h => h) (Or.inl ⟨by rfl, ?hy34⟩) ?hr34
        case hy34 => (intro wS hSw; go_simp; (try with_reducible rfl))
        try simp only [Act.put, List.setIfInBounds_toArray, List.set_cons_zero, List.set_cons_succ, List.getElem_toArray, List.getElem_cons_zero, List.getElem_cons_succ]
        refine wpN_pure (i := 7) (v := ?v35) rfl (by kernel_rfl) (fun _ _ _ h => h) (Or.inl ⟨by rfl, ?hy35⟩) ?hr35
        case hy35 => (intro wS hSw; go_simp; (try with_reducible rfl))
        try simp only [Act.put, List.setIfInBounds_toArray, List.set_cons_zero, List.set_cons_succ, List.getElem_toArray, List.getElem_cons_zero, List.getElem_cons_succ]
        refine wpN_take (i := 8) (v := ?v36) rfl (by kernel_rfl) (fun _ _ _ h => h) hS (Or.inl ⟨by rfl, ?hy36⟩) ?hr36
        case hy36 => (intro wS hSw; (try dsimp only at hSw); go_simp; (try with_reducible rfl))
        try simp only [Act.put, List.setIfInBounds_toArray, List.set_cons_zero, List.set_cons_succ, List.getElem_toArray, List.getElem_cons_zero, List.getElem_cons_succ]
        refine wpN_pure (i := 9) (v := ?v37) rfl (by kernel_rfl) (fun _ _ _ h => h) (Or.inl ⟨by rfl, ?hy37⟩) ?hr37
        case hy37 => (intro wS hSw; go_simp; (try with_reducible rfl))
        try simp only [Act.put, List.setIfInBounds_toArray, List.set_cons_zero, List.set_cons_succ, List.getElem_toArray, List.getElem_cons_zero, List.getElem_cons_succ]
        refine wpN_pure (i := 10) (v := ?v38) rfl (by kernel_rfl) (fun _ _ _ h => h) (Or.inl ⟨by rfl, ?hy38⟩) ?hr38
        case hy38 => (intro wS hSw; go_simp; (try with_reducible rfl))
        try simp only [Act.put, List.setIfInBounds_toArray, List.set_cons_zero, List.set_cons_succ, List.getElem_toArray, List.getElem_cons_zero, List.getElem_cons_succ]
        refine wpN_pure (i := 11) (v := ?v39) rfl (by kernel_rfl) (fun _ _ _ h => h) (Or.inl ⟨by rfl, ?hy39⟩) ?hr39
        case hy39 => (intro wS hSw; go_simp; (try with_reducible rfl))
        try simp only [Act.put, List.setIfInBounds_toArray, List.set_cons_zero, List.set_cons_succ, List.getElem_toArray, List.getElem_cons_zero, List.getElem_cons_succ]
        refine wpN_pure (i := 12) (v := ?v40) rfl (by kernel_rfl) (fun _ _ _ h => h) (Or.inl ⟨by rfl, ?hy40⟩) ?hr40
        case hy40 => (intro wS hSw; go_simp; (try with_reducible rfl))
        try simp only [Act.put, List.setIfInBounds_toArray, List.set_cons_zero, List.set_cons_succ, List.getElem_toArray, List.getElem_cons_zero, List.getElem_cons_succ]
        refine wpN_take (i := 13) (v := ?v41) rfl (by kernel_rfl) (fun _ _ _ h => h) hS (Or.inl ⟨by rfl, ?hy41⟩) ?hr41
        case hy41 => (intro wS hSw; (try dsimp only at hSw); go_simp; (try with_reducible rfl))
        try simp only [Act.put, List.setIfInBounds_toArray, List.set_cons_zero, List.set_cons_succ, List.getElem_toArray, List.getElem_cons_zero, List.getElem_cons_succ]
        refine wpN_pure (i := 14) (v := ?v42) rfl (by kernel_rfl) (fun _ _ _ h => h) (Or.inl ⟨by rfl, ?hy42⟩) ?hr42
        case hy42 => (intro wS hSw; go_simp; (try with_reducible rfl))
        try simp only [Act.put, List.setIfInBounds_toArray, List.set_cons_zero, List.set_cons_succ, List.getElem_toArray, List.getElem_cons_zero, List.getElem_cons_succ]
        refine wpN_pure (i := 15) (v := ?v43) rfl (by kernel_rfl) (fun _ _ _ h => h) (Or.inl ⟨by rfl, ?hy43⟩) ?hr43
        case hy43 => (intro wS hSw; go_simp; (try with_reducible rfl))
        try simp only [Act.put, List.setIfInBounds_toArray, List.set_cons_zero, List.set_cons_succ, List.getElem_toArray, List.getElem_cons_zero, List.getElem_cons_succ]
        refine wpN_take (i := 16) (v := ?v44) rfl (by kernel_rfl) (fun _ _ _ h => h) hS (Or.inl ⟨by rfl, ?hy44⟩) ?hr44
        case hy44 => (intro wS hSw; (try dsimp only at hSw); go_simp; (try with_reducible rfl))
        try simp only [Act.put, List.setIfInBounds_toArray, List.set_cons_zero, List.set_cons_succ, List.getElem_toArray, List.getElem_cons_zero, List.getElem_cons_succ]
        refine wpN_pure (i := 17) (v := ?v45) rfl (by kernel_rfl) (fun _ _ _ h => h) (Or.inl ⟨by rfl, ?hy45⟩) ?hr45
        case hy45 => (intro wS hSw; go_simp; (try with_reducible rfl))
        try simp only [Act.put, List.setIfInBounds_toArray, List.set_cons_zero, List.set_cons_succ, List.getElem_toArray, List.getElem_cons_zero, List.getElem_cons_succ]
        refine wpN_pure (i := 18) (v := ?v46) rfl (by kernel_rfl) (fun _ _ _ h => h) (Or.inl ⟨by rfl, ?hy46⟩) ?hr46
        case hy46 => (intro wS hSw; go_simp; (try with_reducible rfl))
        try simp only [Act.put, List.setIfInBounds_toArray, List.set_cons_zero, List.set_cons_succ, List.getElem_toArray, List.getElem_cons_zero, List.getElem_cons_succ]
        refine wpN_pure (i := 19) (v := ?v47) rfl (by kernel_rfl) (fun _ _ _ h => h) (Or.inl ⟨by rfl, ?hy47⟩) ?hr47
        case hy47 => (intro wS hSw; go_simp; (try with_reducible rfl))
        try simp only [Act.put, List.setIfInBounds_toArray, List.set_cons_zero, List.set_cons_succ, List.getElem_toArray, List.getElem_cons_zero, List.getElem_cons_succ]
        refine wpN_take (i := 20) (v := ?v48) rfl (by kernel_rfl) (fun _ _ _ h => h) hS (Or.inl ⟨by rfl, ?hy48⟩) ?hr48
        case hy48 => (intro wS hSw; (try dsimp only at hSw); go_simp; (try with_reducible rfl))
        try simp only [Act.put, List.setIfInBounds_toArray, List.set_cons_zero, List.set_cons_succ, List.getElem_toArray, List.getElem_cons_zero, List.getElem_cons_succ]
        refine wpN_pure (i := 21) (v := ?v49) rfl (by kernel_rfl) (fun _ _ _ h => h) (Or.inl ⟨by rfl, ?hy49⟩) ?hr49
        case hy49 => (intro wS hSw; go_simp; (try with_reducible rfl))
        try simp only [Act.put, List.setIfInBounds_toArray, List.set_cons_zero, List.set_cons_succ, List.getElem_toArray, List.getElem_cons_zero, List.getElem_cons_succ]
        refine wpN_pure (i := 22) (v := ?v50) rfl (by kernel_rfl) (fun _ _ _ h => h) (Or.inl ⟨by rfl, ?hy50⟩) ?hr50
        case hy50 => (intro wS hSw; go_simp; (try with_reducible rfl))
        try simp only [Act.put, List.setIfInBounds_toArray, List.set_cons_zero, List.set_cons_succ, List.getElem_toArray, List.getElem_cons_zero, List.getElem_cons_succ]
        refine wpN_take (i := 23) (v := ?v51) rfl (by kernel_rfl) (fun _ _ _ h => h) hS (Or.inl ⟨by rfl, ?hy51⟩) ?hr51
        case hy51 => (intro wS hSw; (try dsimp only at hSw); go_simp; (try with_reducible rfl))
        try simp only [Act.put, List.setIfInBounds_toArray, List.set_cons_zero, List.set_cons_succ, List.getElem_toArray, List.getElem_cons_zero, List.getElem_cons_succ]
        refine wpN_pure (i := 24) (v := ?v52) rfl (by kernel_rfl) (fun _ _ _ h => h) (Or.inl ⟨by rfl, ?hy52⟩) ?hr52
        case hy52 => (intro wS hSw; go_simp; (try with_reducible rfl))
        try simp only [Act.put, List.setIfInBounds_toArray, List.set_cons_zero, List.set_cons_succ, List.getElem_toArray, List.getElem_cons_zero, List.getElem_cons_succ]
        have hr7 := hr6.below (Below.refl _ _).drew
        have hq7 := hq6.below (Below.refl _ _).drew
        have B7 := B6.drew
        obtain ⟨w7, hw7⟩ : ∃ w7, w6.drew = w7 := ⟨_, rfl⟩
        rw [hw7] at hr7 hq7 B7 hS ⊢
        obtain ⟨g7, _, hve, -, -, -, hcell, hfree⟩ := hr7.open_ (by rw [hl'.out]; omega)
        have hge : g' = g7 := by injection hve with q1 q2 q3; cases q1; rfl
        subst hge
        clear hve
        have f1 := hfree (i * 3); have f2 := hfree (i * 3 + 1); have f3 := hfree (i * 3 + 2)
        have f4 := hfree (p * 3); have f5 := hfree (p * 3 + 1); have f6 := hfree (p * 3 + 2)
        obtain ⟨a0, a1, a2⟩ := hcell i (by rw [hl'.out]; omega)
        obtain ⟨b0, b1, b2⟩ := hcell p (by rw [hl'.out]; omega)
        refine wpN_step (i := 25) (by kernel_rfl) rfl (fun K hK => ?_)
        go_simp
        have Ra : (⟨ak, aw, ag⟩ : Ent) = Hp.at_ l' i := Ha.out.symm
        have Rb : (⟨bk, bw, bg⟩ : Ent) = Hp.at_ l' p := Hb.out.symm
        have hr8 := hr7.set i (by rw [hl'.out]; omega) ⟨bk, bw, bg⟩ (g := g') (cap := cap) (by rw [hl'.out])
        dsimp only at hr8
        have hq8 : Blk (((w7.setCell ⟨g', i * 3, none⟩ (.int .i64 bk)).setCell ⟨g', i * 3 + 1, none⟩ (.int .i64 bw)).setCell ⟨g', i * 3 + 2, none⟩ (.int .i64 bg)) q cs4 t := ((hq7.far _ _ (Ne.symm hgq)).far _ _ (Ne.symm hgq)).far _ _ (Ne.symm hgq)
        have hT : Turn q v g' ∨ w.heap.size ≤ g' := (hgl g' rfl).imp .inr id
        have B8 := ((B7.set ⟨g', i * 3, none⟩ (.int .i64 bk) hT).set ⟨g', i * 3 + 1, none⟩ (.int .i64 bw) hT).set ⟨g', i * 3 + 2, none⟩ (.int .i64 bg) hT
        obtain ⟨w8, hw8⟩ : ∃ w8, ((w7.setCell ⟨g', i * 3, none⟩ (.int .i64 bk)).setCell ⟨g', i * 3 + 1, none⟩ (.int .i64 bw)).setCell ⟨g', i * 3 + 2, none⟩ (.int .i64 bg) = w8 := ⟨_, rfl⟩
        rw [hw8] at hr8 hq8 B8 ⊢
        clear hw8 hr7 hq7 B7 hS
        have hl8 : (l'.set i ⟨bk, bw, bg⟩).length = N := by rw [List.length_set, hl'.out]
        obtain ⟨g8, _, hve, -, -, -, hcell8, hfree8⟩ := hr8.open_ (by rw [hl8]; omega)
        have hge : g' = g8 := by injection hve with q1 q2 q3; cases q1; rfl
        subst hge
        clear hve
        have f4 := hfree8 (p * 3); have f5 := hfree8 (p * 3 + 1); have f6 := hfree8 (p * 3 + 2)
        clear f1 f2 f3
        obtain ⟨d0, d1, d2⟩ := hcell8 p (by rw [hl8]; omega)
        refine hK.out _ _ (fun h => absurd h (by decide)) ?_
        clear hK K
        try simp only [Act.put, List.setIfInBounds_toArray, List.set_cons_zero, List.set_cons_succ, List.getElem_toArray, List.getElem_cons_zero, List.getElem_cons_succ]
        refine wpN_pure (i := 26) (v := ?v53) rfl (by kernel_rfl) (fun _ _ _ h => h) (Or.inl ⟨by rfl, ?hy53⟩) ?hr53
        case hy53 => (intro wS hSw; go_simp; (try with_reducible rfl))
        try simp only [Act.put, List.setIfInBounds_toArray, List.set_cons_zero, List.set_cons_succ, List.getElem_toArray, List.getElem_cons_zero, List.getElem_cons_succ]
        refine wpN_step (i := 27) (by kernel_rfl) rfl (fun K hK => ?_)
        go_simp
        have hr9 := hr8.set p (by rw [hl8]; omega) ⟨ak, aw, ag⟩ (g := g') (cap := cap) (by rw [hl8])
        dsimp only at hr9
        have hq9 : Blk (((w8.setCell ⟨g', p * 3, none⟩ (.int .i64 ak)).setCell ⟨g', p * 3 + 1, none⟩ (.int .i64 aw)).setCell ⟨g', p * 3 + 2, none⟩ (.int .i64 ag)) q cs4 t := ((hq8.far _ _ (Ne.symm hgq)).far _ _ (Ne.symm hgq)).far _ _ (Ne.symm hgq)
        have B9 := ((B8.set ⟨g', p * 3, none⟩ (.int .i64 ak) hT).set ⟨g', p * 3 + 1, none⟩ (.int .i64 aw) hT).set ⟨g', p * 3 + 2, none⟩ (.int .i64 ag) hT
        have hsw : (l'.set i ⟨bk, bw, bg⟩).set p ⟨ak, aw, ag⟩ = Hp.swap l' i p := by unfold Hp.swap; rw [← Ra, ← Rb]
        rw [hsw] at hr9
        obtain ⟨w9, hw9⟩ : ∃ w9, ((w8.setCell ⟨g', p * 3, none⟩ (.int .i64 ak)).setCell ⟨g', p * 3 + 1, none⟩ (.int .i64 aw)).setCell ⟨g', p * 3 + 2, none⟩ (.int .i64 ag) = w9 := ⟨_, rfl⟩
        rw [hw9] at hr9 hq9 B9 ⊢
        clear hw9
        refine hK.out _ _ (fun h => absurd h (by decide)) ?_
        clear hK K
        try simp only [Act.put, List.setIfInBounds_toArray, List.set_cons_zero, List.set_cons_succ, List.getElem_toArray, List.getElem_cons_zero, List.getElem_cons_succ]
        refine wpN_done (by kernel_rfl) ?_
        refine NoPanic.normal ?_
        have hstep := Lib.hid (hu.out.step O (by rw [hl'.out]; omega) h0 (by rw [Hp'.out, Ha.out, Hb.out]; exact Hrr.out))
        have hperm := Lib.hid ((Hp.swap_perm l' i p (by rw [hl'.out]; omega) (by rw [hl'.out]; omega)).trans hpm.out)
        clear hu hpm
        go_wp2_with fail
        go_roundw
        case rel => exact ⟨p, Hp.swap l' i p, rfl, by omega, by show _ = _; rw [Hp.length_swap, hl'.out], hperm.out, by have := hstep.out; rwa [Hp'.out] at this, hr9, hq9, B9⟩
        case measure => simp [intOf]; omega
    · go_wp2_with fail
      go_end0
      refine ⟨rfl, _, l', by rw [hcs]; exact hq5, hr5, hpm.out, ?_, hgl, B5⟩
      exact hu.out.done fun h => absurd h h0
end Go.Proofs.Ytplfbdkljnblmaa

namespace Go.Proofs.Ytplfbdkljnblmaa
open Go.RowKit

namespace Hp
theorem Ord.irrefl {lt : Ent → Ent → Bool} (O : Ord lt) (a : Ent) : lt a a = false := by
  cases h : lt a a
  · rfl
  · have := O.asym _ _ h; rw [h] at this; exact this
structure Best (lt : Ent → Ent → Bool) (l : List Ent) (n i j b : Nat) : Prop where
  of : b = i ∨ (b < n ∧ 0 < b ∧ par b = i)
  top : lt (at_ l i) (at_ l b) = false
  all : ∀ c, 2 * i + 1 ≤ c → c < 2 * i + 1 + j → c < n → lt (at_ l c) (at_ l b) = false
section
variable {lt : Ent → Ent → Bool} (O : Ord lt) {l : List Ent} {n i j b : Nat}
include O
theorem Best.start : Best lt l n i 0 i := ⟨.inl rfl, O.irrefl _, fun c h1 h2 => by omega⟩
theorem Best.take (h : Best lt l n i j b) (hj : j < 2) (hk : 2 * i + 1 + j < n) (hlt : lt (at_ l (2 * i + 1 + j)) (at_ l b) = true) : Best lt l n i (j + 1) (2 * i + 1 + j) := by
  have A := O.asym _ _ hlt
  refine ⟨.inr ⟨hk, by omega, by unfold par; omega⟩, O.trans _ _ _ A h.top, fun c h1 h2 h3 => ?_⟩
  by_cases he : c = 2 * i + 1 + j
  · rw [he]; exact O.irrefl _
  · exact O.trans _ _ _ A (h.all c h1 (by omega) h3)
omit O in
theorem Best.keep (h : Best lt l n i j b) (hk : 2 * i + 1 + j < n → lt (at_ l (2 * i + 1 + j)) (at_ l b) = false) : Best lt l n i (j + 1) b := by
  refine ⟨h.of, h.top, fun c h1 h2 h3 => ?_⟩
  by_cases he : c = 2 * i + 1 + j
  · rw [he]; exact hk (by omega)
  · exact h.all c h1 (by omega) h3
omit O in
theorem Best.children (h : Best lt l n i 2 b) : ∀ c, c < n → 0 < c → par c = i → lt (at_ l c) (at_ l b) = false := fun c h1 h2 h3 => h.all c (by unfold par at h3; omega) (by unfold par at h3; omega) h1
end
end Hp

set_option maxRecDepth 100000 in
set_option maxHeartbeats 8000000 in
theorem pop_q {f : FuncId} {lt : Ent → Ent → Bool} (hf : Fst f lt) (O : Hp.Ord lt) {w : World} {q o : Nat} {cs : Array Value} {t : TypeId} {v : Value} {l : List Ent} {base : Nat} (hq : Blk w q cs t) (ho : cs[o]? = some v) (hf' : cs[o + 1]? = some (.func (.func f) #[] #[]))
    (hr : Row w base v l) (hh : Hp.Heap lt l) (hv : v.ownBlock ≠ some q) (hl : l.length ≤ 900001) (h0 : 0 < l.length) :
    Calls Try.prog 34 #[.pointer (some ⟨q, o, none⟩)] w fun e w' => e = .returned (.tuple #[]) ∧ ∃ v' l', Blk w' q (cs.setIfInBounds o v') t ∧ Row w' base v' l' ∧ l.Perm (Hp.at_ l 0 :: l') ∧ Hp.Heap lt l' ∧
      v'.ownBlock = v.ownBlock ∧ Off (Turn q v) w w' := by
  obtain ⟨n, hn⟩ : ∃ n, l.length = n + 1 := ⟨l.length - 1, by omega⟩
  obtain ⟨g, cap, hve, hgb, hlc, hcm, hcell, hfree⟩ := hr.open_ h0
  rw [hn] at hve hlc
  subst hve
  have hgq : g ≠ q := fun e => hv (by rw [e]; rfl)
  have c0 := hq.cell ho
  have f0 := hq.free o
  obtain ⟨a0, a1, a2⟩ := hcell n (by omega)
  obtain ⟨b0, b1, b2⟩ := hcell 0 (by omega)
  rw [← Hp.at_get (by omega)] at a0 a1 a2
  have Hd := Lib.hid (Hp.Down.start hh n hn)
  have HP := Lib.hid (Hp.pop_perm hn)
  have Hn := Lib.hid hn
  have hn1 : (n : Int) ≤ 900000 := by omega
  have hn2 : (0 : Int) ≤ n := by omega
  obtain ⟨x, hx⟩ : ∃ x, Hp.at_ l n = x := ⟨_, rfl⟩
  rw [hx] at a0 a1 a2 Hd HP
  obtain ⟨xk, xw, xg⟩ := x
  dsimp only at a0 a1 a2
  clear hn hx hh hcell
  go_enter Try.func34, Try.ntmps34
  go_wp2_with fail
  have f1 := hfree 0; have f2 := hfree 1; have f3 := hfree 2
  simp only [Nat.zero_mul, Nat.zero_add] at b0 b1 b2
  have n1 : (n : Int) < (n : Int) + 1 := by omega
  have n3 : (0 : Int) < (n : Int) + 1 := by omega
  refine wp_region_noPanic (wp_region_need (S := fun w' => w'.cell? ⟨q, o, none⟩ = some (.slice (some ⟨g, 0, none⟩) (n + 1) cap) ∧ w'.cell? ⟨g, n * 3, none⟩ = some (.int .i64 xk) ∧ w'.cell? ⟨g, n * 3 + 1, none⟩ = some (.int .i64 xw) ∧ w'.cell? ⟨g, n * 3 + 2, none⟩ = some (.int .i64 xg)) (by kernel_rfl) ?_)
  have hS : (w.drew).cell? ⟨q, o, none⟩ = some (.slice (some ⟨g, 0, none⟩) (n + 1) cap) ∧ (w.drew).cell? ⟨g, n * 3, none⟩ = some (.int .i64 xk) ∧ (w.drew).cell? ⟨g, n * 3 + 1, none⟩ = some (.int .i64 xw) ∧ (w.drew).cell? ⟨g, n * 3 + 2, none⟩ = some (.int .i64 xg) := ⟨c0, a0, a1, a2⟩
  refine wpN_pure (i := 0) (v := ?v1) rfl (by kernel_rfl) (fun _ _ _ h => h) (Or.inl ⟨by rfl, ?hy1⟩) ?hr1
  case hy1 => (intro wS hSw; go_simp; (try with_reducible rfl))
  try simp only [Act.put, List.setIfInBounds_toArray, List.set_cons_zero, List.set_cons_succ, List.getElem_toArray, List.getElem_cons_zero, List.getElem_cons_succ]
  refine wpN_pure (i := 1) (v := ?v2) rfl (by kernel_rfl) (fun _ _ _ h => h) (Or.inl ⟨by rfl, ?hy2⟩) ?hr2
  case hy2 => (intro wS hSw; go_simp; (try with_reducible rfl))
  try simp only [Act.put, List.setIfInBounds_toArray, List.set_cons_zero, List.set_cons_succ, List.getElem_toArray, List.getElem_cons_zero, List.getElem_cons_succ]
  refine wpN_pure (i := 2) (v := ?v3) rfl (by kernel_rfl) (fun _ _ _ h => h) (Or.inl ⟨by rfl, ?hy3⟩) ?hr3
  case hy3 => (intro wS hSw; go_simp; (try with_reducible rfl))
  try simp only [Act.put, List.setIfInBounds_toArray, List.set_cons_zero, List.set_cons_succ, List.getElem_toArray, List.getElem_cons_zero, List.getElem_cons_succ]
  refine wpN_take (i := 3) (v := ?v4) rfl (by kernel_rfl) (fun _ _ _ h => h) hS (Or.inl ⟨by rfl, ?hy4⟩) ?hr4
  case hy4 => (intro wS hSw; (try dsimp only at hSw); go_simp; (try with_reducible rfl))
  try simp only [Act.put, List.setIfInBounds_toArray, List.set_cons_zero, List.set_cons_succ, List.getElem_toArray, List.getElem_cons_zero, List.getElem_cons_succ]
  refine wpN_pure (i := 4) (v := ?v5) rfl (by kernel_rfl) (fun _ _ _ h => h) (Or.inl ⟨by rfl, ?hy5⟩) ?hr5
  case hy5 => (intro wS hSw; go_simp; (try with_reducible rfl))
  try simp only [Act.put, List.setIfInBounds_toArray, List.set_cons_zero, List.set_cons_succ, List.getElem_toArray, List.getElem_cons_zero, List.getElem_cons_succ]
  refine wpN_pure (i := 5) (v := ?v6) rfl (by kernel_rfl) (fun _ _ _ h => h) (Or.inl ⟨by rfl, ?hy6⟩) ?hr6
  case hy6 => (intro wS hSw; go_simp; (try with_reducible rfl))
  try simp only [Act.put, List.setIfInBounds_toArray, List.set_cons_zero, List.set_cons_succ, List.getElem_toArray, List.getElem_cons_zero, List.getElem_cons_succ]
  refine wpN_pure (i := 6) (v := ?v7) rfl (by kernel_rfl) (fun _ _ _ h => h) (Or.inl ⟨by rfl, ?hy7⟩) ?hr7
  case hy7 => (intro wS hSw; go_simp; (try with_reducible rfl))
  try simp only [Act.put, List.setIfInBounds_toArray, List.set_cons_zero, List.set_cons_succ, List.getElem_toArray, List.getElem_cons_zero, List.getElem_cons_succ]
  refine wpN_take (i := 7) (v := ?v8) rfl (by kernel_rfl) (fun _ _ _ h => h) hS (Or.inl ⟨by rfl, ?hy8⟩) ?hr8
  case hy8 => (intro wS hSw; (try dsimp only at hSw); go_simp; (try with_reducible rfl))
  try simp only [Act.put, List.setIfInBounds_toArray, List.set_cons_zero, List.set_cons_succ, List.getElem_toArray, List.getElem_cons_zero, List.getElem_cons_succ]
  refine wpN_pure (i := 8) (v := ?v9) rfl (by kernel_rfl) (fun _ _ _ h => h) (Or.inl ⟨by rfl, ?hy9⟩) ?hr9
  case hy9 => (intro wS hSw; go_simp; (try with_reducible rfl))
  try simp only [Act.put, List.setIfInBounds_toArray, List.set_cons_zero, List.set_cons_succ, List.getElem_toArray, List.getElem_cons_zero, List.getElem_cons_succ]
  refine wpN_pure (i := 9) (v := ?v10) rfl (by kernel_rfl) (fun _ _ _ h => h) (Or.inl ⟨by rfl, ?hy10⟩) ?hr10
  case hy10 => (intro wS hSw; go_simp; (try with_reducible rfl))
  try simp only [Act.put, List.setIfInBounds_toArray, List.set_cons_zero, List.set_cons_succ, List.getElem_toArray, List.getElem_cons_zero, List.getElem_cons_succ]
  refine wpN_take (i := 10) (v := ?v11) rfl (by kernel_rfl) (fun _ _ _ h => h) hS (Or.inl ⟨by rfl, ?hy11⟩) ?hr11
  case hy11 => (intro wS hSw; (try dsimp only at hSw); go_simp; (try with_reducible rfl))
  try simp only [Act.put, List.setIfInBounds_toArray, List.set_cons_zero, List.set_cons_succ, List.getElem_toArray, List.getElem_cons_zero, List.getElem_cons_succ]
  refine wpN_pure (i := 11) (v := ?v12) rfl (by kernel_rfl) (fun _ _ _ h => h) (Or.inl ⟨by rfl, ?hy12⟩) ?hr12
  case hy12 => (intro wS hSw; go_simp; (try with_reducible rfl))
  try simp only [Act.put, List.setIfInBounds_toArray, List.set_cons_zero, List.set_cons_succ, List.getElem_toArray, List.getElem_cons_zero, List.getElem_cons_succ]
  have hr1 := hr.below (Below.refl _ _).drew
  have hq1 := hq.below (Below.refl _ _).drew
  have B1 := (Off.refl (Turn q (.slice (some ⟨g, 0, none⟩) (n + 1) cap)) w).drew
  obtain ⟨w1, hw1⟩ : ∃ w1, w.drew = w1 := ⟨_, rfl⟩
  have b0' : w1.cell? ⟨g, 0, none⟩ = some (.int .i64 l[0].key) := by rw [← hw1]; exact b0
  have b1' : w1.cell? ⟨g, 1, none⟩ = some (.int .i64 l[0].weight) := by rw [← hw1]; exact b1
  have b2' : w1.cell? ⟨g, 2, none⟩ = some (.int .i64 l[0].age) := by rw [← hw1]; exact b2
  have f1' : w1.frozen? ⟨g, 0, none⟩ = false := by rw [← hw1]; exact f1
  have f2' : w1.frozen? ⟨g, 1, none⟩ = false := by rw [← hw1]; exact f2
  have f3' : w1.frozen? ⟨g, 2, none⟩ = false := by rw [← hw1]; exact f3
  rw [hw1] at hr1 hq1 B1 ⊢
  clear hw1 b0 b1 b2 f1 f2 f3 hfree hS a0 a1 a2 c0 f0
  refine wpN_step (i := 12) (by kernel_rfl) rfl (fun K hK => ?_)
  go_simp
  have hT : Turn q (.slice (some ⟨g, 0, none⟩) (n + 1) cap) g ∨ w.heap.size ≤ g := .inl (.inr rfl)
  have hr2 := hr1.set 0 h0 ⟨xk, xw, xg⟩ (g := g) (cap := cap) (by rw [Hn.out])
  simp only [Nat.zero_mul, Nat.zero_add] at hr2
  have hq2 : Blk (((w1.setCell ⟨g, 0, none⟩ (.int .i64 xk)).setCell ⟨g, 1, none⟩ (.int .i64 xw)).setCell ⟨g, 2, none⟩ (.int .i64 xg)) q cs t := ((hq1.far _ _ (Ne.symm hgq)).far _ _ (Ne.symm hgq)).far _ _ (Ne.symm hgq)
  have B2 := ((B1.set ⟨g, 0, none⟩ (.int .i64 xk) hT).set ⟨g, 1, none⟩ (.int .i64 xw) hT).set ⟨g, 2, none⟩ (.int .i64 xg) hT
  obtain ⟨w2, hw2⟩ : ∃ w2, ((w1.setCell ⟨g, 0, none⟩ (.int .i64 xk)).setCell ⟨g, 1, none⟩ (.int .i64 xw)).setCell ⟨g, 2, none⟩ (.int .i64 xg) = w2 := ⟨_, rfl⟩
  rw [hw2] at hr2 hq2 B2 ⊢
  clear hw2 hr1 hq1 B1 b0' b1' b2' f1' f2' f3'
  refine hK.out _ _ (fun h => absurd h (by decide)) ?_
  clear hK K
  try simp only [Act.put, List.setIfInBounds_toArray, List.set_cons_zero, List.set_cons_succ, List.getElem_toArray, List.getElem_cons_zero, List.getElem_cons_succ]
  refine wpN_done (by kernel_rfl) ?_
  refine NoPanic.normal ?_
  have c0 := hq2.cell ho
  have f0 := hq2.free o
  have hcapI : (n : Int) ≤ cap := by omega
  go_wp2_with fail
  have hl2 : (l.set 0 ⟨xk, xw, xg⟩).length = n + 1 := by rw [List.length_set, Hn.out]
  have hr3 := (hr2.take n (by omega) (a := some ⟨g, 0, none⟩) (c := cap) (by rw [hl2])).far ⟨q, o, none⟩ (.slice (some ⟨g, 0, none⟩) n cap) (fun e => hgq (by cases e; rfl))
  have hq3 := hq2.set o (.slice (some ⟨g, 0, none⟩) n cap)
  have B3 := B2.set ⟨q, o, none⟩ (.slice (some ⟨g, 0, none⟩) n cap) (.inl (.inl rfl))
  obtain ⟨w3, hw3⟩ : ∃ w3, w2.setCell ⟨q, o, none⟩ (.slice (some ⟨g, 0, none⟩) n cap) = w3 := ⟨_, rfl⟩
  rw [hw3] at hr3 hq3 B3 ⊢
  obtain ⟨cs3, hcs⟩ : ∃ cs3, cs.setIfInBounds o (.slice (some ⟨g, 0, none⟩) n cap) = cs3 := ⟨_, rfl⟩
  have ho3 : cs3[o]? = some (.slice (some ⟨g, 0, none⟩) n cap) := by
    rw [← hcs, Array.getElem?_setIfInBounds_self_of_lt (Array.getElem?_eq_some_iff.1 ho).1]
  have hf3 : cs3[o + 1]? = some (.func (.func f) #[] #[]) := by rw [← hcs, Array.getElem?_setIfInBounds_ne (by omega)]; exact hf'
  have Hcs := Lib.hid hcs
  rw [hcs] at hq3
  clear hw3 hr2 hq2 B2 c0 f0 hcs hr hl2
  obtain ⟨l1, hl1⟩ : ∃ l1, (l.set 0 (⟨xk, xw, xg⟩ : Ent)).take n = l1 := ⟨_, rfl⟩
  have Hl1 : Hid (l1.length = n) := by show _ = _; rw [← hl1]; simp [Hn.out]
  rw [hl1] at hr3 Hd HP
  clear hl1
  go_loopw [3] (fun iv wr => ∃ (i : Nat) (l' : List Ent), iv = .int .i64 i ∧ (i < n ∨ i = 0) ∧ Hid (l'.length = n) ∧ Hid (l'.Perm l1) ∧ Hid (Hp.Down lt l' i) ∧ Row wr base (.slice (some ⟨g, 0, none⟩) n cap) l' ∧ Blk wr q cs3 t ∧ Off (Turn q (.slice (some ⟨g, 0, none⟩) (n + 1) cap)) w wr) (fun iv _ => n - (intOf iv).toNat)
  case atStart => exact ⟨0, l1, rfl, .inr rfl, Hl1.out, List.Perm.refl _, Hd.out, hr3, hq3, B3⟩
  case round =>
    obtain ⟨i, l', rfl, hi, hl', hpm, hd, hr5, hq5, B5⟩ := hrel
    have hiI : (i : Int) ≤ 900000 := by omega
    go_wp2_with fail
    obtain ⟨wA, hwA⟩ : ∃ wA, wr.alloc (.cells #[.int .i64 (2 * (i : Int) + 1), .int .i64 (2 * (i : Int) + 2)] 3) = wA := ⟨_, rfl⟩
    have hr6 := hr5.below ((Below.refl _ wr).alloc (Nat.le_refl _) (.cells #[.int .i64 (2 * (i : Int) + 1), .int .i64 (2 * (i : Int) + 2)] 3))
    have hq6 := hq5.alloc (.cells #[.int .i64 (2 * (i : Int) + 1), .int .i64 (2 * (i : Int) + 2)] 3)
    have B6 := B5.alloc (.cells #[.int .i64 (2 * (i : Int) + 1), .int .i64 (2 * (i : Int) + 2)] 3)
    have xA : Blk wA wr.heap.size #[.int .i64 (2 * (i : Int) + 1), .int .i64 (2 * (i : Int) + 2)] 3 := by rw [← hwA]; exact Blk.new _ _ _ rfl
    rw [hwA] at hr6 hq6 B6 ⊢
    clear hwA hr5 hq5 B5
    obtain ⟨A, hA⟩ : ∃ A, wr.heap.size = A := ⟨_, rfl⟩
    rw [hA] at xA ⊢
    clear hA
    go_loopw [4, 43] (fun bv jv wx => ∃ (j b : Nat), bv = .int .i64 b ∧ jv = .int .i64 j ∧ j ≤ 2 ∧ Hid (Hp.Best lt l' n i j b) ∧ Below wA.heap.size wA wx) (fun _ jv _ => 2 - (intOf jv).toNat)
    case atStart => exact ⟨0, i, rfl, rfl, by omega, Hp.Best.start O, Below.refl _ _⟩
    case round =>
      obtain ⟨j, b, rfl, rfl, hj, hbest, hbx⟩ := hrel
      by_cases hj2 : j < 2
      · have hjI : (j : Int) < 2 := by omega
        have hj0 : (0 : Int) ≤ j := by omega
        obtain ⟨k, hk⟩ : ∃ k, 2 * i + 1 + j = k := ⟨_, rfl⟩
        have hcell : wr.cell? ⟨A, j, none⟩ = some (.int .i64 k) := by
          have x7 := xA.below hbx
          have hj' : j = 0 ∨ j = 1 := by omega
          rcases hj' with rfl | rfl
          · exact x7.cell (by rw [← hk]; simp)
          · exact x7.cell (by rw [← hk]; simp <;> omega)
        have hr7 := hr6.below hbx
        have hq7 := hq6.below hbx
        have hik : i < k := by omega
        have Hk := Lib.hid hk; clear hk
        go_wp2_with fail
        by_cases hkn : k < n
        · have hknI : (k : Int) < n := by omega
          have hk0 : (0 : Int) ≤ k := by omega
          have hbn : b < n := by rcases hbest.out.of with h | h <;> omega
          have hbnI : (b : Int) < n := by omega
          have hb0 : (0 : Int) ≤ b := by omega
          obtain ⟨g', cap', hve, -, -, -, hcs, hfr⟩ := hr7.open_ (by rw [hl'.out]; omega)
          have hge : g = g' ∧ cap = cap' := by injection hve with q1 q2 q3; cases q1; exact ⟨rfl, q3⟩
          obtain ⟨rfl, rfl⟩ := hge
          clear hve hfr
          have c0 := hq7.cell ho3
          have c1 := hq7.cell hf3
          obtain ⟨a0, a1, a2⟩ := hcs k (by rw [hl'.out]; omega)
          obtain ⟨b0, b1, b2⟩ := hcs b (by rw [hl'.out]; omega)
          obtain ⟨x, hx⟩ : ∃ x, Hp.at_ l' k = x := ⟨_, rfl⟩
          obtain ⟨y, hy⟩ : ∃ y, Hp.at_ l' b = y := ⟨_, rfl⟩
          rw [← Hp.at_get, hx] at a0 a1 a2
          rw [← Hp.at_get, hy] at b0 b1 b2
          have Hx := Lib.hid hx; have Hy := Lib.hid hy
          clear hx hy hcs
          obtain ⟨ak, aw, ag⟩ := x
          obtain ⟨bk, bw, bg⟩ := y
          dsimp only at a0 a1 a2 b0 b1 b2
          refine wp_region_noPanic (wp_region_need (S := fun w' => w'.cell? ⟨q, o, none⟩ = some (.slice (some ⟨g, 0, none⟩) n cap) ∧ w'.cell? ⟨q, o + 1, none⟩ = some (.func (.func f) #[] #[]) ∧ w'.cell? ⟨g, k * 3, none⟩ = some (.int .i64 ak) ∧ w'.cell? ⟨g, k * 3 + 1, none⟩ = some (.int .i64 aw) ∧ w'.cell? ⟨g, k * 3 + 2, none⟩ = some (.int .i64 ag) ∧ w'.cell? ⟨g, b * 3, none⟩ = some (.int .i64 bk) ∧ w'.cell? ⟨g, b * 3 + 1, none⟩ = some (.int .i64 bw) ∧ w'.cell? ⟨g, b * 3 + 2, none⟩ = some (.int .i64 bg)) (by kernel_rfl) ?_)
          have hS : (wr.drew).cell? ⟨q, o, none⟩ = some (.slice (some ⟨g, 0, none⟩) n cap) ∧ (wr.drew).cell? ⟨q, o + 1, none⟩ = some (.func (.func f) #[] #[]) ∧ (wr.drew).cell? ⟨g, k * 3, none⟩ = some (.int .i64 ak) ∧ (wr.drew).cell? ⟨g, k * 3 + 1, none⟩ = some (.int .i64 aw) ∧ (wr.drew).cell? ⟨g, k * 3 + 2, none⟩ = some (.int .i64 ag) ∧ (wr.drew).cell? ⟨g, b * 3, none⟩ = some (.int .i64 bk) ∧ (wr.drew).cell? ⟨g, b * 3 + 1, none⟩ = some (.int .i64 bw) ∧ (wr.drew).cell? ⟨g, b * 3 + 2, none⟩ = some (.int .i64 bg) := ⟨c0, c1, a0, a1, a2, b0, b1, b2⟩
          refine wpN_take (i := 0) (v := ?v13) rfl (by kernel_rfl) (fun _ _ _ h => h) hS (Or.inl ⟨by rfl, ?hy13⟩) ?hr13
          case hy13 => (intro wS hSw; (try dsimp only at hSw); go_simp; (try with_reducible rfl))
          try simp only [Act.put, List.setIfInBounds_toArray, List.set_cons_zero, List.set_cons_succ, List.getElem_toArray, List.getElem_cons_zero, List.getElem_cons_succ]
          refine wpN_take (i := 1) (v := ?v14) rfl (by kernel_rfl) (fun _ _ _ h => h) hS (Or.inl ⟨by rfl, ?hy14⟩) ?hr14
          case hy14 => (intro wS hSw; (try dsimp only at hSw); go_simp; (try with_reducible rfl))
          try simp only [Act.put, List.setIfInBounds_toArray, List.set_cons_zero, List.set_cons_succ, List.getElem_toArray, List.getElem_cons_zero, List.getElem_cons_succ]
          refine wpN_take (i := 2) (v := ?v15) rfl (by kernel_rfl) (fun _ _ _ h => h) hS (Or.inl ⟨by rfl, ?hy15⟩) ?hr15
          case hy15 => (intro wS hSw; (try dsimp only at hSw); go_simp; (try with_reducible rfl))
          try simp only [Act.put, List.setIfInBounds_toArray, List.set_cons_zero, List.set_cons_succ, List.getElem_toArray, List.getElem_cons_zero, List.getElem_cons_succ]
          refine wpN_take (i := 3) (v := ?v16) rfl (by kernel_rfl) (fun _ _ _ h => h) hS (Or.inl ⟨by rfl, ?hy16⟩) ?hr16
          case hy16 => (intro wS hSw; (try dsimp only at hSw); go_simp; (try with_reducible rfl))
          try simp only [Act.put, List.setIfInBounds_toArray, List.set_cons_zero, List.set_cons_succ, List.getElem_toArray, List.getElem_cons_zero, List.getElem_cons_succ]
          refine wpN_take (i := 4) (v := ?v17) rfl (by kernel_rfl) (fun _ _ _ h => h) hS (Or.inl ⟨by rfl, ?hy17⟩) ?hr17
          case hy17 => (intro wS hSw; (try dsimp only at hSw); go_simp; (try with_reducible rfl))
          try simp only [Act.put, List.setIfInBounds_toArray, List.set_cons_zero, List.set_cons_succ, List.getElem_toArray, List.getElem_cons_zero, List.getElem_cons_succ]
          refine wpN_take (i := 5) (v := ?v18) rfl (by kernel_rfl) (fun _ _ _ h => h) hS (Or.inl ⟨by rfl, ?hy18⟩) ?hr18
          case hy18 => (intro wS hSw; (try dsimp only at hSw); go_simp; (try with_reducible rfl))
          try simp only [Act.put, List.setIfInBounds_toArray, List.set_cons_zero, List.set_cons_succ, List.getElem_toArray, List.getElem_cons_zero, List.getElem_cons_succ]
          refine wpN_take (i := 6) (v := ?v19) rfl (by kernel_rfl) (fun _ _ _ h => h) hS (Or.inl ⟨by rfl, ?hy19⟩) ?hr19
          case hy19 => (intro wS hSw; (try dsimp only at hSw); go_simp; (try with_reducible rfl))
          try simp only [Act.put, List.setIfInBounds_toArray, List.set_cons_zero, List.set_cons_succ, List.getElem_toArray, List.getElem_cons_zero, List.getElem_cons_succ]
          refine wpN_take (i := 7) (v := ?v20) rfl (by kernel_rfl) (fun _ _ _ h => h) hS (Or.inl ⟨by rfl, ?hy20⟩) ?hr20
          case hy20 => (intro wS hSw; (try dsimp only at hSw); go_simp; (try with_reducible rfl))
          try simp only [Act.put, List.setIfInBounds_toArray, List.set_cons_zero, List.set_cons_succ, List.getElem_toArray, List.getElem_cons_zero, List.getElem_cons_succ]
          refine wpN_take (i := 8) (v := ?v21) rfl (by kernel_rfl) (fun _ _ _ h => h) hS (Or.inl ⟨by rfl, ?hy21⟩) ?hr21
          case hy21 => (intro wS hSw; (try dsimp only at hSw); go_simp; (try with_reducible rfl))
          try simp only [Act.put, List.setIfInBounds_toArray, List.set_cons_zero, List.set_cons_succ, List.getElem_toArray, List.getElem_cons_zero, List.getElem_cons_succ]
          refine wpN_take (i := 9) (v := ?v22) rfl (by kernel_rfl) (fun _ _ _ h => h) hS (Or.inl ⟨by rfl, ?hy22⟩) ?hr22
          case hy22 => (intro wS hSw; (try dsimp only at hSw); go_simp; (try with_reducible rfl))
          try simp only [Act.put, List.setIfInBounds_toArray, List.set_cons_zero, List.set_cons_succ, List.getElem_toArray, List.getElem_cons_zero, List.getElem_cons_succ]
          refine wpN_take (i := 10) (v := ?v23) rfl (by kernel_rfl) (fun _ _ _ h => h) hS (Or.inl ⟨by rfl, ?hy23⟩) ?hr23
          case hy23 => (intro wS hSw; (try dsimp only at hSw); go_simp; (try with_reducible rfl))
          try simp only [Act.put, List.setIfInBounds_toArray, List.set_cons_zero, List.set_cons_succ, List.getElem_toArray, List.getElem_cons_zero, List.getElem_cons_succ]
          refine wpN_take (i := 11) (v := ?v24) rfl (by kernel_rfl) (fun _ _ _ h => h) hS (Or.inl ⟨by rfl, ?hy24⟩) ?hr24
          case hy24 => (intro wS hSw; (try dsimp only at hSw); go_simp; (try with_reducible rfl))
          try simp only [Act.put, List.setIfInBounds_toArray, List.set_cons_zero, List.set_cons_succ, List.getElem_toArray, List.getElem_cons_zero, List.getElem_cons_succ]
          refine wpN_take (i := 12) (v := ?v25) rfl (by kernel_rfl) (fun _ _ _ h => h) hS (Or.inl ⟨by rfl, ?hy25⟩) ?hr25
          case hy25 => (intro wS hSw; (try dsimp only at hSw); go_simp; (try with_reducible rfl))
          try simp only [Act.put, List.setIfInBounds_toArray, List.set_cons_zero, List.set_cons_succ, List.getElem_toArray, List.getElem_cons_zero, List.getElem_cons_succ]
          refine wpN_take (i := 13) (v := ?v26) rfl (by kernel_rfl) (fun _ _ _ h => h) hS (Or.inl ⟨by rfl, ?hy26⟩) ?hr26
          case hy26 => (intro wS hSw; (try dsimp only at hSw); go_simp; (try with_reducible rfl))
          try simp only [Act.put, List.setIfInBounds_toArray, List.set_cons_zero, List.set_cons_succ, List.getElem_toArray, List.getElem_cons_zero, List.getElem_cons_succ]
          refine wpN_take (i := 14) (v := ?v27) rfl (by kernel_rfl) (fun _ _ _ h => h) hS (Or.inl ⟨by rfl, ?hy27⟩) ?hr27
          case hy27 => (intro wS hSw; (try dsimp only at hSw); go_simp; (try with_reducible rfl))
          try simp only [Act.put, List.setIfInBounds_toArray, List.set_cons_zero, List.set_cons_succ, List.getElem_toArray, List.getElem_cons_zero, List.getElem_cons_succ]
          refine wpN_take (i := 15) (v := ?v28) rfl (by kernel_rfl) (fun _ _ _ h => h) hS (Or.inl ⟨by rfl, ?hy28⟩) ?hr28
          case hy28 => (intro wS hSw; (try dsimp only at hSw); go_simp; (try with_reducible rfl))
          try simp only [Act.put, List.setIfInBounds_toArray, List.set_cons_zero, List.set_cons_succ, List.getElem_toArray, List.getElem_cons_zero, List.getElem_cons_succ]
          refine wpN_take (i := 16) (v := ?v29) rfl (by kernel_rfl) (fun _ _ _ h => h) hS (Or.inl ⟨by rfl, ?hy29⟩) ?hr29
          case hy29 => (intro wS hSw; (try dsimp only at hSw); go_simp; (try with_reducible rfl))
          try simp only [Act.put, List.setIfInBounds_toArray, List.set_cons_zero, List.set_cons_succ, List.getElem_toArray, List.getElem_cons_zero, List.getElem_cons_succ]
          refine wpN_take (i := 17) (v := ?v30) rfl (by kernel_rfl) (fun _ _ _ h => h) hS (Or.inl ⟨by rfl, ?hy30⟩) ?hr30
          case hy30 => (intro wS hSw; (try dsimp only at hSw); go_simp; (try with_reducible rfl))
          try simp only [Act.put, List.setIfInBounds_toArray, List.set_cons_zero, List.set_cons_succ, List.getElem_toArray, List.getElem_cons_zero, List.getElem_cons_succ]
          refine wpN_take (i := 18) (v := ?v31) rfl (by kernel_rfl) (fun _ _ _ h => h) hS (Or.inl ⟨by rfl, ?hy31⟩) ?hr31
          case hy31 => (intro wS hSw; (try dsimp only at hSw); go_simp; (try with_reducible rfl))
          try simp only [Act.put, List.setIfInBounds_toArray, List.set_cons_zero, List.set_cons_succ, List.getElem_toArray, List.getElem_cons_zero, List.getElem_cons_succ]
          refine wpN_take (i := 19) (v := ?v32) rfl (by kernel_rfl) (fun _ _ _ h => h) hS (Or.inl ⟨by rfl, ?hy32⟩) ?hr32
          case hy32 => (intro wS hSw; (try dsimp only at hSw); go_simp; (try with_reducible rfl))
          try simp only [Act.put, List.setIfInBounds_toArray, List.set_cons_zero, List.set_cons_succ, List.getElem_toArray, List.getElem_cons_zero, List.getElem_cons_succ]
          refine wpN_take (i := 20) (v := ?v33) rfl (by kernel_rfl) (fun _ _ _ h => h) hS (Or.inl ⟨by rfl, ?hy33⟩) ?hr33
          case hy33 => (intro wS hSw; (try dsimp only at hSw); go_simp; (try with_reducible rfl))
          try simp only [Act.put, List.setIfInBounds_toArray, List.set_cons_zero, List.set_cons_succ, List.getElem_toArray, List.getElem_cons_zero, List.getElem_cons_succ]
          refine wpN_take (i := 21) (v := ?v34) rfl (by kernel_rfl) (fun _ _ _ h => h) hS (Or.inl ⟨by rfl, ?hy34⟩) ?hr34
          case hy34 => (intro wS hSw; (try dsimp only at hSw); go_simp; (try with_reducible rfl))
          try simp only [Act.put, List.setIfInBounds_toArray, List.set_cons_zero, List.set_cons_succ, List.getElem_toArray, List.getElem_cons_zero, List.getElem_cons_succ]
          refine wpN_step (i := 22) (by kernel_rfl) rfl (fun K hK => ?_)
          have hen := hf.enters
          go_simp
          clear hen
          refine (hf.calls ⟨ak, aw, ag⟩ ⟨bk, bw, bg⟩ _).mono ?_
          rintro e w8 ⟨rfl, hb8⟩
          have hb8' : Below wA.heap.size wA w8 := hbx.drew.trans (hb8.mono hbx.size)
          have hb8'' : Below wr.heap.size wr w8 := (Below.refl _ _).drew.trans hb8
          have K8 := (Keep.refl (fun _ => True) wr).below hb8''
          have hS : (w8).cell? ⟨q, o, none⟩ = some (.slice (some ⟨g, 0, none⟩) n cap) ∧ (w8).cell? ⟨q, o + 1, none⟩ = some (.func (.func f) #[] #[]) ∧ (w8).cell? ⟨g, k * 3, none⟩ = some (.int .i64 ak) ∧ (w8).cell? ⟨g, k * 3 + 1, none⟩ = some (.int .i64 aw) ∧ (w8).cell? ⟨g, k * 3 + 2, none⟩ = some (.int .i64 ag) ∧ (w8).cell? ⟨g, b * 3, none⟩ = some (.int .i64 bk) ∧ (w8).cell? ⟨g, b * 3 + 1, none⟩ = some (.int .i64 bw) ∧ (w8).cell? ⟨g, b * 3 + 2, none⟩ = some (.int .i64 bg) := ⟨K8 _ _ _ trivial c0, K8 _ _ _ trivial c1, K8 _ _ _ trivial a0, K8 _ _ _ trivial a1, K8 _ _ _ trivial a2, K8 _ _ _ trivial b0, K8 _ _ _ trivial b1, K8 _ _ _ trivial b2⟩
          refine hK.out _ _ (fun _ => hS) ?_
          clear hK K
          try simp only [Act.put, List.setIfInBounds_toArray, List.set_cons_zero, List.set_cons_succ, List.getElem_toArray, List.getElem_cons_zero, List.getElem_cons_succ]
          refine wpN_pure (i := 23) (v := ?v35) rfl (by kernel_rfl) (fun _ _ _ h => h) (Or.inl ⟨by rfl, ?hy35⟩) ?hr35
          case hy35 => (intro wS hSw; go_simp; (try with_reducible rfl))
          try simp only [Act.put, List.setIfInBounds_toArray, List.set_cons_zero, List.set_cons_succ, List.getElem_toArray, List.getElem_cons_zero, List.getElem_cons_succ]
          refine wpN_done (by kernel_rfl) ?_
          refine NoPanic.normal ?_
          obtain ⟨r, hrr⟩ : ∃ r, lt ⟨ak, aw, ag⟩ ⟨bk, bw, bg⟩ = r := ⟨_, rfl⟩
          rw [hrr]
          rw [← Hx.out, ← Hy.out, ← Hk.out] at hrr
          have Hrr := Lib.hid hrr; clear hrr
          cases r
          · have HB := Lib.hid (hbest.out.keep fun _ => Hrr.out)
            go_wp2_with fail
            go_roundw
            case rel => exact ⟨j + 1, b, rfl, by go_num, by omega, HB.out, hb8'⟩
            case measure => simp [intOf]; omega
          · have HB := hbest.out.take O hj2 (by rw [Hk.out]; exact hkn) Hrr.out
            rw [Hk.out] at HB
            have HB := Lib.hid HB
            go_wp2_with fail
            go_roundw
            case rel => exact ⟨j + 1, k, rfl, by go_num, by omega, HB.out, hb8'⟩
            case measure => simp [intOf]; omega
        · have hkn' : ¬ (k : Int) < n := by omega
          have HB := Lib.hid (hbest.out.keep fun h => absurd h (by rw [Hk.out]; exact hkn))
          have hbd : Below wA.heap.size wA wr.drew := hbx.drew
          refine wp_region_noPanic (wp_region_need (S := fun w' => True) (by kernel_rfl) ?_)
          have hS : True := trivial
          refine wpN_pure (i := 0) (v := ?v36) rfl (by kernel_rfl) (fun _ _ _ h => h) (Or.inl ⟨by rfl, ?hy36⟩) ?hr36
          case hy36 => (intro wS hSw; go_simp; (try with_reducible rfl))
          try simp only [Act.put, List.setIfInBounds_toArray, List.set_cons_zero, List.set_cons_succ, List.getElem_toArray, List.getElem_cons_zero, List.getElem_cons_succ]
          refine wpN_pure (i := 1) (v := ?v37) rfl (by kernel_rfl) (fun _ _ _ h => h) (Or.inl ⟨by rfl, ?hy37⟩) ?hr37
          case hy37 => (intro wS hSw; go_simp; (try with_reducible rfl))
          try simp only [Act.put, List.setIfInBounds_toArray, List.set_cons_zero, List.set_cons_succ, List.getElem_toArray, List.getElem_cons_zero, List.getElem_cons_succ]
          refine wpN_pure (i := 2) (v := ?v38) rfl (by kernel_rfl) (fun _ _ _ h => h) (Or.inl ⟨by rfl, ?hy38⟩) ?hr38
          case hy38 => (intro wS hSw; go_simp; (try with_reducible rfl))
          try simp only [Act.put, List.setIfInBounds_toArray, List.set_cons_zero, List.set_cons_succ, List.getElem_toArray, List.getElem_cons_zero, List.getElem_cons_succ]
          refine wpN_pure (i := 3) (v := ?v39) rfl (by kernel_rfl) (fun _ _ _ h => h) (Or.inl ⟨by rfl, ?hy39⟩) ?hr39
          case hy39 => (intro wS hSw; go_simp; (try with_reducible rfl))
          try simp only [Act.put, List.setIfInBounds_toArray, List.set_cons_zero, List.set_cons_succ, List.getElem_toArray, List.getElem_cons_zero, List.getElem_cons_succ]
          refine wpN_pure (i := 4) (v := undef) rfl (by kernel_rfl) (fun _ _ _ h => h) (Or.inr ⟨by rfl, rfl⟩) ?_
          try simp only [Act.put, List.setIfInBounds_toArray, List.set_cons_zero, List.set_cons_succ, List.getElem_toArray, List.getElem_cons_zero, List.getElem_cons_succ]
          refine wpN_pure (i := 5) (v := undef) rfl (by kernel_rfl) (fun _ _ _ h => h) (Or.inr ⟨by rfl, rfl⟩) ?_
          try simp only [Act.put, List.setIfInBounds_toArray, List.set_cons_zero, List.set_cons_succ, List.getElem_toArray, List.getElem_cons_zero, List.getElem_cons_succ]
          refine wpN_pure (i := 6) (v := undef) rfl (by kernel_rfl) (fun _ _ _ h => h) (Or.inr ⟨by rfl, rfl⟩) ?_
          try simp only [Act.put, List.setIfInBounds_toArray, List.set_cons_zero, List.set_cons_succ, List.getElem_toArray, List.getElem_cons_zero, List.getElem_cons_succ]
          refine wpN_pure (i := 7) (v := undef) rfl (by kernel_rfl) (fun _ _ _ h => h) (Or.inr ⟨by rfl, rfl⟩) ?_
          try simp only [Act.put, List.setIfInBounds_toArray, List.set_cons_zero, List.set_cons_succ, List.getElem_toArray, List.getElem_cons_zero, List.getElem_cons_succ]
          refine wpN_pure (i := 8) (v := undef) rfl (by kernel_rfl) (fun _ _ _ h => h) (Or.inr ⟨by rfl, rfl⟩) ?_
          try simp only [Act.put, List.setIfInBounds_toArray, List.set_cons_zero, List.set_cons_succ, List.getElem_toArray, List.getElem_cons_zero, List.getElem_cons_succ]
          refine wpN_pure (i := 9) (v := undef) rfl (by kernel_rfl) (fun _ _ _ h => h) (Or.inr ⟨by rfl, rfl⟩) ?_
          try simp only [Act.put, List.setIfInBounds_toArray, List.set_cons_zero, List.set_cons_succ, List.getElem_toArray, List.getElem_cons_zero, List.getElem_cons_succ]
          refine wpN_pure (i := 10) (v := undef) rfl (by kernel_rfl) (fun _ _ _ h => h) (Or.inr ⟨by rfl, rfl⟩) ?_
          try simp only [Act.put, List.setIfInBounds_toArray, List.set_cons_zero, List.set_cons_succ, List.getElem_toArray, List.getElem_cons_zero, List.getElem_cons_succ]
          refine wpN_pure (i := 11) (v := undef) rfl (by kernel_rfl) (fun _ _ _ h => h) (Or.inr ⟨by rfl, rfl⟩) ?_
          try simp only [Act.put, List.setIfInBounds_toArray, List.set_cons_zero, List.set_cons_succ, List.getElem_toArray, List.getElem_cons_zero, List.getElem_cons_succ]
          refine wpN_pure (i := 12) (v := undef) rfl (by kernel_rfl) (fun _ _ _ h => h) (Or.inr ⟨by rfl, rfl⟩) ?_
          try simp only [Act.put, List.setIfInBounds_toArray, List.set_cons_zero, List.set_cons_succ, List.getElem_toArray, List.getElem_cons_zero, List.getElem_cons_succ]
          refine wpN_pure (i := 13) (v := undef) rfl (by kernel_rfl) (fun _ _ _ h => h) (Or.inr ⟨by rfl, rfl⟩) ?_
          try simp only [Act.put, List.setIfInBounds_toArray, List.set_cons_zero, List.set_cons_succ, List.getElem_toArray, List.getElem_cons_zero, List.getElem_cons_succ]
          refine wpN_pure (i := 14) (v := undef) rfl (by kernel_rfl) (fun _ _ _ h => h) (Or.inr ⟨by rfl, rfl⟩) ?_
          try simp only [Act.put, List.setIfInBounds_toArray, List.set_cons_zero, List.set_cons_succ, List.getElem_toArray, List.getElem_cons_zero, List.getElem_cons_succ]
          refine wpN_pure (i := 15) (v := undef) rfl (by kernel_rfl) (fun _ _ _ h => h) (Or.inr ⟨by rfl, rfl⟩) ?_
          try simp only [Act.put, List.setIfInBounds_toArray, List.set_cons_zero, List.set_cons_succ, List.getElem_toArray, List.getElem_cons_zero, List.getElem_cons_succ]
          refine wpN_pure (i := 16) (v := undef) rfl (by kernel_rfl) (fun _ _ _ h => h) (Or.inr ⟨by rfl, rfl⟩) ?_
          try simp only [Act.put, List.setIfInBounds_toArray, List.set_cons_zero, List.set_cons_succ, List.getElem_toArray, List.getElem_cons_zero, List.getElem_cons_succ]
          refine wpN_pure (i := 17) (v := undef) rfl (by kernel_rfl) (fun _ _ _ h => h) (Or.inr ⟨by rfl, rfl⟩) ?_
          try simp only [Act.put, List.setIfInBounds_toArray, List.set_cons_zero, List.set_cons_succ, List.getElem_toArray, List.getElem_cons_zero, List.getElem_cons_succ]
          refine wpN_pure (i := 18) (v := undef) rfl (by kernel_rfl) (fun _ _ _ h => h) (Or.inr ⟨by rfl, rfl⟩) ?_
          try simp only [Act.put, List.setIfInBounds_toArray, List.set_cons_zero, List.set_cons_succ, List.getElem_toArray, List.getElem_cons_zero, List.getElem_cons_succ]
          refine wpN_pure (i := 19) (v := undef) rfl (by kernel_rfl) (fun _ _ _ h => h) (Or.inr ⟨by rfl, rfl⟩) ?_
          try simp only [Act.put, List.setIfInBounds_toArray, List.set_cons_zero, List.set_cons_succ, List.getElem_toArray, List.getElem_cons_zero, List.getElem_cons_succ]
          refine wpN_pure (i := 20) (v := undef) rfl (by kernel_rfl) (fun _ _ _ h => h) (Or.inr ⟨by rfl, rfl⟩) ?_
          try simp only [Act.put, List.setIfInBounds_toArray, List.set_cons_zero, List.set_cons_succ, List.getElem_toArray, List.getElem_cons_zero, List.getElem_cons_succ]
          refine wpN_pure (i := 21) (v := undef) rfl (by kernel_rfl) (fun _ _ _ h => h) (Or.inr ⟨by rfl, rfl⟩) ?_
          try simp only [Act.put, List.setIfInBounds_toArray, List.set_cons_zero, List.set_cons_succ, List.getElem_toArray, List.getElem_cons_zero, List.getElem_cons_succ]
          refine wpN_pure (i := 22) (v := undef) rfl (by kernel_rfl) (fun _ _ _ h => h) (Or.inr ⟨by rfl, rfl⟩) ?_
          try simp only [Act.put, List.setIfInBounds_toArray, List.set_cons_zero, List.set_cons_succ, List.getElem_toArray, List.getElem_cons_zero, List.getElem_cons_succ]
          refine wpN_pure (i := 23) (v := ?v40) rfl (by kernel_rfl) (fun _ _ _ h => h) (Or.inl ⟨by rfl, ?hy40⟩) ?hr40
          case hy40 => (intro wS hSw; go_simp; (try with_reducible rfl))
          try simp only [Act.put, List.setIfInBounds_toArray, List.set_cons_zero, List.set_cons_succ, List.getElem_toArray, List.getElem_cons_zero, List.getElem_cons_succ]
          refine wpN_done (by kernel_rfl) ?_
          refine NoPanic.normal ?_
          go_wp2_with fail
          go_roundw
          case rel => exact ⟨j + 1, b, rfl, by go_num, by omega, HB.out, hbd⟩
          case measure => simp [intOf]; omega
      · obtain rfl : j = 2 := by omega
        have hr7 := hr6.below hbx
        have hq7 := hq6.below hbx
        have B7' := B6.below hbx
        have hch := hbest.out.children
        by_cases hbi : b = i
        · subst hbi
          have HF : Hid (Hp.Heap lt l') := hd.out.done fun c h1 h2 h3 => hch c (by rw [hl'.out] at h1; exact h1) h2 h3
          clear hch
          go_wp2_with fail
          (try simp only [Exit.inBlock, Exit.then]); refine bodyPost_ret (results_none rfl _ _ _) rfl ?_
          exact ⟨rfl, _, l', by rw [Hcs.out]; exact hq7, hr7, HP.out.trans (List.Perm.cons _ hpm.out.symm), HF.out, rfl, B7'⟩
        · have hbo : b < n ∧ 0 < b ∧ Hp.par b = i := hbest.out.of.resolve_left hbi
          obtain ⟨hbn, hb0, hpb⟩ := hbo
          have hib : i < b := by have := Hp.par_lt hb0; omega
          have hin : i < n := by omega
          have hbi' : ¬ (b : Int) = i := by omega
          have hDn := Lib.hid (hd.out.step (by rw [hl'.out]; exact hin) (b := b) (by rw [hl'.out]; exact hbn) hb0 hpb hbest.out.top fun c h1 h2 h3 => hch c (by rw [hl'.out] at h1; exact h1) h2 h3)
          have hperm := Lib.hid ((Hp.swap_perm l' i b (by rw [hl'.out]; omega) (by rw [hl'.out]; omega)).trans hpm.out)
          clear hch hd hpm hpb
          have hbn' : (b : Int) ≤ 900000 := by omega
          go_wp2_with fail
          have i1 : (i : Int) < n := by omega
          have i2 : (b : Int) < n := by omega
          have i3 : (0 : Int) ≤ b := by omega
          have i4 : (0 : Int) ≤ i := by omega
          have c0 := hq7.cell ho3
          have hT : Turn q (.slice (some ⟨g, 0, none⟩) (n + 1) cap) g ∨ w.heap.size ≤ g := .inl (.inr rfl)
          obtain ⟨g', cap', hve, -, -, -, hcs, hfr⟩ := hr7.open_ (by rw [hl'.out]; omega)
          have hge : g = g' ∧ cap = cap' := by injection hve with q1 q2 q3; cases q1; exact ⟨rfl, q3⟩
          obtain ⟨rfl, rfl⟩ := hge
          clear hve hfr
          obtain ⟨a0, a1, a2⟩ := hcs i (by rw [hl'.out]; omega)
          obtain ⟨b0, b1, b2⟩ := hcs b (by rw [hl'.out]; omega)
          obtain ⟨x, hx⟩ : ∃ x, Hp.at_ l' i = x := ⟨_, rfl⟩
          obtain ⟨y, hy⟩ : ∃ y, Hp.at_ l' b = y := ⟨_, rfl⟩
          rw [← Hp.at_get, hx] at a0 a1 a2
          rw [← Hp.at_get, hy] at b0 b1 b2
          have Ha := Lib.hid hx; have Hb := Lib.hid hy
          clear hx hy hcs
          obtain ⟨ak, aw, ag⟩ := x
          obtain ⟨bk, bw, bg⟩ := y
          dsimp only at a0 a1 a2 b0 b1 b2
          refine wp_region_noPanic (wp_region_need (S := fun w' => w'.cell? ⟨q, o, none⟩ = some (.slice (some ⟨g, 0, none⟩) n cap) ∧ w'.cell? ⟨g, i * 3, none⟩ = some (.int .i64 ak) ∧ w'.cell? ⟨g, i * 3 + 1, none⟩ = some (.int .i64 aw) ∧ w'.cell? ⟨g, i * 3 + 2, none⟩ = some (.int .i64 ag) ∧ w'.cell? ⟨g, b * 3, none⟩ = some (.int .i64 bk) ∧ w'.cell? ⟨g, b * 3 + 1, none⟩ = some (.int .i64 bw) ∧ w'.cell? ⟨g, b * 3 + 2, none⟩ = some (.int .i64 bg)) (by kernel_rfl) ?_)
          have hS : (wr.drew).cell? ⟨q, o, none⟩ = some (.slice (some ⟨g, 0, none⟩) n cap) ∧ (wr.drew).cell? ⟨g, i * 3, none⟩ = some (.int .i64 ak) ∧ (wr.drew).cell? ⟨g, i * 3 + 1, none⟩ = some (.int .i64 aw) ∧ (wr.drew).cell? ⟨g, i * 3 + 2, none⟩ = some (.int .i64 ag) ∧ (wr.drew).cell? ⟨g, b * 3, none⟩ = some (.int .i64 bk) ∧ (wr.drew).cell? ⟨g, b * 3 + 1, none⟩ = some (.int .i64 bw) ∧ (wr.drew).cell? ⟨g, b * 3 + 2, none⟩ = some (.int .i64 bg) := ⟨c0, a0, a1, a2, b0, b1, b2⟩
          refine wpN_pure (i := 0) (v := ?v41) rfl (by kernel_rfl) (fun _ _ _ h => h) (Or.inl ⟨by rfl, ?hy41⟩) ?hr41
          case hy41 => (intro wS hSw; go_simp; (try with_reducible rfl))
          try simp only [Act.put, List.setIfInBounds_toArray, List.set_cons_zero, List.set_cons_succ, List.getElem_toArray, List.getElem_cons_zero, List.getElem_cons_succ]
          refine wpN_pure (i := 1) (v := ?v42) rfl (by kernel_rfl) (fun _ _ _ h => h) (Or.inl ⟨by rfl, ?hy42⟩) ?hr42
          case hy42 => (intro wS hSw; go_simp; (try with_reducible rfl))
          try simp only [Act.put, List.setIfInBounds_toArray, List.set_cons_zero, List.set_cons_succ, List.getElem_toArray, List.getElem_cons_zero, List.getElem_cons_succ]
          refine wpN_pure (i := 2) (v := ?v43) rfl (by kernel_rfl) (fun _ _ _ h => h) (Or.inl ⟨by rfl, ?hy43⟩) ?hr43
          case hy43 => (intro wS hSw; go_simp; (try with_reducible rfl))
          try simp only [Act.put, List.setIfInBounds_toArray, List.set_cons_zero, List.set_cons_succ, List.getElem_toArray, List.getElem_cons_zero, List.getElem_cons_succ]
          refine wpN_take (i := 3) (v := ?v44) rfl (by kernel_rfl) (fun _ _ _ h => h) hS (Or.inl ⟨by rfl, ?hy44⟩) ?hr44
          case hy44 => (intro wS hSw; (try dsimp only at hSw); go_simp; (try with_reducible rfl))
          try simp only [Act.put, List.setIfInBounds_toArray, List.set_cons_zero, List.set_cons_succ, List.getElem_toArray, List.getElem_cons_zero, List.getElem_cons_succ]
          refine wpN_pure (i := 4) (v := ?v45) rfl (by kernel_rfl) (fun _ _ _ h => h) (Or.inl ⟨by rfl, ?hy45⟩) ?hr45
          case hy45 => (intro wS hSw; go_simp; (try with_reducible rfl))
          try simp only [Act.put, List.setIfInBounds_toArray, List.set_cons_zero, List.set_cons_succ, List.getElem_toArray, List.getElem_cons_zero, List.getElem_cons_succ]
          refine wpN_pure (i := 5) (v := ?v46) rfl (by kernel_rfl) (fun _ _ _ h => h) (Or.inl ⟨by rfl, ?hy46⟩) ?hr46
          case hy46 => (intro wS hSw; go_simp; (try with_reducible rfl))
          try simp only [Act.put, List.setIfInBounds_toArray, List.set_cons_zero, List.set_cons_succ, List.getElem_toArray, List.getElem_cons_zero, List.getElem_cons_succ]
          refine wpN_pure (i := 6) (v := ?v47) rfl (by kernel_rfl) (fun _ _ _ h => h) (Or.inl ⟨by rfl, ?hy47⟩) ?hr47
          case hy47 => (intro wS hSw; go_simp; (try with_reducible rfl))
          try simp only [Act.put, List.setIfInBounds_toArray, List.set_cons_zero, List.set_cons_succ, List.getElem_toArray, List.getElem_cons_zero, List.getElem_cons_succ]
          refine wpN_pure (i := 7) (v := ?v48) rfl (by kernel_rfl) (fun _ _ _ h => h) (Or.inl ⟨by rfl, ?hy48⟩) ?hr48
          case hy48 => (intro wS hSw; go_simp; (try with_reducible rfl))
          try simp only [Act.put, List.setIfInBounds_toArray, List.set_cons_zero, List.set_cons_succ, List.getElem_toArray, List.getElem_cons_zero, List.getElem_cons_succ]
          refine wpN_take (i := 8) (v := ?v49) rfl (by kernel_rfl) (fun _ _ _ h => h) hS (Or.inl ⟨by rfl, ?hy49⟩) ?hr49
          case hy49 => (intro wS hSw; (try dsimp only at hSw); go_simp; (try with_reducible rfl))
          try simp only [Act.put, List.setIfInBounds_toArray, List.set_cons_zero, List.set_cons_succ, List.getElem_toArray, List.getElem_cons_zero, List.getElem_cons_succ]
          refine wpN_pure (i := 9) (v := ?v50) rfl (by kernel_rfl) (fun _ _ _ h => h) (Or.inl ⟨by rfl, ?hy50⟩) ?hr50
          case hy50 => (intro wS hSw; go_simp; (try with_reducible rfl))
          try simp only [Act.put, List.setIfInBounds_toArray, List.set_cons_zero, List.set_cons_succ, List.getElem_toArray, List.getElem_cons_zero, List.getElem_cons_succ]
          refine wpN_pure (i := 10) (v := ?v51) rfl (by kernel_rfl) (fun _ _ _ h => h) (Or.inl ⟨by rfl, ?hy51⟩) ?hr51
          case hy51 => (intro wS hSw; go_simp; (try with_reducible rfl))
          try simp only [Act.put, List.setIfInBounds_toArray, List.set_cons_zero, List.set_cons_succ, List.getElem_toArray, List.getElem_cons_zero, List.getElem_cons_succ]
          refine wpN_pure (i := 11) (v := ?v52) rfl (by kernel_rfl) (fun _ _ _ h => h) (Or.inl ⟨by rfl, ?hy52⟩) ?hr52
          case hy52 => (intro wS hSw; go_simp; (try with_reducible rfl))
          try simp only [Act.put, List.setIfInBounds_toArray, List.set_cons_zero, List.set_cons_succ, List.getElem_toArray, List.getElem_cons_zero, List.getElem_cons_succ]
          refine wpN_pure (i := 12) (v := ?v53) rfl (by kernel_rfl) (fun _ _ _ h => h) (Or.inl ⟨by rfl, ?hy53⟩) ?hr53
          case hy53 => (intro wS hSw; go_simp; (try with_reducible rfl))
          try simp only [Act.put, List.setIfInBounds_toArray, List.set_cons_zero, List.set_cons_succ, List.getElem_toArray, List.getElem_cons_zero, List.getElem_cons_succ]
          refine wpN_take (i := 13) (v := ?v54) rfl (by kernel_rfl) (fun _ _ _ h => h) hS (Or.inl ⟨by rfl, ?hy54⟩) ?hr54
          case hy54 => (intro wS hSw; (try dsimp only at hSw); go_simp; (try with_reducible rfl))
          try simp only [Act.put, List.setIfInBounds_toArray, List.set_cons_zero, List.set_cons_succ, List.getElem_toArray, List.getElem_cons_zero, List.getElem_cons_succ]
          refine wpN_pure (i := 14) (v := ?v55) rfl (by kernel_rfl) (fun _ _ _ h => h) (Or.inl ⟨by rfl, ?hy55⟩) ?hr55
          case hy55 => (intro wS hSw; go_simp; (try with_reducible rfl))
          try simp only [Act.put, List.setIfInBounds_toArray, List.set_cons_zero, List.set_cons_succ, List.getElem_toArray, List.getElem_cons_zero, List.getElem_cons_succ]
          refine wpN_pure (i := 15) (v := ?v56) rfl (by kernel_rfl) (fun _ _ _ h => h) (Or.inl ⟨by rfl, ?hy56⟩) ?hr56
          case hy56 => (intro wS hSw; go_simp; (try with_reducible rfl))
          try simp only [Act.put, List.setIfInBounds_toArray, List.set_cons_zero, List.set_cons_succ, List.getElem_toArray, List.getElem_cons_zero, List.getElem_cons_succ]
          refine wpN_take (i := 16) (v := ?v57) rfl (by kernel_rfl) (fun _ _ _ h => h) hS (Or.inl ⟨by rfl, ?hy57⟩) ?hr57
          case hy57 => (intro wS hSw; (try dsimp only at hSw); go_simp; (try with_reducible rfl))
          try simp only [Act.put, List.setIfInBounds_toArray, List.set_cons_zero, List.set_cons_succ, List.getElem_toArray, List.getElem_cons_zero, List.getElem_cons_succ]
          refine wpN_pure (i := 17) (v := ?v58) rfl (by kernel_rfl) (fun _ _ _ h => h) (Or.inl ⟨by rfl, ?hy58⟩) ?hr58
          case hy58 => (intro wS hSw; go_simp; (try with_reducible rfl))
          try simp only [Act.put, List.setIfInBounds_toArray, List.set_cons_zero, List.set_cons_succ, List.getElem_toArray, List.getElem_cons_zero, List.getElem_cons_succ]
          refine wpN_pure (i := 18) (v := ?v59) rfl (by kernel_rfl) (fun _ _ _ h => h) (Or.inl ⟨by rfl, ?hy59⟩) ?hr59
          case hy59 => (intro wS hSw; go_simp; (try with_reducible rfl))
          try simp only [Act.put, List.setIfInBounds_toArray, List.set_cons_zero, List.set_cons_succ, List.getElem_toArray, List.getElem_cons_zero, List.getElem_cons_succ]
          refine wpN_pure (i := 19) (v := ?v60) rfl (by kernel_rfl) (fun _ _ _ h => h) (Or.inl ⟨by rfl, ?hy60⟩) ?hr60
          case hy60 => (intro wS hSw; go_simp; (try with_reducible rfl))
          try simp only [Act.put, List.setIfInBounds_toArray, List.set_cons_zero, List.set_cons_succ, List.getElem_toArray, List.getElem_cons_zero, List.getElem_cons_succ]
          refine wpN_take (i := 20) (v := ?v61) rfl (by kernel_rfl) (fun _ _ _ h => h) hS (Or.inl ⟨by rfl, ?hy61⟩) ?hr61
          case hy61 => (intro wS hSw; (try dsimp only at hSw); go_simp; (try with_reducible rfl))
          try simp only [Act.put, List.setIfInBounds_toArray, List.set_cons_zero, List.set_cons_succ, List.getElem_toArray, List.getElem_cons_zero, List.getElem_cons_succ]
          refine wpN_pure (i := 21) (v := ?v62) rfl (by kernel_rfl) (fun _ _ _ h => h) (Or.inl ⟨by rfl, ?hy62⟩) ?hr62
          case hy62 => (intro wS hSw; go_simp; (try with_reducible rfl))
          try simp only [Act.put, List.setIfInBounds_toArray, List.set_cons_zero, List.set_cons_succ, List.getElem_toArray, List.getElem_cons_zero, List.getElem_cons_succ]
          refine wpN_pure (i := 22) (v := ?v63) rfl (by kernel_rfl) (fun _ _ _ h => h) (Or.inl ⟨by rfl, ?hy63⟩) ?hr63
          case hy63 => (intro wS hSw; go_simp; (try with_reducible rfl))
          try simp only [Act.put, List.setIfInBounds_toArray, List.set_cons_zero, List.set_cons_succ, List.getElem_toArray, List.getElem_cons_zero, List.getElem_cons_succ]
          refine wpN_take (i := 23) (v := ?v64) rfl (by kernel_rfl) (fun _ _ _ h => h) hS (Or.inl ⟨by rfl, ?hy64⟩) ?hr64
          case hy64 => (intro wS hSw; (try dsimp only at hSw); go_simp; (try with_reducible rfl))
          try simp only [Act.put, List.setIfInBounds_toArray, List.set_cons_zero, List.set_cons_succ, List.getElem_toArray, List.getElem_cons_zero, List.getElem_cons_succ]
          refine wpN_pure (i := 24) (v := ?v65) rfl (by kernel_rfl) (fun _ _ _ h => h) (Or.inl ⟨by rfl, ?hy65⟩) ?hr65
          case hy65 => (intro wS hSw; go_simp; (try with_reducible rfl))
          try simp only [Act.put, List.setIfInBounds_toArray, List.set_cons_zero, List.set_cons_succ, List.getElem_toArray, List.getElem_cons_zero, List.getElem_cons_succ]
          have hrD := hr7.below (Below.refl _ _).drew
          have hqD := hq7.below (Below.refl _ _).drew
          have BD := B7'.drew
          obtain ⟨w7, hw7⟩ : ∃ w7, wr.drew = w7 := ⟨_, rfl⟩
          rw [hw7] at hrD hqD BD hS ⊢
          obtain ⟨g7, _, hve, -, -, -, hcell, hfree⟩ := hrD.open_ (by rw [hl'.out]; omega)
          have hge : g = g7 := by injection hve with q1 q2 q3; cases q1; rfl
          subst hge
          clear hve
          have f1 := hfree (i * 3); have f2 := hfree (i * 3 + 1); have f3 := hfree (i * 3 + 2)
          have f4 := hfree (b * 3); have f5 := hfree (b * 3 + 1); have f6 := hfree (b * 3 + 2)
          obtain ⟨a0, a1, a2⟩ := hcell i (by rw [hl'.out]; omega)
          obtain ⟨b0, b1, b2⟩ := hcell b (by rw [hl'.out]; omega)
          refine wpN_step (i := 25) (by kernel_rfl) rfl (fun K hK => ?_)
          go_simp
          have Ra : (⟨ak, aw, ag⟩ : Ent) = Hp.at_ l' i := Ha.out.symm
          have Rb : (⟨bk, bw, bg⟩ : Ent) = Hp.at_ l' b := Hb.out.symm
          have hr8 := hrD.set i (by rw [hl'.out]; omega) ⟨bk, bw, bg⟩ (g := g) (cap := cap) (by rw [hl'.out])
          dsimp only at hr8
          have hq8 : Blk (((w7.setCell ⟨g, i * 3, none⟩ (.int .i64 bk)).setCell ⟨g, i * 3 + 1, none⟩ (.int .i64 bw)).setCell ⟨g, i * 3 + 2, none⟩ (.int .i64 bg)) q cs3 t := ((hqD.far _ _ (Ne.symm hgq)).far _ _ (Ne.symm hgq)).far _ _ (Ne.symm hgq)
          have B8 := ((BD.set ⟨g, i * 3, none⟩ (.int .i64 bk) hT).set ⟨g, i * 3 + 1, none⟩ (.int .i64 bw) hT).set ⟨g, i * 3 + 2, none⟩ (.int .i64 bg) hT
          obtain ⟨w8, hw8⟩ : ∃ w8, ((w7.setCell ⟨g, i * 3, none⟩ (.int .i64 bk)).setCell ⟨g, i * 3 + 1, none⟩ (.int .i64 bw)).setCell ⟨g, i * 3 + 2, none⟩ (.int .i64 bg) = w8 := ⟨_, rfl⟩
          rw [hw8] at hr8 hq8 B8 ⊢
          clear hw8 hrD hqD BD hS
          have hl8 : (l'.set i ⟨bk, bw, bg⟩).length = n := by rw [List.length_set, hl'.out]
          obtain ⟨g8, _, hve, -, -, -, hcell8, hfree8⟩ := hr8.open_ (by rw [hl8]; omega)
          have hge : g = g8 := by injection hve with q1 q2 q3; cases q1; rfl
          subst hge
          clear hve
          have f4 := hfree8 (b * 3); have f5 := hfree8 (b * 3 + 1); have f6 := hfree8 (b * 3 + 2)
          clear f1 f2 f3
          obtain ⟨d0, d1, d2⟩ := hcell8 b (by rw [hl8]; omega)
          refine hK.out _ _ (fun h => absurd h (by decide)) ?_
          clear hK K
          try simp only [Act.put, List.setIfInBounds_toArray, List.set_cons_zero, List.set_cons_succ, List.getElem_toArray, List.getElem_cons_zero, List.getElem_cons_succ]
          refine wpN_pure (i := 26) (v := ?v66) rfl (by kernel_rfl) (fun _ _ _ h => h) (Or.inl ⟨by rfl, ?hy66⟩) ?hr66
          case hy66 => (intro wS hSw; go_simp; (try with_reducible rfl))
          try simp only [Act.put, List.setIfInBounds_toArray, List.set_cons_zero, List.set_cons_succ, List.getElem_toArray, List.getElem_cons_zero, List.getElem_cons_succ]
          refine wpN_step (i := 27) (by kernel_rfl) rfl (fun K hK => ?_)
          go_simp
          have hr9 := hr8.set b (by rw [hl8]; omega) ⟨ak, aw, ag⟩ (g := g) (cap := cap) (by rw [hl8])
          dsimp only at hr9
          have hq9 : Blk (((w8.setCell ⟨g, b * 3, none⟩ (.int .i64 ak)).setCell ⟨g, b * 3 + 1, none⟩ (.int .i64 aw)).setCell ⟨g, b * 3 + 2, none⟩ (.int .i64 ag)) q cs3 t := ((hq8.far _ _ (Ne.symm hgq)).far _ _ (Ne.symm hgq)).far _ _ (Ne.symm hgq)
          have B9 := ((B8.set ⟨g, b * 3, none⟩ (.int .i64 ak) hT).set ⟨g, b * 3 + 1, none⟩ (.int .i64 aw) hT).set ⟨g, b * 3 + 2, none⟩ (.int .i64 ag) hT
          have hsw : (l'.set i ⟨bk, bw, bg⟩).set b ⟨ak, aw, ag⟩ = Hp.swap l' i b := by unfold Hp.swap; rw [← Ra, ← Rb]
          rw [hsw] at hr9
          obtain ⟨w9, hw9⟩ : ∃ w9, ((w8.setCell ⟨g, b * 3, none⟩ (.int .i64 ak)).setCell ⟨g, b * 3 + 1, none⟩ (.int .i64 aw)).setCell ⟨g, b * 3 + 2, none⟩ (.int .i64 ag) = w9 := ⟨_, rfl⟩
          rw [hw9] at hr9 hq9 B9 ⊢
          clear hw9
          refine hK.out _ _ (fun h => absurd h (by decide)) ?_
          clear hK K
          try simp only [Act.put, List.setIfInBounds_toArray, List.set_cons_zero, List.set_cons_succ, List.getElem_toArray, List.getElem_cons_zero, List.getElem_cons_succ]
          refine wpN_done (by kernel_rfl) ?_
          refine NoPanic.normal ?_
          go_wp2_with fail
          go_roundw
          case rel => exact ⟨b, Hp.swap l' i b, rfl, .inl hbn, by show _ = _; rw [Hp.length_swap, hl'.out], hperm.out, hDn.out, hr9, hq9, B9⟩
          case measure => simp [intOf]; omega
end Go.Proofs.Ytplfbdkljnblmaa

namespace Go.Proofs.Ytplfbdkljnblmaa
open Go.RowKit Go.Maps

def encD (e : Ent) : DataW Unit := .agg [.lit (.int .i64 e.key), .lit (.int .i64 e.weight), .lit (.int .i64 e.age)]
def rE (v : Value) : Option (DataW Unit × List MemPlace) :=
  match v with
  | .agg a => (match a.toList with
    | [.int .i64 x, .int .i64 y, .int .i64 z] => some (.agg [.lit (.int .i64 x), .lit (.int .i64 y), .lit (.int .i64 z)], [])
    | _ => none)
  | _ => none
theorem rE_mk (e : Ent) : rE e.v = some (encD e, []) := rfl
theorem rE_inv {v : Value} {e : Ent} {ps : List MemPlace} (h : rE v = some (encD e, ps)) : v = e.v := by
  unfold rE at h
  split at h
  · rename_i a
    split at h
    · rename_i x y z hl
      simp only [encD, Option.some.injEq, Prod.mk.injEq, DataW.agg.injEq, List.cons.injEq, DataW.lit.injEq, Lit.int.injEq, true_and, and_true] at h
      obtain ⟨⟨rfl, rfl, rfl⟩, -⟩ := h
      unfold Ent.v
      congr 1
      exact Array.toList_inj.1 (by simpa using hl)
    · cases h
  · cases h

def W64 (n : Int) : Prop := -9223372036854775808 ≤ n ∧ n ≤ 9223372036854775807
theorem wf_of (n : Int) (h : W64 n) : (Lit.int .i64 n).wf = true := by
  simp [Lit.wf, IntKind.min, IntKind.max, IntKind.signed, IntKind.bits]
  exact h

theorem key_ty : Try.prog.underlying 3 = some (.int .i64) := by kernel_rfl
theorem keyed : Keyed Try.prog 3 := int_keyed key_ty
theorem keyK {k : Int} (h : W64 k) : keyOf Try.prog 3 (.int .i64 k) = some (.int .i64 k) := keyOf_int_mk key_ty (wf_of k h)
theorem map_ty : Try.prog.underlying 60 = some (.map 3 30) := by kernel_rfl
theorem zeroE (w : World) : (zeroValue 30).run Try.prog w = .ok Hp.z0.v w := by kernel_rfl

def findK (L : List Ent) (k : Int) : Option Ent := L.find? fun e => e.key == k
def MapOf (w : World) (b n : Nat) (L : List Ent) : Prop :=
  ∃ D : DataW Unit, w.ownsMap Try.prog 3 rE b n D ∧ Maps.size D = L.length ∧ ∀ k : Int, match findK L k with
    | none => Maps.has D (.int .i64 k) = false
    | some e => Maps.has D (.int .i64 k) = true ∧ ∀ z, D.atKey (.int .i64 k) z = encD e
namespace MapOf
variable {w w' : World} {b n : Nat} {L : List Ent}
theorem of_block (h : MapOf w b n L) (hb : w'.heap[b]? = w.heap[b]?) : MapOf w' b n L := by
  obtain ⟨D, ⟨es, clock, h1, h2⟩, h3⟩ := h
  exact ⟨D, ⟨es, clock, hb.trans h1, h2⟩, h3⟩
theorem lt (h : MapOf w b n L) : b < w.heap.size := h.choose_spec.1.lt
theorem below (h : MapOf w b n L) (hb : Below w.heap.size w w') : MapOf w' b n L := h.of_block (hb.block b h.lt)
theorem off {F : Nat → Prop} (h : MapOf w b n L) (ho : Off F w w') (hF : ¬ F b) : MapOf w' b n L := h.of_block (ho.block b h.lt hF)
theorem drew (h : MapOf w b n L) : MapOf w.drew b n L := h.below (Below.refl _ _).drew
theorem far (h : MapOf w b n L) (p : Addr) (u : Value) (hp : b ≠ p.block) : MapOf (w.setCell p u) b n L := h.of_block (Below.heap_setCell _ _ _ _ hp)
theorem made (w : World) : MapOf (w.alloc (.map #[] 0)) w.heap.size 0 [] := ⟨_, World.ownsMap_made _ _ _ _, rfl, fun k => rfl⟩
theorem mono (h : MapOf w b n L) {m : Nat} (hm : n ≤ m) : MapOf w b m L := by
  obtain ⟨D, h1, h2⟩ := h
  exact ⟨D, h1.mono hm, h2⟩
theorem look (h : MapOf w b n L) {k : Int} (hk : W64 k) : (Instr.lookup 60 (.map (some b)) (.int .i64 k) true).run Try.prog w = .ok (.tuple #[((findK L k).getD Hp.z0).v, .bool (findK L k).isSome]) w := by
  obtain ⟨D, h1, h2, h3⟩ := h
  obtain ⟨v, ps, hr, hv⟩ := h1.look_ok keyed map_ty (zeroE w) (rE_mk Hp.z0) (keyK hk)
  rw [hr]
  have h4 := h3 k
  cases hf : findK L k with
  | none =>
    rw [hf] at h4
    dsimp only at h4
    rw [atKey_of_not_has h4] at hv
    rw [h4, rE_inv hv]; rfl
  | some e =>
    rw [hf] at h4
    dsimp only at h4
    rw [h4.2] at hv
    rw [h4.1, rE_inv hv]; rfl
theorem len (h : MapOf w b n L) (ty : TypeId) : (Builtin.len_ #[60] ty #[.map (some b)]).run Try.prog w = .ok (.int .i64 L.length) w := by
  obtain ⟨D, h1, h2, h3⟩ := h
  rw [← h2]
  exact h1.len map_ty ty

theorem findK_append (L : List Ent) (x : Ent) (k : Int) : findK (L ++ [x]) k = (findK L k).or (if x.key = k then some x else none) := by
  unfold findK
  rw [List.find?_append]
  by_cases h : x.key = k <;> simp [h]

theorem store (h : MapOf w b n L) (hn : n < maxLen) (e : Ent) (he : W64 e.key) (hnew : findK L e.key = none) :
    ∃ w', (Instr.mapUpdate 60 (.map (some b)) (.int .i64 e.key) e.v).run Try.prog w = .ok () w' ∧ MapOf w' b (n + 1) (L ++ [e]) ∧ w.grownBy w' (some b) := by
  obtain ⟨D, h1, h2, h3⟩ := h
  obtain ⟨w', hr, h4, h5⟩ := h1.store keyed map_ty hn (keyK he) (rE_mk e)
  have hno : Maps.has D (.int .i64 e.key) = false := by have := h3 e.key; rw [hnew] at this; exact this
  refine ⟨w', hr, ⟨_, h4, ?_, fun k => ?_⟩, h5.grown⟩
  · rw [size_put (h1.tidy keyed), hno, h2]; simp
  · rw [findK_append]
    by_cases hk : e.key = k
    · subst hk
      rw [hnew, if_pos rfl]
      have hkl : WideAt.IsKeyLit (Lit.int .i64 e.key) := by unfold WideAt.IsKeyLit; trivial
      exact ⟨has_put_same h1.isMap hkl _, fun z => atKey_put_same h1.isMap hkl _ _⟩
    · rw [if_neg hk, Option.or_none]
      have hne : Lit.int .i64 k ≠ Lit.int .i64 e.key := fun h => hk (by cases h; rfl)
      have h6 := h3 k
      cases hf : findK L k with
      | none => rw [hf] at h6; exact (has_put_other hne _).trans h6
      | some e' => rw [hf] at h6; exact ⟨(has_put_other hne _).trans h6.1, fun z => (atKey_put_other hne _ _).trans (h6.2 z)⟩

def less (L : List Ent) (k : Int) : List Ent := L.filter fun e => e.key != k
theorem findK_less (L : List Ent) (k k' : Int) : findK (less L k) k' = if k' = k then none else findK L k' := by
  unfold findK less
  induction L with
  | nil => simp
  | cons e L ih =>
    by_cases h1 : e.key = k
    · subst h1
      simp only [List.filter_cons, bne_self_eq_false, Bool.false_eq_true, if_false]
      rw [ih]
      by_cases h2 : k' = e.key
      · rw [if_pos h2, if_pos h2]
      · rw [if_neg h2, if_neg h2, List.find?_cons_of_neg (by simpa using fun h => h2 h.symm)]
    · have : (e.key != k) = true := by simpa using h1
      simp only [List.filter_cons, this, if_true]
      by_cases h2 : e.key = k'
      · rw [List.find?_cons_of_pos (by simpa using h2), List.find?_cons_of_pos (by simpa using h2), if_neg (by rw [← h2]; exact h1)]
      · rw [List.find?_cons_of_neg (by simpa using h2), List.find?_cons_of_neg (by simpa using h2), ih]
theorem length_less {L : List Ent} (hL : (L.map Ent.key).Nodup) (k : Int) : (less L k).length + (if (findK L k).isSome then 1 else 0) = L.length := by
  induction L with
  | nil => simp [less, findK]
  | cons e L ih =>
    simp only [List.map_cons, List.nodup_cons] at hL
    have ih := ih hL.2
    by_cases h1 : e.key = k
    · subst h1
      have h2 : less L e.key = L := by
        unfold less
        rw [List.filter_eq_self]
        intro x hx
        have : x.key ≠ e.key := fun h => hL.1 (h ▸ List.mem_map.2 ⟨x, hx, rfl⟩)
        simpa using this
      have h3 : less (e :: L) e.key = less L e.key := by simp [less]
      have h4 : (findK (e :: L) e.key).isSome = true := by simp [findK]
      rw [h3, h2, h4]; simp
    · have h3 : less (e :: L) k = e :: less L k := by simp [less, h1]
      have h4 : findK (e :: L) k = findK L k := by unfold findK; rw [List.find?_cons_of_neg (by simpa using h1)]
      rw [h3, h4]; simp only [List.length_cons]; omega
theorem drop (h : MapOf w b n L) (hL : (L.map Ent.key).Nodup) {k : Int} (hk : W64 k) (ty : TypeId) :
    ∃ w', (Builtin.delete_ #[60, 3] ty #[.map (some b), .int .i64 k]).run Try.prog w = .ok (.tuple #[]) w' ∧ MapOf w' b n (less L k) ∧ w.grownBy w' (some b) := by
  obtain ⟨D, h1, h2, h3⟩ := h
  obtain ⟨w', hr, h4, h5⟩ := h1.drop keyed map_ty (keyK hk) ty
  refine ⟨w', hr, ⟨_, h4, ?_, fun k' => ?_⟩, h5.grown⟩
  · have h6 := size_del (k := .int .i64 k) (h1.tidy keyed)
    have h7 := length_less hL k
    have h8 := h3 k
    cases hf : findK L k with
    | none => rw [hf] at h8 h7; rw [h8] at h6; simp at h6 h7; omega
    | some e => rw [hf] at h8 h7; rw [h8.1] at h6; simp at h6 h7; omega
  · rw [findK_less]
    by_cases hkk : k' = k
    · subst hkk; rw [if_pos rfl]; exact has_del_same
    · rw [if_neg hkk]
      have hne : Lit.int .i64 k' ≠ Lit.int .i64 k := fun h => hkk (by cases h; rfl)
      have h6 := h3 k'
      cases hf : findK L k' with
      | none => rw [hf] at h6; exact (has_del_other hne).trans h6
      | some e' => rw [hf] at h6; exact ⟨(has_del_other hne).trans h6.1, fun z => (atKey_del_other hne _).trans (h6.2 z)⟩
end MapOf
end Go.Proofs.Ytplfbdkljnblmaa

